/- spec.Copy, reduce.Missing and the law ReduceMissing, walked (one text: a claim has at most 60 files; made of XDCopy2, XDMiss, XDMissLaw). -/
import Derived.Test.YtpminhafljlldaaDoorDCopy
import Derived.Test.YtpminhafljlldaaDoorDBigL
import Derived.Test.YtpminhafljlldaaDoorQBools
import Derived.OwnWalk
import Derived.Test.YtpminhafljlldaaDoorQRed2
import Derived.Test.YtpminhafljlldaaDoorQAlive
import Derived.Test.YtpminhafljlldaaDoorDReach
import Derived.Test.YtpminhafljlldaaDoorQAlive13
import Derived.Test.YtpminhafljlldaaDoorQFix
import Derived.Test.YtpminhafljlldaaDoorQStep
namespace Go.Proofs.YtpminhafljlldaaDoor
open Go.RowKit
open Q (It Ver Tm Sp Rc Dm)


theorem Tryd.infoTm : (Tryd.prog.info? 115).map (fun i => (i.zero, i.size, i.bytes)) = some (some (.agg #[.string ⟨#[]⟩, .int .i64 0, .slice none 0 0, .slice none 0 0]), 4, 72) := by kernel_rfl
theorem Tryd.infoTms : (Tryd.prog.info? 116).map (fun i => (i.zero, i.size, i.bytes)) = some (some (.slice none 0 0), 1, 24) := by kernel_rfl
theorem take_set4 {cells : List Value} {m : Nat} {v0 v1 v2 v3 : Value} (h : m * 4 + 4 ≤ cells.length) :
    ((((cells.set (m * 4) v0).set (m * 4 + 1) v1).set (m * 4 + 2) v2).set (m * 4 + 3) v3).take ((m + 1) * 4) = cells.take (m * 4) ++ [v0, v1, v2, v3] := by
  apply List.ext_getElem?
  intro i
  rw [List.getElem?_take]
  by_cases h1 : i < m * 4
  · rw [if_pos (by omega), List.getElem?_append_left (by simp; omega), List.getElem?_take, if_pos h1, List.getElem?_set_ne (by omega), List.getElem?_set_ne (by omega), List.getElem?_set_ne (by omega), List.getElem?_set_ne (by omega)]
  · rw [List.getElem?_append_right (by simp; omega), List.length_take, Nat.min_eq_left (by omega)]
    by_cases h2 : i < (m + 1) * 4
    · rw [if_pos h2]
      obtain ⟨j, rfl⟩ : ∃ j, i = m * 4 + j := ⟨i - m * 4, by omega⟩
      have hj : j = 0 ∨ j = 1 ∨ j = 2 ∨ j = 3 := by omega
      rw [show m * 4 + j - m * 4 = j by omega]
      rcases hj with rfl | rfl | rfl | rfl
      · rw [List.getElem?_set_ne (by omega), List.getElem?_set_ne (by omega), List.getElem?_set_ne (by omega), Nat.add_zero, List.getElem?_set_self (by omega)]; rfl
      · rw [List.getElem?_set_ne (by omega), List.getElem?_set_ne (by omega), List.getElem?_set_self (by simp; omega)]; rfl
      · rw [List.getElem?_set_ne (by omega), List.getElem?_set_self (by simp; omega)]; rfl
      · rw [List.getElem?_set_self (by simp; omega)]; rfl
    · rw [if_neg h2, List.getElem?_eq_none (by simp; omega)]
theorem Flat.four {α : Type} {R : Rd α} {w : World} {x : α} {v0 v1 v2 v3 : Value} (h : R w [v0, v1, v2, v3] x) : Flat R 4 w [x] [v0, v1, v2, v3] := by
  refine ⟨by simp, fun i y hy => ?_⟩
  match i, hy with
  | 0, hy =>
    simp at hy; subst hy
    refine ⟨[v0, v1, v2, v3], rfl, fun j hj => ?_, h⟩
    simp
theorem RTm.iv {w : World} {t : Tm} {us : List Value} {lo hi : Nat} (hs : SzS t.op) (h : Iv RVer lo hi w us t.ver) : Iv RTm lo hi w (.string t.op :: us) t := ⟨h.1, fun w' h1 h2 => ⟨us, rfl, hs, h.2 w' h1 h2⟩⟩
theorem RSp.iv {w : World} {s : Sp} {r : Value} {lo hi : Nat} (h1 : SzS s.chan) (h2 : SzS s.name) (h3 : SzS s.build) (h4 : I64 s.num) (h : Iv (RS (RS RTm 4) 1) lo hi w [r] s.rows) : Iv RSp lo hi w [.string s.chan, .string s.name, r, .string s.build, .int .i64 s.num] s :=
  ⟨h.1, fun w' h5 h6 => ⟨r, rfl, h1, h2, h3, h4, h.2 w' h5 h6⟩⟩
theorem Sl.tmSz {w : World} {a : Option Addr} {xs : List Tm} (h : Sl RTm 4 w a xs) {i : Nat} {x : Tm} (hx : xs[i]? = some x) : SzS x.op ∧ I64 x.ver.ep := by
  obtain ⟨b, off, e, hlt, hc⟩ := h.addr (by have := (List.getElem?_eq_some_iff.1 hx).1; omega)
  obtain ⟨us, u1, u2, vs, u3, h1, ⟨p, l, _, h2, _⟩⟩ := hc i x hx
  exact ⟨h1, h2⟩
theorem own_frozen {e k : Nat} {w : World} {base g c n : Nat} {cells : List Value} (h : Own e k w base (some ⟨g, 0, none⟩) c n cells) (i : Nat) : w.frozen? ⟨g, i, none⟩ = false := by
  rcases h.parts with ⟨e, _⟩ | ⟨g', cur, e, _, _, hg, _⟩
  · cases e
  · cases e; simp [World.frozen?, hg]
/-- a spec came back, in new memory -/
def NewSp (w : World) (s : Sp) (e : Ending) (w' : World) : Prop := ∃ a c, e = .returned (.agg #[.string s.chan, .string s.name, .slice a s.rows.length c, .string s.build, .int .i64 s.num]) ∧ Iv RSp w.heap.size w'.heap.size w' [.string s.chan, .string s.name, .slice a s.rows.length c, .string s.build, .int .i64 s.num] s ∧ Below w.heap.size w w'
set_option maxHeartbeats 4000000 in
set_option maxRecDepth 100000 in
theorem copySp_any (s : Sp) (ra : Option Addr) (rc : Nat) (w : World) (h : SpAt w s ra rc) (hs1 : SzS s.chan) (hs2 : SzS s.name) (hsm : SmallSp s) :
    Calls Tryd.prog 61 #[.agg #[.string s.chan, .string s.name, .slice ra s.rows.length rc, .string s.build, .int .i64 s.num]] w (NewSp w s) := by
  have H := Lib.hid h
  have hl := h.rows.len
  have HS1 := Lib.hid hs1
  have HS2 := Lib.hid hs2
  have HSM := Lib.hid hsm
  obtain ⟨i0, hi, hz0, hz1, hz2⟩ := info_parts Tryd.infoTm
  have HI0 := Lib.hid hi
  have HI1 := Lib.hid hz0
  have HI2 := Lib.hid hz1
  have HI3 := Lib.hid hz2
  clear h hs1 hs2 hsm hi hz0 hz1 hz2
  go_enter Tryd.func61, Tryd.ntmps61
  go_wp2
  generalize hW : (w.alloc _).alloc _ = W
  have h0 : Below w.heap.size w W := by subst hW; exact (b1 _ _).alloc (by simp) _
  have hz : W.heap.size = w.heap.size + 2 := by subst hW; simp
  have hbx : W.heap[w.heap.size]? = some (.cells #[.string s.chan, .string s.name, .slice ra s.rows.length rc, .string s.build, .int .i64 s.num] 35 (0, 0)) := by subst hW; exact heap_alloc_keep (heap_alloc_new _ _) _
  have hrs : W.heap[w.heap.size + 1]? = some (.cells #[.string ⟨#[]⟩, .string ⟨#[]⟩, .slice none 0 0, .string ⟨#[]⟩, .int .i64 0] 35 (0, 0)) := by subst hW; exact heap_alloc_new2 _ _ (by simp)
  have H0 := Lib.hid h0
  have HZ := Lib.hid hz
  have HBX := Lib.hid hbx
  have HRS := Lib.hid hrs
  clear h0 hz hbx hrs hW
  go_loopw [3, 5, 6, 7, 8, 13] (fun s3 _ _ _ _ i wr => ∃ (k : Nat) (pa : Option Addr) (pc : Nat) (cells : List Value), k ≤ s.rows.length ∧ i = .int .i64 k ∧ s3 = .slice pa k pc ∧ Own 116 1 wr W.heap.size pa pc k cells ∧ Flat (Ev (RS RTm 4) W.heap.size pa) 1 wr (s.rows.take k) cells ∧ Below W.heap.size W wr) (fun _ _ _ _ _ i _ => s.rows.length - (intOf i).toNat)
  case atStart => exact ⟨0, none, 0, [], by omega, rfl, rfl, Own.nil _ _ _ _, Flat.nil _ _ _, Below.refl _ _⟩
  case round =>
    obtain ⟨k, pa, pc, cells, hk, rfl, rfl, hown, hfl, hbr⟩ := hrel
    have HO := Lib.hid hown
    have HF := Lib.hid hfl
    have HB := Lib.hid hbr
    clear hown hfl hbr
    by_cases hlt : k < s.rows.length
    · obtain ⟨x, hx⟩ : ∃ x, s.rows[k]? = some x := ⟨s.rows[k], by simp [hlt]⟩
      obtain ⟨bb, off, a', c', rfl, hbl, t0, hsx⟩ := (H.out.rows.below (stays_RS stays_RTm) (fin H0.out HB.out)).cellRow hx
      have hx20 : x.length ≤ 20 := HSM.out x (List.mem_of_getElem? hx)
      have HX := Lib.hid hx
      have HSX := Lib.hid hsx
      clear hx hsx
      obtain ⟨wo, rfl⟩ : ∃ wo : World, wo = wr := ⟨_, rfl⟩
      go_wp2_with (at_make; refine wpList_make_full _ rfl (.tmp 18) (.tmp 18) 116 rfl wo.heap.size 115 i0 (.agg #[.string ⟨#[]⟩, .int .i64 0, .slice none 0 0, .slice none 0 0]) 4 Tryd.underlying116 HI0.out HI1.out HI2.out .i64 .i64 x.length x.length x.length rfl rfl rfl rfl (by rw [HI3.out]; omega) (by unfold maxLen; omega) (Nat.le_refl _) ?_; intro w5 hown5 hg5; have HO5 := Lib.hid hown5; have HB5 := Lib.hid (show Below wo.heap.size wo w5 from ⟨hg5.os, hg5.tape, hg5.output, hg5.size, fun k hk => hg5.block k hk (by simp)⟩); clear hown5 hg5)
      clear t0
      go_loopw [7, 8, 22] (fun _ _ i wr => ∃ (m : Nat) (tc : List Value), m ≤ x.length ∧ i = .int .i64 m ∧ Own 115 4 wr wo.heap.size (some ⟨wo.heap.size, 0, none⟩) x.length x.length tc ∧ Flat (Ev RTm wo.heap.size (some ⟨wo.heap.size, 0, none⟩)) 4 wr (x.take m) (tc.take (m * 4)) ∧ Below wo.heap.size wo wr) (fun _ _ i _ => x.length - (intOf i).toNat)
      case atStart => exact ⟨0, _, by omega, rfl, HO5.out, (by simpa using Flat.nil _ _ _), HB5.out⟩
      case round =>
        obtain ⟨m, tc, hm, rfl, hown, hfl, hbr⟩ := hrel
        have HO2 := Lib.hid hown
        have HF2 := Lib.hid hfl
        have HB2 := Lib.hid hbr
        have htl : tc.length = x.length * 4 := hown.1
        clear hown hfl hbr
        by_cases hml : m < x.length
        · obtain ⟨y, hy⟩ : ∃ y, x[m]? = some y := ⟨x[m], by simp [hml]⟩
          obtain ⟨b3, o3, pv, lv, pvc, lvc, rfl, hb3, u0, u1, u2, u3, hv1⟩ := (HSX.out.below stays_RTm HB2.out).cells4 hy
          obtain ⟨z1, z2⟩ := HSX.out.tmSz hy
          have HY := Lib.hid hy
          have HV := Lib.hid hv1
          have HZ1 := Lib.hid z1
          have HZ2 := Lib.hid z2
          clear hy hv1 z1 z2
          go_wp2
          generalize hW2 : wr.alloc _ = W2
          have hb2 : Below wr.heap.size wr W2 := by subst hW2; exact b1 _ _
          have hsz2 : W2.heap.size = wr.heap.size + 1 := by subst hW2; simp
          have hs2 : ∀ w', Below W2.heap.size W2 w' → w'.cell? ⟨wr.heap.size, 0, none⟩ = some (.string y.op) ∧ w'.cell? ⟨wr.heap.size, 1, none⟩ = some (.int .i64 y.ver.ep) ∧ w'.cell? ⟨wr.heap.size, 2, none⟩ = some (.slice pv y.ver.parts.length pvc) ∧ w'.cell? ⟨wr.heap.size, 3, none⟩ = some (.slice lv y.ver.loc.length lvc) := by
            intro w' hb
            have hz : wr.heap.size < W2.heap.size := by omega
            refine ⟨(hb.cell (p := ⟨wr.heap.size, 0, none⟩) hz).trans ?_, (hb.cell (p := ⟨wr.heap.size, 1, none⟩) hz).trans ?_, (hb.cell (p := ⟨wr.heap.size, 2, none⟩) hz).trans ?_, (hb.cell (p := ⟨wr.heap.size, 3, none⟩) hz).trans ?_⟩ <;> (subst hW2; simp)
          have HSS := Lib.hid hs2
          have HB3 := Lib.hid hb2
          have HSZ2 := Lib.hid hsz2
          have hne : wo.heap.size ≠ wr.heap.size := by
            obtain ⟨g, e, hlt, _⟩ := HO2.out.cell (i := 0) (v := tc[0]'(by omega)) (List.getElem?_eq_getElem (by omega))
            cases e; omega
          have HNE := Lib.hid hne
          have hvd : VerAt W2.drew y.ver pv lv pvc lvc := (HV.out.below HB3.out).below ((Below.refl _ _).drew)
          have HVD := Lib.hid hvd
          have HO9 := Lib.hid ((HO2.out.below HB3.out).below ((Below.refl _ _).drew))
          have hix : (0 : Int) ≤ (m : Int) := by omega
          clear hb2 hsz2 hs2 hW2 hvd
          go_region_held3 (fun w' => w'.cell? ⟨wr.heap.size, 0, none⟩ = some (.string y.op) ∧ w'.cell? ⟨wr.heap.size, 1, none⟩ = some (.int .i64 y.ver.ep) ∧ w'.cell? ⟨wr.heap.size, 2, none⟩ = some (.slice pv y.ver.parts.length pvc) ∧ w'.cell? ⟨wr.heap.size, 3, none⟩ = some (.slice lv y.ver.loc.length lvc))
            (first | exact HSS.out _ ((Below.refl _ _).drew) | exact HSS.out _ hb9 | go_keep)
            (first
            | (go_at_call 83; (refine (copyVer_any y.ver pv lv pvc lvc _ HVD.out HZ2.out).mono ?_); rintro e w7 ⟨pa2, pc2, la2, lc2, rfl, hiv, hb⟩; have hb9 : Below W2.heap.size W2 w7 := fin ((Below.refl _ _).drew) hb; have hO7 := HO9.out.below hb; have HO7 := Lib.hid hO7; have HIV := Lib.hid hiv;
               obtain ⟨_, e0, _, _, q0⟩ := hO7.cell (List.getElem?_eq_getElem (show m * 4 < tc.length by omega));
               obtain ⟨_, e1, _, _, q1⟩ := hO7.cell (List.getElem?_eq_getElem (show m * 4 + 1 < tc.length by omega));
               obtain ⟨_, e2, _, _, q2⟩ := hO7.cell (List.getElem?_eq_getElem (show m * 4 + 2 < tc.length by omega));
               obtain ⟨_, e3, _, _, q3⟩ := hO7.cell (List.getElem?_eq_getElem (show m * 4 + 3 < tc.length by omega));
               cases e0; cases e1; cases e2; cases e3;
               have g0 : w7.frozen? ⟨wo.heap.size, m * 4, none⟩ = false := own_frozen hO7 _;
               have g1 : w7.frozen? ⟨wo.heap.size, m * 4 + 1, none⟩ = false := own_frozen hO7 _;
               have g2 : w7.frozen? ⟨wo.heap.size, m * 4 + 2, none⟩ = false := own_frozen hO7 _;
               have g3 : w7.frozen? ⟨wo.heap.size, m * 4 + 3, none⟩ = false := own_frozen hO7 _;
               clear hO7 hiv))
          all_goals
            go_wp2
            go_roundw
            case rel =>
              have hsz7 : W2.heap.size ≤ w7.heap.size := hb9.size
              have esz := HSZ2.out
              have hwo : wo.heap.size ≤ wr.heap.size := HB2.out.size
              have hot : ∀ b, b ≠ wo.heap.size → (World.heap (World.setCell (World.setCell (World.setCell (World.setCell w7 ⟨wo.heap.size, m * 4, none⟩ (.string y.op)) ⟨wo.heap.size, m * 4 + 1, none⟩ (.int .i64 y.ver.ep)) ⟨wo.heap.size, m * 4 + 2, none⟩ (.slice pa2 y.ver.parts.length pc2)) ⟨wo.heap.size, m * 4 + 3, none⟩ (.slice la2 y.ver.loc.length lc2)))[b]? = w7.heap[b]? := by
                intro b h1
                rw [Below.heap_setCell _ _ _ _ h1, Below.heap_setCell _ _ _ _ h1, Below.heap_setCell _ _ _ _ h1, Below.heap_setCell _ _ _ _ h1]
              have hszf : (World.heap (World.setCell (World.setCell (World.setCell (World.setCell w7 ⟨wo.heap.size, m * 4, none⟩ (.string y.op)) ⟨wo.heap.size, m * 4 + 1, none⟩ (.int .i64 y.ver.ep)) ⟨wo.heap.size, m * 4 + 2, none⟩ (.slice pa2 y.ver.parts.length pc2)) ⟨wo.heap.size, m * 4 + 3, none⟩ (.slice la2 y.ver.loc.length lc2))).size = w7.heap.size := by simp [World.setCell]
              refine ⟨m + 1, (((tc.set (m * 4) (.string y.op)).set (m * 4 + 1) (.int .i64 y.ver.ep)).set (m * 4 + 2) (.slice pa2 y.ver.parts.length pc2)).set (m * 4 + 3) (.slice la2 y.ver.loc.length lc2), by omega, by go_num, (World.ownsRow.stored (World.ownsRow.stored (World.ownsRow.stored (World.ownsRow.stored HO7.out _ _).1 _ _).1 _ _).1 _ _).1, ?_, ((((fin (fin HB2.out HB3.out) hb9).setCell (Nat.le_refl _) _).setCell (Nat.le_refl _) _).setCell (Nat.le_refl _) _).setCell (Nat.le_refl _) _⟩
              rw [take_set4 (by omega), List.take_add_one, HY.out]
              refine Flat.append (HF2.out.mono fun us z _ hz => ?_) (Flat.four ?_)
              · exact ((hz.below HB3.out).below hb9).step (Nat.le_of_eq hszf.symm) (fun b _ hne => hot b (fun e => hne _ rfl e.symm)) (fun ad' e => .inl ⟨ad', e, rfl⟩)
              · refine ⟨W2.heap.size, w7.heap.size, by omega, RTm.iv HZ1.out (Iv.keep HIV.out (Nat.le_of_eq hszf.symm) fun b h1 _ => hot b (fun e => ?_)), fun ad e => ?_⟩
                · have h3 : W2.heap.size ≤ b := h1
                  omega
                · cases e; left; show wo.heap.size < _; omega
            case measure => simp [intOf]; omega
        · have hme : m = x.length := by omega
          have htk : tc.take (m * 4) = tc := List.take_of_length_le (by omega)
          have hxk : x.take m = x := List.take_of_length_le (by omega)
          rw [htk, hxk] at HF2
          have hiv : Iv (RS RTm 4) wo.heap.size wr.heap.size wr [.slice (some ⟨wo.heap.size, 0, none⟩) x.length x.length] x := Own.iv HO2.out (HF2.out.mono fun _ _ _ h => h.iv) (Nat.le_refl _) (by omega)
          have HIV := Lib.hid hiv
          have hzw : W.heap.size ≤ wo.heap.size := HB.out.size
          have hzw2 : wo.heap.size ≤ wr.heap.size := HB2.out.size
          clear hme htk hxk hiv
          go_wp2_with (at_builtin; refine wpList_append_flatAt Tryd.infoTms rfl (by decide) rfl (.tmp 37) (.tmp 39) 31 rfl Tryd.underlying31 W.heap.size pa k pc cells rfl ((HO.out.below HB2.out).below (b1 _ _)) _ _ _ [.slice (some ⟨wo.heap.size, 0, none⟩) x.length x.length] rfl rfl (RV.one wr (.slice (some ⟨wo.heap.size, 0, none⟩) x.length x.length) rfl _) (RV.ones _) (by omega) (by omega) (by simp; omega) ?_; intro a3 c3 w3 cells3 hown3 hF3 hg3 hB3 hat3; have HB3 := Lib.hid hB3; have HO3 := Lib.hid hown3; have HF3 := Lib.hid hF3.rv; have HG3 := Lib.hid hg3; have HAT := Lib.hid hat3; clear hg3 hown3 hB3 hF3 hat3)
          go_roundw
          case rel =>
            refine ⟨k + 1, a3, c3, cells ++ cells3, by omega, by go_num, rfl, HO3.out, ?_, ((fin HB.out HB2.out).alloc (fin HB.out HB2.out).size _).trans HB3.out⟩
            rw [List.take_add_one, HX.out, HF3.out]
            refine Flat.append (HF.out.mono fun us y _ h => ((h.below HB2.out).below (b1 _ _)).grown HG3.out HAT.out) (Flat.one ?_)
            exact Ev.fresh HIV.out (b1 _ _) hzw (fun ad e => (HO.out.tag ad e).2.1) HG3.out HAT.out
          case measure => simp [intOf]; omega
    · have hke : k = s.rows.length := by omega
      have hxk : s.rows.take k = s.rows := List.take_of_length_le (by omega)
      subst hke
      rw [hxk] at HF
      have hiv : Iv (RS (RS RTm 4) 1) W.heap.size wr.heap.size wr [.slice pa s.rows.length pc] s.rows := Own.iv HO.out (HF.out.mono fun _ _ _ h => h.iv) (Nat.le_refl _) (by omega)
      have HIV := Lib.hid hiv
      have eZ := HZ.out
      have hzr : W.heap.size ≤ wr.heap.size := HB.out.size
      have hbx4 := (HB.out.block w.heap.size (by omega)).trans HBX.out
      have hrs4 := (HB.out.block (w.heap.size + 1) (by omega)).trans HRS.out
      have k0 : wr.cell? ⟨w.heap.size, 0, none⟩ = some (.string s.chan) := by rw [cell_of_cells hbx4]; rfl
      have k1 : wr.cell? ⟨w.heap.size, 1, none⟩ = some (.string s.name) := by rw [cell_of_cells hbx4]; rfl
      have k2 : wr.cell? ⟨w.heap.size, 2, none⟩ = some (.slice ra s.rows.length rc) := by rw [cell_of_cells hbx4]; rfl
      have k3 : wr.cell? ⟨w.heap.size, 3, none⟩ = some (.string s.build) := by rw [cell_of_cells hbx4]; rfl
      have k4 : wr.cell? ⟨w.heap.size, 4, none⟩ = some (.int .i64 s.num) := by rw [cell_of_cells hbx4]; rfl
      have f2 : wr.frozen? ⟨w.heap.size, 2, none⟩ = false := by simp [World.frozen?, hbx4]
      have r0 : wr.cell? ⟨w.heap.size + 1, 0, none⟩ = some (.string ⟨#[]⟩) := by rw [cell_of_cells hrs4]; rfl
      have r1 : wr.cell? ⟨w.heap.size + 1, 1, none⟩ = some (.string ⟨#[]⟩) := by rw [cell_of_cells hrs4]; rfl
      have r2 : wr.cell? ⟨w.heap.size + 1, 2, none⟩ = some (.slice none 0 0) := by rw [cell_of_cells hrs4]; rfl
      have r3 : wr.cell? ⟨w.heap.size + 1, 3, none⟩ = some (.string ⟨#[]⟩) := by rw [cell_of_cells hrs4]; rfl
      have r4 : wr.cell? ⟨w.heap.size + 1, 4, none⟩ = some (.int .i64 0) := by rw [cell_of_cells hrs4]; rfl
      have g0 : wr.frozen? ⟨w.heap.size + 1, 0, none⟩ = false := by simp [World.frozen?, hrs4]
      have g1 : wr.frozen? ⟨w.heap.size + 1, 1, none⟩ = false := by simp [World.frozen?, hrs4]
      have g2 : wr.frozen? ⟨w.heap.size + 1, 2, none⟩ = false := by simp [World.frozen?, hrs4]
      have g3 : wr.frozen? ⟨w.heap.size + 1, 3, none⟩ = false := by simp [World.frozen?, hrs4]
      have g4 : wr.frozen? ⟨w.heap.size + 1, 4, none⟩ = false := by simp [World.frozen?, hrs4]
      clear hxk hiv hbx4 hrs4 eZ
      go_wp2
      refine bodyPost_ret (v := .agg #[.string s.chan, .string s.name, .slice pa s.rows.length pc, .string s.build, .int .i64 s.num]) (by simp [results, Tryd.results61, go_sem, r0, r1, r2, r3, r4]) rfl ?_
      generalize hW9 : World.setCell (World.setCell (World.setCell (World.setCell (World.setCell (World.setCell wr _ _) _ _) _ _) _ _) _ _) _ _ = W9
      have hot9 : ∀ b, b ≠ w.heap.size → b ≠ w.heap.size + 1 → W9.heap[b]? = wr.heap[b]? := by
        intro b h1 h2
        subst hW9
        rw [Below.heap_setCell _ _ _ _ h2, Below.heap_setCell _ _ _ _ h2, Below.heap_setCell _ _ _ _ h2, Below.heap_setCell _ _ _ _ h2, Below.heap_setCell _ _ _ _ h2, Below.heap_setCell _ _ _ _ h1]
      have hsz9 : W9.heap.size = wr.heap.size := by subst hW9; simp [World.setCell]
      have hb9 : Below w.heap.size w W9 := by
        subst hW9
        exact ((((((fin H0.out HB.out).setCell (Nat.le_refl _) _).setCell (Nat.le_succ _) _).setCell (Nat.le_succ _) _).setCell (Nat.le_succ _) _).setCell (Nat.le_succ _) _).setCell (Nat.le_succ _) _
      have eZ := HZ.out
      refine ⟨pa, pc, rfl, RSp.iv HS1.out HS2.out H.out.build H.out.num (Iv.wide (lo := W.heap.size) (hi := wr.heap.size) (HIV.out.keep (by omega) fun b h1 h2 => hot9 b (by omega) (by omega)) (by omega) (by omega) (Nat.le_refl _)), hb9⟩


theorem Tryd.infoSp : (Tryd.prog.info? 35).map (fun i => (i.zero, i.size, i.bytes)) = some (some (.agg #[.string ⟨#[]⟩, .string ⟨#[]⟩, .slice none 0 0, .string ⟨#[]⟩, .int .i64 0]), 5, 80) := by kernel_rfl
theorem zSp : (Value.agg #[.string ⟨#[]⟩, .string ⟨#[]⟩, .slice none 0 0, .string ⟨#[]⟩, .int .i64 0]).cells.size = 5 := by first | rfl | kernel_rfl | simp [Value.cells] | decide
/-- cells as they are -/
def RVk : Rd (List Value) := fun _ us v => us = v ∧ ∀ u ∈ us, u.oneCell' = true
theorem RVk.ones (w : World) : ∀ us x, RVk w us x → ∀ u ∈ us, u.oneCell' = true := fun _ _ h => h.2
theorem Flat.rvk {w : World} {v cells : List Value} {k : Nat} (hv : v.length = k) (h : Flat RVk k w [v] cells) : cells = v := by
  obtain ⟨us, u1, u2, u3⟩ := h.at_ 0 v rfl
  have hl := h.len
  simp at hl
  rw [u3.1] at u2
  apply List.ext_getElem?
  intro i
  by_cases hi : i < k
  · have := u2 i hi; simpa using this
  · rw [List.getElem?_eq_none (by omega), List.getElem?_eq_none (by omega)]
theorem Flat.five {α : Type} {R : Rd α} {w : World} {x : α} {v0 v1 v2 v3 v4 : Value} (h : R w [v0, v1, v2, v3, v4] x) : Flat R 5 w [x] [v0, v1, v2, v3, v4] := by
  refine ⟨by simp, fun i y hy => ?_⟩
  match i, hy with
  | 0, hy =>
    simp at hy; subst hy
    refine ⟨[v0, v1, v2, v3, v4], rfl, fun j hj => ?_, h⟩
    simp
theorem made5 (W : World) (n : Nat) (hn : W.heap.size = n) (v : List Value) (h5 : v.length = 5) (ho : ∀ u ∈ v, u.oneCell' = true) (t : TypeId) : Sl RVk 5 (W.alloc (.cells v.toArray t)) (some ⟨n, 0, none⟩) [v] := by
  subst hn
  refine ⟨fun _ => ⟨W.heap.size, 0, rfl, by simp, fun i x hx => ?_⟩, by simp⟩
  match i, hx with
  | 0, hx =>
    simp at hx; subst hx
    refine ⟨v, h5, fun j hj => ?_, rfl, ho⟩
    rw [cell_of_cells (heap_alloc_new _ _)]
    simp
theorem Sl.spSz {w : World} {a : Option Addr} {xs : List Sp} (h : Sl RSp 5 w a xs) {i : Nat} {s : Sp} (hx : xs[i]? = some s) : SzS s.chan ∧ SzS s.name := by
  obtain ⟨b, off, e, hlt, hc⟩ := h.addr (by have := (List.getElem?_eq_some_iff.1 hx).1; omega)
  obtain ⟨us, u1, u2, r, u3, h1, h2, _⟩ := hc i s hx
  exact ⟨h1, h2⟩
/-- what nothing matches -/
def Q.lacks (l : List Rc) (on : List Bool) (r : Rc) : List Sp := r.deps.filter fun s => !Q.some_ (Q.mt s) l on
/-- new specs came back -/
def NewSps (w : World) (xs : List Sp) (e : Ending) (w' : World) : Prop := ∃ a c, e = .returned (.slice a xs.length c) ∧ Sl RSp 5 w' a xs ∧ Below w.heap.size w w'
theorem filter_step {α : Type} {p : α → Bool} {l : List α} {k : Nat} {x : α} (h : l[k]? = some x) : (l.take (k + 1)).filter p = (l.take k).filter p ++ (if p x then [x] else []) := by
  rw [List.take_add_one, h, List.filter_append]
  cases hp : p x <;> simp [hp]
theorem miss_bad (a b : Option Addr) (c e : Nat) (l : List Rc) (on : List Bool) (i : Int) (w : World) (hi : I64 i) (_hl1 : l.length ≤ 100000) (_hl2 : on.length ≤ 100000) (h : i < 0 ∨ (l.length : Int) ≤ i ∨ on.length ≠ l.length) :
    Calls Tryd.prog 30 #[.slice a l.length c, .slice b on.length e, .int .i64 i] w fun e w' => e = .returned (.slice none 0 0) ∧ Below w.heap.size w w' := by
  obtain ⟨hi1, hi2⟩ := hi
  by_cases h1 : i < 0
  · have d1 : decide (i < 0) = true := by simpa using h1
    clear h h1
    go_enter Tryd.func30, Tryd.ntmps30
    go_wp2
    go_ret
    exact ⟨rfl, Below.refl _ _⟩
  have d1 : decide (i < 0) = false := by simpa using h1
  by_cases h2 : (l.length : Int) ≤ i
  · have d2 : decide ((l.length : Int) ≤ i) = true := by simpa using h2
    clear h h1 h2
    go_enter Tryd.func30, Tryd.ntmps30
    go_wp2
    go_ret
    exact ⟨rfl, Below.refl _ _⟩
  have d2 : decide ((l.length : Int) ≤ i) = false := by simpa using h2
  have n1 : ((on.length : Int) != (l.length : Int)) = true := by
    rw [bne_iff_ne]
    rcases h with h | h | h <;> omega
  clear h h1 h2
  go_enter Tryd.func30, Tryd.ntmps30
  go_wp2
  go_ret
  exact ⟨rfl, Below.refl _ _⟩
set_option maxHeartbeats 4000000 in
set_option maxRecDepth 100000 in
theorem miss_ok (ad : Addr) (a b : Option Addr) (c e : Nat) (l : List Rc) (on : List Bool) (k : Nat) (r : Rc) (w : World) (hR : RIn w a b l on) (hol : on.length = l.length) (_h60 : l.length ≤ 100000) (hr : l[k]? = some r) (hsm : SmallRc r) (hE : ErrR w ad) :
    Calls Tryd.prog 30 #[.slice a l.length c, .slice b on.length e, .int .i64 k] w (NewSps w (Q.lacks l on r)) := by
  have hk : k < l.length := (List.getElem?_eq_some_iff.1 hr).1
  obtain ⟨bb, off, pa, la, pc, lc, da, dc, ca, cc, fa, fc, rfl, hbl, ⟨t0, t1, t2, t3, t4, t5, t6, t7, t8, t9, t10, t11, t12⟩, hat⟩ := hR.recs.rcAll hr
  have HR := Lib.hid hR
  have HA := Lib.hid hat
  have HE := Lib.hid hE
  have HL := Lib.hid hol
  have HSM := Lib.hid hsm.2
  have hdn := hsm.1
  have hdl := hat.deps.len
  have n1 : ((on.length : Int) != (l.length : Int)) = false := by simp [hol]
  have hk2 : (k : Int) < (l.length : Int) := by omega
  have d0 : decide ((k : Int) < 0) = false := by simp
  have d1 : decide ((l.length : Int) ≤ (k : Int)) = false := by simp; omega
  have d2 : decide (l.length ≤ k) = false := by simp; omega
  clear hR hr hat hE hol hsm t0 t1 t2 t3 t4 t5 t6 t7 t8 t9 t11 t12
  unfold Q.lacks
  go_enter Tryd.func30, Tryd.ntmps30
  go_wp2
  clear n1 t10 d0 d1 d2
  go_loopw [7, 9, 31] (fun s7 _ i wr => ∃ (j : Nat) (qa : Option Addr) (qc : Nat) (cells : List Value), j ≤ r.deps.length ∧ i = .int .i64 j ∧ s7 = .slice qa ((r.deps.take j).filter fun s => !Q.some_ (Q.mt s) l on).length qc ∧ Own 35 5 wr w.heap.size qa qc ((r.deps.take j).filter fun s => !Q.some_ (Q.mt s) l on).length cells ∧ Flat (Ev RSp w.heap.size qa) 5 wr ((r.deps.take j).filter fun s => !Q.some_ (Q.mt s) l on) cells ∧ Below w.heap.size w wr) (fun _ _ i _ => r.deps.length - (intOf i).toNat)
  case atStart => exact ⟨0, none, 0, [], by omega, rfl, rfl, Own.nil _ _ _ _, Flat.nil _ _ _, Below.refl _ _⟩
  case round =>
    obtain ⟨j, qa, qc, cells, hj, rfl, rfl, hown, hfl, hbr⟩ := hrel
    have HO := Lib.hid hown
    have HF := Lib.hid hfl
    have HB := Lib.hid hbr
    have hz : w.heap.size ≤ wr.heap.size := hbr.size
    have hfl9 : ((r.deps.take j).filter fun s => !Q.some_ (Q.mt s) l on).length ≤ 20 := by
      have h1 := List.length_filter_le (fun s => !Q.some_ (Q.mt s) l on) (r.deps.take j)
      have h2 : (r.deps.take j).length ≤ r.deps.length := by simp; omega
      omega
    clear hown hfl hbr
    by_cases hlt : j < r.deps.length
    · obtain ⟨s, hs⟩ : ∃ x, r.deps[j]? = some x := ⟨r.deps[j], by simp [hlt]⟩
      obtain ⟨b3, o3, ra, rc, rfl, hbl3, ⟨s0, s1, s2, s3, s4⟩, hsp⟩ := (HA.out.deps.below stays_RSp HB.out).cellsSp hs
      obtain ⟨z1, z2⟩ := HA.out.deps.spSz hs
      have hsmall := HSM.out s (List.mem_of_getElem? hs)
      have HFS := Lib.hid (filter_step (p := fun s => !Q.some_ (Q.mt s) l on) hs)
      have HSP := Lib.hid hsp
      have HZ := Lib.hid (And.intro z1 z2)
      have HSMA := Lib.hid hsmall
      clear hs hsp z1 z2 hsmall
      go_wp2_with fail
      (with_reducible refine (matched_any s ra rc ad _ b c e l on _ (HSP.out.below (b1 _ _)) ((HR.out.below HB.out).below (b1 _ _)) HL.out ((HE.out.below HB.out).below (b1 _ _))).mono ?_)
      rintro e w2 ⟨rfl, hb⟩
      have q0 : w2.cell? ⟨wr.heap.size, 0, none⟩ = some (.string s.chan) := (hb.cell (p := ⟨wr.heap.size, 0, none⟩) (by simp)).trans (by simp)
      have q1 : w2.cell? ⟨wr.heap.size, 1, none⟩ = some (.string s.name) := (hb.cell (p := ⟨wr.heap.size, 1, none⟩) (by simp)).trans (by simp)
      have q2 : w2.cell? ⟨wr.heap.size, 2, none⟩ = some (.slice ra s.rows.length rc) := (hb.cell (p := ⟨wr.heap.size, 2, none⟩) (by simp)).trans (by simp)
      have q3 : w2.cell? ⟨wr.heap.size, 3, none⟩ = some (.string s.build) := (hb.cell (p := ⟨wr.heap.size, 3, none⟩) (by simp)).trans (by simp)
      have q4 : w2.cell? ⟨wr.heap.size, 4, none⟩ = some (.int .i64 s.num) := (hb.cell (p := ⟨wr.heap.size, 4, none⟩) (by simp)).trans (by simp)
      have HBW := Lib.hid (show Below wr.heap.size wr w2 from fin (b1 _ _) hb)
      have hz2 : wr.heap.size ≤ w2.heap.size := HBW.out.size
      clear hb
      cases hm : Q.some_ (Q.mt s) l on
      · have hst : ((r.deps.take (j + 1)).filter fun s => !Q.some_ (Q.mt s) l on) = ((r.deps.take j).filter fun s => !Q.some_ (Q.mt s) l on) ++ [s] := by rw [HFS.out, hm]; rfl
        have HST := Lib.hid hst
        clear hst hm
        go_wp2_with fail
        (with_reducible refine (copySp_any s ra rc _ (HSP.out.below HBW.out) HZ.out.1 HZ.out.2 HSMA.out).mono ?_)
        rintro e w3 ⟨a4, c4, rfl, hiv, hb⟩
        have HIV := Lib.hid hiv
        have HB3 := Lib.hid hb
        have hz3 : w2.heap.size ≤ w3.heap.size := hb.size
        clear hb hiv q0 q1 q2 q3 q4
        generalize hms : ((r.deps.take j).filter fun s => !Q.some_ (Q.mt s) l on) = ms at *
        have HMS := Lib.hid hms
        clear hms
        go_wp2_with (at_builtin; refine wpList_append_flatAt (R := RVk) Tryd.infoSp zSp (by decide) rfl (.tmp 40) (.tmp 43) 49 rfl Tryd.underlying49 w.heap.size qa ms.length qc cells rfl (((HO.out.below HBW.out).below HB3.out).below (b1 _ _)) _ _ _ [[.string s.chan, .string s.name, .slice a4 s.rows.length c4, .string s.build, .int .i64 s.num]] rfl rfl (made5 w3 _ rfl _ rfl (by intro u hu; simp at hu; rcases hu with rfl | rfl | rfl | rfl | rfl <;> rfl) _) (RVk.ones _) (by omega) (by omega) (by simp; omega) ?_; intro a3 c3 w5 cells3 hown3 hF3 hg3 hB5 hat3; have HB5 := Lib.hid hB5; have HO3 := Lib.hid hown3; have HF3 := Lib.hid (hF3.rvk (by rfl)); have HG3 := Lib.hid hg3; have HAT := Lib.hid hat3; clear hg3 hown3 hB5 hF3 hat3)
        go_roundw
        case rel =>
          refine ⟨j + 1, a3, c3, cells ++ cells3, by omega, by go_num, (by rw [HST.out]; simp), (by rw [HST.out, List.length_append]; exact HO3.out), ?_, ((fin (fin HB.out HBW.out) HB3.out).alloc (fin (fin HB.out HBW.out) HB3.out).size _).trans HB5.out⟩
          rw [HST.out, HF3.out]
          refine Flat.append (HF.out.mono fun us y _ h => (((h.below HBW.out).below HB3.out).below (b1 _ _)).grown HG3.out HAT.out) (Flat.five ?_)
          exact Ev.fresh HIV.out (b1 _ _) (by omega) (fun ad e => by have := (HO.out.tag ad e).2.1; omega) HG3.out HAT.out
        case measure => simp [intOf]; omega
      · have hst : ((r.deps.take (j + 1)).filter fun s => !Q.some_ (Q.mt s) l on) = ((r.deps.take j).filter fun s => !Q.some_ (Q.mt s) l on) := by rw [HFS.out, hm]; simp
        have HST := Lib.hid hst
        clear hst hm
        go_wp2
        go_roundw
        case rel => exact ⟨j + 1, qa, qc, cells, by omega, by go_num, (by rw [HST.out]), (by rw [HST.out]; exact HO.out.below HBW.out), (by rw [HST.out]; exact HF.out.mono fun us y _ h => h.below HBW.out), fin HB.out HBW.out⟩
        case measure => simp [intOf]; omega
    · have hfull : r.deps.take j = r.deps := List.take_of_length_le (by omega)
      rw [hfull] at HO HF hfl9 ⊢
      clear hfull
      go_wp2
      go_ret
      exact ⟨qa, qc, rfl, Own.sl HO.out (HF.out.mono fun _ _ _ h => h.iv.read) (by omega), HB.out⟩


theorem Sl.cellsSp2 {w : World} {a : Option Addr} {xs : List Sp} (h : Sl RSp 5 w a xs) {i : Nat} {s : Sp} (hx : xs[i]? = some s) :
    ∃ b off ra rc, a = some ⟨b, off, none⟩ ∧ b < w.heap.size ∧ (w.cell? ⟨b, off + i * 5, none⟩ = some (.string s.chan) ∧ w.cell? ⟨b, off + i * 5 + 1, none⟩ = some (.string s.name) ∧ w.cell? ⟨b, off + i * 5 + 2, none⟩ = some (.slice ra s.rows.length rc) ∧ w.cell? ⟨b, off + i * 5 + 3, none⟩ = some (.string s.build) ∧ w.cell? ⟨b, off + i * 5 + 4, none⟩ = some (.int .i64 s.num)) ∧ SpAt w s ra rc ∧ RSp w [.string s.chan, .string s.name, .slice ra s.rows.length rc, .string s.build, .int .i64 s.num] s := by
  obtain ⟨b, off, e, hlt, hc⟩ := h.addr (by have := (List.getElem?_eq_some_iff.1 hx).1; omega)
  obtain ⟨us, u1, u2, u3⟩ := hc i s hx
  obtain ⟨ra, rc, u5, u6⟩ := u3.at
  rw [u5] at u2 u3
  exact ⟨b, off, ra, rc, e, hlt, ⟨by simpa using u2 0 (by omega), by simpa using u2 1 (by omega), by simpa using u2 2 (by omega), by simpa using u2 3 (by omega), by simpa using u2 4 (by omega)⟩, u6, u3⟩
theorem whole_same {l : List Rc} {on : List Bool} (h : on.length = l.length) : Q.wholeB l on = Q.dwhole l on := by
  rw [Bool.eq_iff_iff, wholeB_iff h, Q.dwhole_iff h]
theorem whole_off {l : List Rc} {on : List Bool} (h : on.length ≠ l.length) : Q.wholeB l on = false := by
  unfold Q.wholeB; simp [h]
set_option maxHeartbeats 8000000 in
set_option maxRecDepth 100000 in
theorem missingLaw (ad : Addr) (a b : Option Addr) (c e : Nat) (l : List Rc) (on : List Bool) (i : Int) (w : World) (hi : I64 i) (hR : RIn w a b l on) (hA : ErrR w ad) :
    Calls Tryd.prog 6 #[.slice a l.length c, .slice b on.length e, .int .i64 i] w fun e w' => e = .returned (.bool true) ∧ Below w.heap.size w w' := by
  have HR := Lib.hid hR
  have HA := Lib.hid hA
  have HI := Lib.hid hi
  have hl1 := hR.recs.len
  have hl2 := hR.bools.len
  clear hR hA hi
  go_enter Tryd.func6, Tryd.ntmps6
  go_wp2_with fail
  refine (alive13 ad _ HA.out).mono ?_
  rintro e w1 ⟨rfl, hb⟩
  have HB1 := Lib.hid hb
  clear hb
  go_wp2_with fail
  (with_reducible refine (bigAllL a c l 60 _ (HR.out.below HB1.out).recs (by omega)).mono ?_)
  rintro e w2 ⟨q, rfl, hq, hb⟩
  have HB2 := Lib.hid (fin HB1.out hb)
  clear hb
  cases q
  case true =>
    go_wp2
    go_ret
    exact ⟨rfl, HB2.out⟩
  obtain ⟨h60, hsm⟩ := hq rfl
  have HSM := Lib.hid hsm
  clear hq hsm
  by_cases h1 : 100 < on.length
  · have d1 : decide ((100 : Int) < (on.length : Int)) = true := by simp; omega
    go_wp2
    go_ret
    exact ⟨rfl, HB2.out⟩
  have d1 : decide ((100 : Int) < (on.length : Int)) = false := by simp; omega
  go_wp2
  clear d1
  go_loop [7, 9, 26] (fun s _ i => ∃ k : Nat, k ≤ on.length ∧ i = .int .i64 k ∧ s = .int .i64 (R.count (on.take k) : Nat) ∧ R.count (on.take k) ≤ k) (fun _ _ i => on.length - (intOf i).toNat)
  case atStart => exact ⟨0, by omega, rfl, rfl, by simp [R.count]⟩
  case round =>
    obtain ⟨k, hk, rfl, rfl, hc⟩ := hrel
    by_cases hlt : k < on.length
    · obtain ⟨x, hx⟩ : ∃ x, on[k]? = some x := ⟨on[k], by simp [hlt]⟩
      obtain ⟨b0, off, rfl, hbl, hcb⟩ := (HR.out.below HB2.out).bools.addr (by omega)
      have c0 := hcb k x hx
      have HS := Lib.hid (R.count_snoc hx)
      clear hcb hx
      cases x
      · go_wp2
        go_round
        case rel => exact ⟨k + 1, by omega, by go_num, (by rw [HS.out]; simp), (by rw [HS.out]; simp; omega)⟩
        case measure => simp [intOf]; omega
      · go_wp2
        go_round
        case rel => exact ⟨k + 1, by omega, by go_num, (by rw [HS.out]; simp), (by rw [HS.out]; simp; omega)⟩
        case measure => simp [intOf]; omega
    · have hfull : on.take k = on := List.take_of_length_le (by omega)
      rw [hfull] at hc ⊢
      clear hfull
      have n0 : ((R.count on : Int) != (R.count on : Int)) = false := by simp
      by_cases hol : on.length = l.length
      · have n1 : ((on.length : Int) != (l.length : Int)) = false := by simp [hol]
        have HWS := Lib.hid (whole_same hol)
        have HOL := Lib.hid hol
        by_cases hin : 0 ≤ i ∧ i < (l.length : Int)
        · obtain ⟨m, rfl⟩ : ∃ m : Nat, i = (m : Int) := ⟨i.toNat, by omega⟩
          have hml : m < l.length := by omega
          clear hol
          obtain ⟨r, hr⟩ : ∃ r, l[m]? = some r := ⟨l[m], by simp [hml]⟩
          have HRR := Lib.hid hr
          have hsr := HSM.out r (List.mem_of_getElem? hr)
          have hd20 := hsr.1
          have HSR := Lib.hid hsr
          clear hsr hr hin
          go_wp2_with fail
          (with_reducible refine (miss_ok ad a b c e l on m r _ (HR.out.below HB2.out) HOL.out (by omega) HRR.out HSR.out ((HA.out.below HB2.out))).mono ?_)
          rintro e w3 ⟨ma, mc, rfl, hm, hb⟩
          have HM3 := Lib.hid hm
          have HB3 := Lib.hid (fin HB2.out hb)
          clear hb hm
          go_wp2_with fail
          refine (count_any b _ on _ (HR.out.below HB3.out).bools).mono ?_
          rintro e w4 ⟨rfl, rfl⟩
          obtain ⟨bb, off, pa, la, pc, lc, da, dc, ca, cc, fa, fc, rfl, hbl, ⟨t0, t1, t2, t3, t4, t5, t6, t7, t8, t9, t10, t11, t12⟩, hat⟩ := (HR.out.below HB3.out).recs.rcAll HRR.out
          have HDP := Lib.hid hat.deps
          have hdl := hat.deps.len
          clear hat t0 t1 t2 t3 t4 t5 t6 t7 t8 t9 t11 t12
          go_wp2
          clear n1 t10
          go_loopw [11, 13, 71] (fun s11 _ i wr => ∃ (j : Nat) (qa : Option Addr) (qc : Nat) (cells : List Value), j ≤ r.deps.length ∧ i = .int .i64 j ∧ s11 = .slice qa ((r.deps.take j).filter fun s => !Q.some_ (Q.mt s) l on).length qc ∧ Own 35 5 wr w3.heap.size qa qc ((r.deps.take j).filter fun s => !Q.some_ (Q.mt s) l on).length cells ∧ Flat (fixR RSp w3) 5 wr ((r.deps.take j).filter fun s => !Q.some_ (Q.mt s) l on) cells ∧ Below w3.heap.size w3 wr) (fun _ _ i _ => r.deps.length - (intOf i).toNat)
          case atStart => exact ⟨0, _, 0, [], by omega, rfl, rfl, Own.made0' _ _ _ _ _ rfl (Nat.le_refl _), Flat.nil _ _ _, b1 _ _⟩
          case round =>
            obtain ⟨j, qa, qc, cells, hj, rfl, rfl, hown, hfl, hbr⟩ := hrel
            have HO := Lib.hid hown
            have HF := Lib.hid hfl
            have HB := Lib.hid hbr
            have hz : w3.heap.size ≤ wr.heap.size := hbr.size
            have hfl9 : ((r.deps.take j).filter fun s => !Q.some_ (Q.mt s) l on).length ≤ 20 := by
              have h1 := List.length_filter_le (fun s => !Q.some_ (Q.mt s) l on) (r.deps.take j)
              have h2 : (r.deps.take j).length ≤ r.deps.length := by simp; omega
              omega
            clear hown hfl hbr
            by_cases hlt2 : j < r.deps.length
            · obtain ⟨s, hs⟩ : ∃ x, r.deps[j]? = some x := ⟨r.deps[j], by simp [hlt2]⟩
              obtain ⟨b3, o3, ra, rc, rfl, hbl3, ⟨s0, s1, s2, s3, s4⟩, hsp, hrs⟩ := HDP.out.cellsSp2 hs
              have HFS := Lib.hid (filter_step (p := fun s => !Q.some_ (Q.mt s) l on) hs)
              have HSP := Lib.hid (hsp.below HB.out)
              have HRS := Lib.hid hrs
              have hbl4 : b3 < wr.heap.size := Nat.lt_of_lt_of_le hbl3 hz
              have v0 := (HB.out.cell (p := ⟨b3, o3 + j * 5, none⟩) hbl3).trans s0
              have v1 := (HB.out.cell (p := ⟨b3, o3 + j * 5 + 1, none⟩) hbl3).trans s1
              have v2 := (HB.out.cell (p := ⟨b3, o3 + j * 5 + 2, none⟩) hbl3).trans s2
              have v3 := (HB.out.cell (p := ⟨b3, o3 + j * 5 + 3, none⟩) hbl3).trans s3
              have v4 := (HB.out.cell (p := ⟨b3, o3 + j * 5 + 4, none⟩) hbl3).trans s4
              clear hs hsp hrs s0 s1 s2 s3 s4
              go_wp2_with fail
              clear v0 v1 v2 v3 v4
              (with_reducible refine (dhas_any s ra rc _ b c e l on _ (HSP.out.below (b1 _ _)) ((HR.out.below (fin HB3.out HB.out)).below (b1 _ _)) HOL.out).mono ?_)
              rintro e w2 ⟨rfl, hb⟩
              have q0 : w2.cell? ⟨wr.heap.size, 0, none⟩ = some (.string s.chan) := (hb.cell (p := ⟨wr.heap.size, 0, none⟩) (by simp)).trans (by simp)
              have q1 : w2.cell? ⟨wr.heap.size, 1, none⟩ = some (.string s.name) := (hb.cell (p := ⟨wr.heap.size, 1, none⟩) (by simp)).trans (by simp)
              have q2 : w2.cell? ⟨wr.heap.size, 2, none⟩ = some (.slice ra s.rows.length rc) := (hb.cell (p := ⟨wr.heap.size, 2, none⟩) (by simp)).trans (by simp)
              have q3 : w2.cell? ⟨wr.heap.size, 3, none⟩ = some (.string s.build) := (hb.cell (p := ⟨wr.heap.size, 3, none⟩) (by simp)).trans (by simp)
              have q4 : w2.cell? ⟨wr.heap.size, 4, none⟩ = some (.int .i64 s.num) := (hb.cell (p := ⟨wr.heap.size, 4, none⟩) (by simp)).trans (by simp)
              have HBW := Lib.hid (show Below wr.heap.size wr w2 from fin (b1 _ _) hb)
              have hz2 : wr.heap.size ≤ w2.heap.size := HBW.out.size
              clear hb
              cases hm : Q.some_ (Q.mt s) l on
              · have hst : ((r.deps.take (j + 1)).filter fun s => !Q.some_ (Q.mt s) l on) = ((r.deps.take j).filter fun s => !Q.some_ (Q.mt s) l on) ++ [s] := by rw [HFS.out, hm]; rfl
                have HST := Lib.hid hst
                clear hst hm
                generalize hms : ((r.deps.take j).filter fun s => !Q.some_ (Q.mt s) l on) = ms at *
                have HMS := Lib.hid hms
                clear hms
                go_wp2_with (at_builtin; refine wpList_append_flatAt (R := RVk) Tryd.infoSp zSp (by decide) rfl (.tmp 80) (.tmp 82) 49 rfl Tryd.underlying49 w3.heap.size qa ms.length qc cells rfl ((HO.out.below HBW.out).below (b1 _ _)) _ _ _ [[.string s.chan, .string s.name, .slice ra s.rows.length rc, .string s.build, .int .i64 s.num]] rfl rfl (made5 w2 _ rfl _ rfl (by intro u hu; simp at hu; rcases hu with rfl | rfl | rfl | rfl | rfl <;> rfl) _) (RVk.ones _) (by omega) (by omega) (by simp; omega) ?_; intro a3 c3 w5 cells3 hown3 hF3 hg3 hB5 hat3; have HB5 := Lib.hid hB5; have HO3 := Lib.hid hown3; have HF3 := Lib.hid (hF3.rvk (by rfl)); clear hg3 hown3 hB5 hF3 hat3)
                go_roundw
                case rel =>
                  refine ⟨j + 1, a3, c3, cells ++ cells3, by omega, by go_num, (by rw [HST.out]; simp), (by rw [HST.out, List.length_append]; exact HO3.out), ?_, ((fin HB.out HBW.out).alloc (fin HB.out HBW.out).size _).trans HB5.out⟩
                  rw [HST.out, HF3.out]
                  exact Flat.append (HF.out.mono fun us y _ h => h) (Flat.five HRS.out)
                case measure => simp [intOf]; omega
              · have hst : ((r.deps.take (j + 1)).filter fun s => !Q.some_ (Q.mt s) l on) = ((r.deps.take j).filter fun s => !Q.some_ (Q.mt s) l on) := by rw [HFS.out, hm]; simp
                have HST := Lib.hid hst
                clear hst hm
                go_wp2
                go_roundw
                case rel => exact ⟨j + 1, qa, qc, cells, by omega, by go_num, (by rw [HST.out]), (by rw [HST.out]; exact HO.out.below HBW.out), (by rw [HST.out]; exact HF.out.mono fun us y _ h => h), fin HB.out HBW.out⟩
                case measure => simp [intOf]; omega
            · have hfull : ((r.deps.take j).filter fun s => !Q.some_ (Q.mt s) l on) = Q.lacks l on r := by rw [List.take_of_length_le (by omega)]; rfl
              rw [hfull] at HO HF hfl9 ⊢
              clear hfull
              have HW := Lib.hid (show Sl RSp 5 wr qa (Q.lacks l on r) from Own.sl HO.out (HF.out.unfix stays_RSp HB.out) (by omega))
              have HM := Lib.hid (HM3.out.below stays_RSp HB.out)
              have HBR := Lib.hid (fin HB3.out HB.out)
              generalize hL : Q.lacks l on r = L at *
              have n2 : ((L.length : Int) != (L.length : Int)) = false := by simp
              clear hL HO HF HB
              obtain ⟨wo, rfl⟩ : ∃ wo : World, wo = wr := ⟨_, rfl⟩
              go_wp2
              clear n2
              go_loopw [14, 92] (fun _ i wr => ∃ k : Nat, k ≤ L.length ∧ i = .int .i64 k ∧ Below wo.heap.size wo wr) (fun _ i _ => L.length - (intOf i).toNat)
              case atStart => exact ⟨0, by omega, rfl, Below.refl _ _⟩
              case round =>
                obtain ⟨k, hk, rfl, hbr⟩ := hrel
                have HB := Lib.hid hbr
                clear hbr
                by_cases hlt3 : k < L.length
                · obtain ⟨x, hx⟩ : ∃ x, L[k]? = some x := ⟨L[k], by simp [hlt3]⟩
                  obtain ⟨b3, o3, ra, rc, rfl, hb3, ⟨u0, u1, u2, u3, u4⟩, hsp1⟩ := (HM.out.below stays_RSp HB.out).cellsSp hx
                  obtain ⟨b4, o4, rb, rd, rfl, hb4, ⟨v0, v1, v2, v3, v4⟩, hsp2⟩ := (HW.out.below stays_RSp HB.out).cellsSp hx
                  have HV1 := Lib.hid hsp1
                  have HV2 := Lib.hid hsp2
                  clear hsp1 hsp2 hx
                  have HAF := Lib.hid (show ∀ w7, Below wr.heap.size wr w7 → (fun w' => w'.cell? ⟨b3, o3 + k * 5, none⟩ = some (.string x.chan) ∧ w'.cell? ⟨b3, o3 + k * 5 + 1, none⟩ = some (.string x.name) ∧ w'.cell? ⟨b3, o3 + k * 5 + 2, none⟩ = some (.slice ra x.rows.length rc) ∧ w'.cell? ⟨b3, o3 + k * 5 + 3, none⟩ = some (.string x.build) ∧ w'.cell? ⟨b3, o3 + k * 5 + 4, none⟩ = some (.int .i64 x.num) ∧ w'.cell? ⟨b4, o4 + k * 5, none⟩ = some (.string x.chan) ∧ w'.cell? ⟨b4, o4 + k * 5 + 1, none⟩ = some (.string x.name) ∧ w'.cell? ⟨b4, o4 + k * 5 + 2, none⟩ = some (.slice rb x.rows.length rd) ∧ w'.cell? ⟨b4, o4 + k * 5 + 3, none⟩ = some (.string x.build) ∧ w'.cell? ⟨b4, o4 + k * 5 + 4, none⟩ = some (.int .i64 x.num)) w7 from fun w7 hbb => ⟨(hbb.cell (p := ⟨b3, o3 + k * 5, none⟩) hb3).trans u0, (hbb.cell (p := ⟨b3, o3 + k * 5 + 1, none⟩) hb3).trans u1, (hbb.cell (p := ⟨b3, o3 + k * 5 + 2, none⟩) hb3).trans u2, (hbb.cell (p := ⟨b3, o3 + k * 5 + 3, none⟩) hb3).trans u3, (hbb.cell (p := ⟨b3, o3 + k * 5 + 4, none⟩) hb3).trans u4, (hbb.cell (p := ⟨b4, o4 + k * 5, none⟩) hb4).trans v0, (hbb.cell (p := ⟨b4, o4 + k * 5 + 1, none⟩) hb4).trans v1, (hbb.cell (p := ⟨b4, o4 + k * 5 + 2, none⟩) hb4).trans v2, (hbb.cell (p := ⟨b4, o4 + k * 5 + 3, none⟩) hb4).trans v3, (hbb.cell (p := ⟨b4, o4 + k * 5 + 4, none⟩) hb4).trans v4⟩)
                  go_wp2
                  go_region_held3 (fun w' => w'.cell? ⟨b3, o3 + k * 5, none⟩ = some (.string x.chan) ∧ w'.cell? ⟨b3, o3 + k * 5 + 1, none⟩ = some (.string x.name) ∧ w'.cell? ⟨b3, o3 + k * 5 + 2, none⟩ = some (.slice ra x.rows.length rc) ∧ w'.cell? ⟨b3, o3 + k * 5 + 3, none⟩ = some (.string x.build) ∧ w'.cell? ⟨b3, o3 + k * 5 + 4, none⟩ = some (.int .i64 x.num) ∧ w'.cell? ⟨b4, o4 + k * 5, none⟩ = some (.string x.chan) ∧ w'.cell? ⟨b4, o4 + k * 5 + 1, none⟩ = some (.string x.name) ∧ w'.cell? ⟨b4, o4 + k * 5 + 2, none⟩ = some (.slice rb x.rows.length rd) ∧ w'.cell? ⟨b4, o4 + k * 5 + 3, none⟩ = some (.string x.build) ∧ w'.cell? ⟨b4, o4 + k * 5 + 4, none⟩ = some (.int .i64 x.num))
                    (first | exact ⟨u0, u1, u2, u3, u4, v0, v1, v2, v3, v4⟩ | exact HAF.out _ hbb | go_keep)
                    (first
                    | (go_at_call 34; (refine (same09_self x ra rb rc rd _ (HV1.out.below ((Below.refl _ _).drew)) (HV2.out.below ((Below.refl _ _).drew))).mono ?_); rintro e w7 ⟨rfl, hb⟩; have hbb : Below wr.heap.size wr w7 := fin ((Below.refl _ _).drew) hb; clear hb))
                  go_wp2
                  go_roundw
                  case rel => exact ⟨k + 1, by omega, by go_num, fin HB.out hbb⟩
                  case measure => simp [intOf]; omega
                · go_wp2_with fail
                  (with_reducible refine (whole_any ad _ b c _ l on _ (HR.out.below (fin HBR.out HB.out)) (HA.out.below (fin HBR.out HB.out))).mono ?_)
                  rintro e w5 ⟨rfl, hb⟩
                  have HB5 := Lib.hid (fin (fin HBR.out HB.out) hb)
                  clear hb
                  rw [HWS.out]
                  go_wp2_with fail
                  (with_reducible refine (dwhole_any _ b c _ l on _ (HR.out.below HB5.out) HOL.out).mono ?_)
                  rintro e w6 ⟨rfl, hb⟩
                  have HB6 := Lib.hid (fin HB5.out hb)
                  clear hb
                  go_wp2
                  go_ret
                  exact ⟨by simp, HB6.out⟩
        · have HIN := Lib.hid hin
          clear hin hol
          go_wp2_with fail
          (with_reducible refine (miss_bad a b c e l on i _ HI.out (by omega) (by omega) (by have := HIN.out; omega)).mono ?_)
          rintro e w3 ⟨rfl, hb⟩
          have HB3 := Lib.hid (fin HB2.out hb)
          clear hb
          go_wp2_with fail
          refine (count_any b _ on _ (HR.out.below HB3.out).bools).mono ?_
          rintro e w4 ⟨rfl, rfl⟩
          rcases (show i < 0 ∨ (0 ≤ i ∧ (l.length : Int) ≤ i) by have := HIN.out; omega) with g | ⟨g, g2⟩
          · have d0 : decide (0 ≤ i) = false := by simp; omega
            go_wp2
            go_loopw [14, 92] (fun _ i wr => i = .int .i64 0 ∧ Below w3.heap.size w3 wr) (fun _ i _ => 0)
            case atStart => exact ⟨rfl, b1 _ _⟩
            case round =>
              obtain ⟨rfl, hbr⟩ := hrel
              have HB := Lib.hid (fin HB3.out hbr)
              clear hbr
              go_wp2_with fail
              (with_reducible refine (whole_any ad _ b c _ l on _ (HR.out.below HB.out) (HA.out.below HB.out)).mono ?_)
              rintro e w5 ⟨rfl, hb⟩
              have HB5 := Lib.hid (fin HB.out hb)
              clear hb
              rw [HWS.out]
              go_wp2_with fail
              (with_reducible refine (dwhole_any _ b c _ l on _ (HR.out.below HB5.out) HOL.out).mono ?_)
              rintro e w6 ⟨rfl, hb⟩
              have HB6 := Lib.hid (fin HB5.out hb)
              clear hb
              go_wp2
              go_ret
              exact ⟨by simp, HB6.out⟩
          · have d0 : decide (0 ≤ i) = true := by simp; omega
            have d1 : decide (i < (l.length : Int)) = false := by simp; omega
            go_wp2
            go_loopw [14, 92] (fun _ i wr => i = .int .i64 0 ∧ Below w3.heap.size w3 wr) (fun _ i _ => 0)
            case atStart => exact ⟨rfl, b1 _ _⟩
            case round =>
              obtain ⟨rfl, hbr⟩ := hrel
              have HB := Lib.hid (fin HB3.out hbr)
              clear hbr
              go_wp2_with fail
              (with_reducible refine (whole_any ad _ b c _ l on _ (HR.out.below HB.out) (HA.out.below HB.out)).mono ?_)
              rintro e w5 ⟨rfl, hb⟩
              have HB5 := Lib.hid (fin HB.out hb)
              clear hb
              rw [HWS.out]
              go_wp2_with fail
              (with_reducible refine (dwhole_any _ b c _ l on _ (HR.out.below HB5.out) HOL.out).mono ?_)
              rintro e w6 ⟨rfl, hb⟩
              have HB6 := Lib.hid (fin HB5.out hb)
              clear hb
              go_wp2
              go_ret
              exact ⟨by simp, HB6.out⟩
      · have n1 : ((on.length : Int) != (l.length : Int)) = true := by rw [bne_iff_ne]; omega
        have HOL := Lib.hid hol
        clear hol
        go_wp2_with fail
        (with_reducible refine (miss_bad a b c e l on i _ HI.out (by omega) (by omega) (.inr (.inr HOL.out))).mono ?_)
        rintro e w3 ⟨rfl, hb⟩
        have HB3 := Lib.hid (fin HB2.out hb)
        clear hb
        go_wp2_with fail
        refine (count_any b _ on _ (HR.out.below HB3.out).bools).mono ?_
        rintro e w4 ⟨rfl, rfl⟩
        go_wp2_with fail
        (with_reducible refine (whole_any ad a b c _ l on _ (HR.out.below HB3.out) (HA.out.below HB3.out)).mono ?_)
        rintro e w5 ⟨rfl, hb⟩
        have HB5 := Lib.hid (fin HB3.out hb)
        clear hb
        rw [whole_off HOL.out]
        go_wp2
        go_ret
        exact ⟨rfl, HB5.out⟩
end Go.Proofs.YtpminhafljlldaaDoor
