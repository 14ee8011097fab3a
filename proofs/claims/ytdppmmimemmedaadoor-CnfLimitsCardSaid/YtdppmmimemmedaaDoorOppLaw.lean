/- The walk of haversacklaw15.CnfOpposites. -/
import Derived.Test.YtdppmmimemmedaaDoorOnesLaw
import Derived.Test.YtdppmmimemmedaaDoorOr2
import Derived.Test.YtdppmmimemmedaaDoorAdd
import Derived.Test.YtdppmmimemmedaaDoorOppMath
namespace Go.Proofs.YtdppmmimemmedaaDoor
open Go.RowKit Go.Shelf

theorem M.sgTo_all {V : Nat} {ss : List Bool} {k : Nat} (h : k < V) : (M.sgTo V ss (k + 1))[k]? = (M.sgTo V ss V)[k]? := by
  rw [M.sgTo_get h, M.sgTo_get h, if_pos (by omega), if_pos h]
theorem M.neg_take {l : List Int} {k : Nat} {z : Int} (h : l[k]? = some z) : (l.take (k + 1)).map (- ·) = (l.take k).map (- ·) ++ [-z] := by
  rw [List.take_add_one, h]; simp
theorem OwnI.set_other {w : World} {base g i c : Nat} {a : Option Addr} {ys : List Int} (h : OwnI w base a c ys) (hg : g < base) (v : Value) : OwnI (w.setCell ⟨g, i, none⟩ v) base a c ys := by
  refine ⟨h.1, ?_⟩
  rcases h.2 with h0 | ⟨g', cap, cur, e, hb, hg', r⟩
  · exact .inl h0
  · exact .inr ⟨g', cap, cur, e, hb, (Below.heap_setCell _ _ _ _ (by show g' ≠ g; omega)).trans hg', r⟩
theorem OwnI.below'' {w w' : World} {base n g c : Nat} {ys : List Int} (h : OwnI w base (some ⟨g, 0, none⟩) c ys) (hb : Below n w w') (hg : g < n) : OwnI w' base (some ⟨g, 0, none⟩) c ys := by
  refine ⟨h.1, ?_⟩
  rcases h.2 with h0 | ⟨g', cap, cur, e, hbg, hg', r⟩
  · exact .inl h0
  · have e2 : g' = g := by injection e with e1; injection e1 with e1; injection e1 with e1; exact e1.symm
    exact .inr ⟨g', cap, cur, e, hbg, (hb.block g' (by omega)).trans hg', r⟩
theorem M.sg_lit {V : Nat} (ss : List Bool) {k : Nat} (h : k < V) (hV : V ≤ 1000) : M.isLit (M.sg ss k ((k : Int) + 1)) = true := by
  rcases M.sg_cases ss k ((k : Int) + 1) with e | e <;> rw [e, M.isLit_iff] <;> omega
theorem Fm.below' {X : Nat → Prop} {w w' : World} {base p vars n : Nat} {c : Nat} (h : Fm X w base p vars [] none c) (hb : Below n w w') (hp : p < n) : Fm X w' base p vars [] none c := by
  refine ⟨h.le, (hb.block p hp).trans h.blk, ⟨OffX.none X, [], ?_, fun j x hx => by simp at hx⟩, h.vars, h.len, h.xlt.mono hb.size, h.xp⟩
  obtain ⟨_, vals, hr, _⟩ := h.own
  rcases hr.2 with ⟨e, hn⟩ | ⟨g, cap, cur, e, _⟩
  · exact ⟨rfl, .inl ⟨e, hn⟩⟩
  · injection e with e1; cases e1
theorem GateOk.as {X : Nat → Prop} {w w' : World} {base p vars n : Nat} {cs : List (List Int)} {e : Ending} (h : GateOk X w base p vars cs e w') (hn : vars + 1 = n) : e = .returned (.tuple #[.int .i64 (n : Int), .nilIface]) ∧ FmPost X w base p n cs w' := by
  subst hn; refine ⟨?_, h.2⟩; rw [h.1]; simp
theorem M.own_map_neg {V : Nat} {l : List Int} (h : M.own V l = true) : M.own V (l.map (- ·)) = true := by
  rw [M.own_iff] at *
  intro x hx
  simp at hx
  obtain ⟨y, hy, rfl⟩ := hx
  have := h y hy
  omega
theorem M.own_mono {V U : Nat} {l : List Int} (h : M.own V l = true) (hv : V ≤ U) : M.own U l = true := by
  rw [M.own_iff] at *
  intro x hx; have := h x hx; omega
set_option maxHeartbeats 8000000 in
set_option maxRecDepth 100000 in
theorem oppLaw (x : Int) (b : Option Addr) (d : Nat) (ss : List Bool) (w : World) (hx : I64 x) (hs : Bools w b ss) :
    Calls Tryd.prog 6 #[.int .i64 x, .slice b ss.length d] w fun e w' => e = .returned (.bool true) ∧ Below w.heap.size w w' := by
  have hsl := hs.len
  have hx1 := hx.lo
  have hx2 := hx.hi
  have HX := Lib.hid hx
  clear hx
  go_enter Tryd.func6, Tryd.ntmps6
  go_wp2_with fail
  refine (alive15 w).mono ?_
  rintro e W0 ⟨rfl, hb0⟩
  have HB0 := Lib.hid hb0
  clear hb0
  obtain ⟨V, hV, hV1, hV8⟩ := mod_val x 6 (by omega) (by omega)
  have HV := Lib.hid hV
  clear hV
  go_wp2_with fail
  rw [HV.out]
  have HBS := Lib.hid hs
  clear hs HV HX hx1 hx2
  refine (new_any _).mono ?_
  rintro e W1 ⟨rfl, hW1⟩
  have hF1 : Fm NoX W1 w.heap.size W0.heap.size 0 [] none 0 := by rw [← hW1]; exact Fm.new W0 _ HB0.out.size (NoX.lt _)
  have hb1 : Below w.heap.size w W1 := by rw [← hW1]; exact below_alloc HB0.out _
  have HB1 := Lib.hid hb1
  have hne : W1.heap.size ≠ W0.heap.size := by rw [← hW1]; simp
  have hlt01 : W0.heap.size < W1.heap.size := by rw [← hW1]; simp
  have hm := many_ok w.heap.size W0.heap.size 0 V [] none 0 W1 hF1 (by omega) (by omega) hb1.size
  have HM := Lib.hid hm
  clear hW1 hb1 hF1 hm
  go_wp2_with fail
  refine HM.out.mono ?_
  rintro e W2 ⟨rfl, hF2, hO2, hA2⟩
  have hge : w.heap.size ≤ W0.heap.size := HB0.out.size
  have hb2 : Below w.heap.size w W2 := HB1.out.trans (hA2.below hge HB1.out.size)
  rw [Nat.zero_add] at hF2
  have hlt12 : W1.heap.size < W2.heap.size := by
    rcases hO2.parts with ⟨e, _⟩ | ⟨g, cur, e, _, hg, _⟩
    · cases e
    · cases e; exact hg
  have HF2 := Lib.hid hF2
  have HO2 := Lib.hid hO2
  have HB2 := Lib.hid hb2
  have hgW : w.heap.size ≤ W1.heap.size := HB1.out.size
  have hO3 := OwnI.made0 W2 W2.heap.size (Nat.le_refl _)
  have HO3 := Lib.hid hO3
  clear hF2 hO2 hA2 hb2 HM hO3
  go_wp2
  go_loopw [8, 9, 38] (fun v _ i wr => ∃ (k : Nat) (a' : Option Addr) (c' : Nat), k ≤ V ∧ i = .int .i64 k ∧ v = .slice a' k c' ∧ Fm NoX wr w.heap.size W0.heap.size V [] none 0 ∧ OwnI wr w.heap.size (some ⟨W1.heap.size, 0, none⟩) V (M.sgTo V ss k) ∧ OwnI wr W2.heap.size a' c' (((M.sgTo V ss V).take k).map (- ·)) ∧ Below w.heap.size w wr ∧ W2.heap.size ≤ wr.heap.size) (fun _ _ i _ => V - (intOf i).toNat)
  case atStart => exact ⟨0, _, 0, Nat.zero_le _, rfl, rfl, HF2.out.below (below_alloc (Below.refl _ _) _), by rw [M.sgTo_zero]; exact HO2.out.alloc _, HO3.out, below_alloc HB2.out _, by simp⟩
  case round =>
    obtain ⟨k, a', c', hk, rfl, rfl, hF, hO, hP, hb, hsz⟩ := hrel
    have HF := Lib.hid hF
    have HO := Lib.hid hO
    have HP := Lib.hid hP
    have HB := Lib.hid hb
    clear hF hO hP hb
    by_cases hlt : k < V
    · have hcell := HO.out.cell (M.sgTo_get (k := k) (ss := ss) hlt)
      rw [if_neg (by omega)] at hcell
      have hfz := HO.out.frozen k
      have hsr := HBS.out.below HB.out
      have hplen : (((M.sgTo V ss V).take k).map (- ·)).length = k := by simp [M.sgTo_length]; omega
      have HPL := Lib.hid hplen
      have hlitk := M.sg_lit ss hlt (show V ≤ 1000 by omega)
      have hzV : (M.sgTo V ss V)[k]? = some (M.sg ss k ((k : Int) + 1)) := by rw [M.sgTo_get hlt, if_pos hlt]
      have HZV := Lib.hid hzV
      clear hplen hzV
      cases hsk : ss[k]?.getD false
      · have hsg : M.sg ss k ((k : Int) + 1) = (k : Int) + 1 := by simp [M.sg, hsk]
        rw [hsg] at hlitk HZV
        clear hsg
        by_cases hks : k < ss.length
        · obtain ⟨bb, off, rfl, hbl, hcl⟩ := hsr.addr (by omega)
          obtain ⟨y, hy⟩ : ∃ y, ss[k]? = some y := ⟨ss[k], by simp [hks]⟩
          have hcs := hcl k y hy
          rw [hy] at hsk
          simp at hsk
          subst hsk
          have HY := Lib.hid hy
          clear hcl hy
          go_wp2_with (at_builtin; refine wpList_append_Ints rfl (.tmp 59) (.tmp 65) 27 rfl Tryd.underlying27 W2.heap.size _ _ _ (((M.sgTo V ss V).take k).map (- ·)) rfl HPL.out (OwnI.alloc HP.out _) _ _ _ [-((k : Int) + 1)] rfl rfl (Ints.one wr _ (I64.of_lit (by rw [M.isLit_neg]; exact hlitk)) _) (fun h => by cases h) (by omega) (by simp; omega) ?_; intro a2 c2 w2 hown2 hg2 hB2; have HB2' := Lib.hid hB2; have HO2' := Lib.hid hown2; clear hg2 hown2 hB2)
          go_roundw
          case rel =>
            have hbb : Below W2.heap.size wr w2 := ((Below.refl _ _).alloc hsz _).trans HB2'.out
            refine ⟨k + 1, a2, c2, by omega, by go_num, rfl, HF.out.below' hbb (by omega), ?_, by rw [M.neg_take HZV.out]; exact HO2'.out, HB.out.trans (hbb.mono (by omega)), Nat.le_trans hsz hbb.size⟩
            rw [← M.sgTo_keep (by rw [HY.out]; rfl)]
            exact HO.out.below'' hbb (by omega)
          case measure => simp [intOf]; omega
        · have hd : decide ((k : Int) < (ss.length : Int)) = false := by simp; omega
          have HSK := Lib.hid hsk
          clear hsk
          go_wp2_with (at_builtin; refine wpList_append_Ints rfl (.tmp 59) (.tmp 65) 27 rfl Tryd.underlying27 W2.heap.size _ _ _ (((M.sgTo V ss V).take k).map (- ·)) rfl HPL.out (OwnI.alloc HP.out _) _ _ _ [-((k : Int) + 1)] rfl rfl (Ints.one wr _ (I64.of_lit (by rw [M.isLit_neg]; exact hlitk)) _) (fun h => by cases h) (by omega) (by simp; omega) ?_; intro a2 c2 w2 hown2 hg2 hB2; have HB2' := Lib.hid hB2; have HO2' := Lib.hid hown2; clear hg2 hown2 hB2)
          go_roundw
          case rel =>
            have hbb : Below W2.heap.size wr w2 := ((Below.refl _ _).alloc hsz _).trans HB2'.out
            refine ⟨k + 1, a2, c2, by omega, by go_num, rfl, HF.out.below' hbb (by omega), ?_, by rw [M.neg_take HZV.out]; exact HO2'.out, HB.out.trans (hbb.mono (by omega)), Nat.le_trans hsz hbb.size⟩
            rw [← M.sgTo_keep HSK.out]
            exact HO.out.below'' hbb (by omega)
          case measure => simp [intOf]; omega
      · have hsg : M.sg ss k ((k : Int) + 1) = -((k : Int) + 1) := by simp [M.sg, hsk]
        rw [hsg] at hlitk HZV
        clear hsg
        have hks : k < ss.length := by
          rcases Nat.lt_or_ge k ss.length with h' | h'
          · exact h'
          · rw [List.getElem?_eq_none h'] at hsk; cases hsk
        obtain ⟨bb, off, rfl, hbl, hcl⟩ := hsr.addr (by omega)
        obtain ⟨y, hy⟩ : ∃ y, ss[k]? = some y := ⟨ss[k], by simp [hks]⟩
        have hcs := hcl k y hy
        rw [hy] at hsk
        simp at hsk
        subst hsk
        have HY := Lib.hid hy
        clear hcl hy
        have hpw := (HP.out.set_other (i := k) (v := .int .i64 (-((k : Int) + 1))) (show W1.heap.size < W2.heap.size from hlt12))
        have HPW := Lib.hid hpw
        have hszS : W2.heap.size ≤ ((wr.setCell ⟨W1.heap.size, k, none⟩ (.int .i64 (-((k : Int) + 1)))).alloc (.cells #[.int .i64 ((k : Int) + 1)] 3)).heap.size := by simp [World.setCell]; omega
        have HSZ := Lib.hid hszS
        have hI1 := Ints.one (wr.setCell ⟨W1.heap.size, k, none⟩ (.int .i64 (-((k : Int) + 1)))) ((k : Int) + 1) (i64_small (by omega)) 3
        rw [show (wr.setCell ⟨W1.heap.size, k, none⟩ (.int .i64 (-((k : Int) + 1)))).heap.size = wr.heap.size from by simp [World.setCell]] at hI1
        have HI1 := Lib.hid hI1
        clear hpw hszS hI1
        go_wp2_with (at_builtin; refine wpList_append_Ints rfl (.tmp 59) (.tmp 65) 27 rfl Tryd.underlying27 W2.heap.size _ _ _ (((M.sgTo V ss V).take k).map (- ·)) rfl HPL.out (OwnI.alloc HPW.out _) _ _ _ [(k : Int) + 1] rfl rfl HI1.out (fun h => by cases h) (by omega) HSZ.out ?_; intro a2 c2 w2 hown2 hg2 hB2; have HB2' := Lib.hid hB2; have HO2' := Lib.hid hown2; clear hg2 hown2 hB2)
        go_roundw
        case rel =>
          have hbb : Below W2.heap.size (wr.setCell ⟨W1.heap.size, k, none⟩ (.int .i64 (-((k : Int) + 1)))) w2 := ((Below.refl _ _).alloc (by simpa [World.setCell] using hsz) _).trans HB2'.out
          have hbw := HB.out.setCell (p := ⟨W1.heap.size, k, none⟩) hgW (.int .i64 (-((k : Int) + 1)))
          refine ⟨k + 1, a2, c2, by omega, by go_num, rfl, (HF.out.set0 _ _ _ hne).below' hbb (by omega), ?_, by rw [M.neg_take HZV.out]; simpa using HO2'.out, hbw.trans (hbb.mono (by omega)), Nat.le_trans (by simpa [World.setCell] using hsz) hbb.size⟩
          rw [← M.sgTo_neg hlt (by rw [HY.out]; rfl)]
          exact (HO.out.stored k _).below'' hbb (by omega)
        case measure => simp [intOf]; omega
    · obtain rfl : k = V := by omega
      have hown := M.sgTo_own k ss k
      have hL := M.sgTo_length k ss k
      have hO := HO.out
      have hP := HP.out
      rw [List.take_of_length_le (by omega)] at hP
      clear HO HP HF2 HO2 HO3 HBS
      generalize M.sgTo k ss k = L at *
      have hlits := M.own_isLit (vars := k) (by omega) hown
      have hIl := hO.ints (fun z hz => I64.of_lit (hlits z hz)) (by omega)
      have hIo := hP.ints (fun z hz => I64.of_lit (M.own_isLit (vars := k) (by omega) (M.own_map_neg hown) z hz)) (by simp; omega)
      have hLo : (L.map (- ·)).length = k := by simp [hL]
      obtain ⟨n1, hn1⟩ : ∃ n1, k + 1 = n1 := ⟨_, rfl⟩
      obtain ⟨n2, hn2⟩ : ∃ n2, n1 + 1 = n2 := ⟨_, rfl⟩
      obtain ⟨n3, hn3⟩ : ∃ n3, n2 + 1 = n3 := ⟨_, rfl⟩
      have hand := and_ok w.heap.size W0.heap.size k [] none 0 a' c' (L.map (- ·)) wr HF.out HB.out.size hIo hP.tag.kept (M.own_map_neg hown) (by omega) (by rw [hLo]; simp; omega)
      rw [hLo, hn1] at hand
      have hand' := hand.mono fun e w' h => GateOk.as h hn1
      have HA := Lib.hid hand'
      have HOWN := Lib.hid hown
      have HL := Lib.hid hL
      have HLITS := Lib.hid hlits
      have HIL := Lib.hid (And.intro hIl hO.tag)
      have b1 : (n1 : Int) ≤ 10000 := by omega
      have b2 : (n2 : Int) ≤ 10000 := by omega
      have b3 : (n3 : Int) ≤ 10000 := by omega
      have b3' : (0 : Int) ≤ (n3 : Int) := by omega
      have hk6 : k ≤ 6 := by omega
      have HN1 := Lib.hid hn1
      have HN2 := Lib.hid hn2
      have HN3 := Lib.hid hn3
      clear hand hand' hown hL hlits hIl hIo hLo hO hP HF hn1 hn2 hn3 hV8
      go_wp2_with fail
      refine HA.out.mono ?_
      rintro e W3 ⟨rfl, a3, c3, hF3, hk3⟩
      have hb3 : Below w.heap.size w W3 := HB.out.trans (hk3.below HB.out.size)
      have hI3 := hk3.ints HIL.out.1 HIL.out.2
      have hlen3 := M.addCs_length [] (M.andC (n1 : Int) (L.map (- ·)))
      rw [show (M.andC (n1 : Int) (L.map (- ·))).length = k + 1 from by simp [M.andC, HL.out]] at hlen3
      simp only [List.length_nil] at hlen3
      have hn1v := HN1.out
      have hn2v := HN2.out
      have hor := or_ok w.heap.size W0.heap.size n1 _ a3 c3 (some ⟨W1.heap.size, 0, none⟩) k L W3 hF3 hb3.size hI3.1 (fun h => by cases h) hI3.2.kept (M.own_mono HOWN.out (by omega)) (by omega) (by rw [HL.out]; omega)
      rw [HL.out, HN2.out] at hor
      have hor' := hor.mono fun e w' h => GateOk.as h HN2.out
      have HO := Lib.hid hor'
      have hlen4 := M.addCs_length ((M.andC (n1 : Int) (L.map (- ·))).foldl M.addC []) (M.orC (n2 : Int) L)
      rw [show (M.orC (n2 : Int) L).length = k + 1 from by simp [M.orC, HL.out]] at hlen4
      have HL4 := Lib.hid (show ((M.orC (n2 : Int) L).foldl M.addC ((M.andC (n1 : Int) (L.map (- ·))).foldl M.addC [])).length ≤ 100 by omega)
      have HB3 := Lib.hid hb3
      clear hor hor' hF3 hk3 hb3 hI3 hlen3 hlen4 HA HIL hn1v hn2v HB HB2 HB1 HB0
      go_wp2_with fail
      refine HO.out.mono ?_
      rintro e W4 ⟨rfl, a4, c4, hF4, hk4⟩
      have hb4 : Below w.heap.size w W4 := HB3.out.trans (hk4.below HB3.out.size)
      have hn1v := HN1.out
      have hn2v := HN2.out
      have hn3v := HN3.out
      have hl4 := HL4.out
      have hown2 : M.own n2 [(n1 : Int), (n2 : Int)] = true := by
        rw [M.own_iff]; intro y hy; simp at hy; rcases hy with rfl | rfl <;> omega
      have hxor := xor_ok w.heap.size W0.heap.size n2 _ a4 c4 (n1 : Int) (n2 : Int) W4 hF4 hown2 (by omega) (by omega)
      rw [HN3.out] at hxor
      have hxor' := hxor.mono fun e w' h => GateOk.as h HN3.out
      have HX := Lib.hid hxor'
      have hlen5 := M.addCs_length ((M.orC (n2 : Int) L).foldl M.addC ((M.andC (n1 : Int) (L.map (- ·))).foldl M.addC [])) (M.xorC (n3 : Int) (n1 : Int) (n2 : Int))
      rw [show (M.xorC (n3 : Int) (n1 : Int) (n2 : Int)).length = 4 from rfl] at hlen5
      have HL5 := Lib.hid (show ((M.xorC (n3 : Int) (n1 : Int) (n2 : Int)).foldl M.addC ((M.orC (n2 : Int) L).foldl M.addC ((M.andC (n1 : Int) (L.map (- ·))).foldl M.addC []))).length ≤ 104 by omega)
      have hg1 : M.isLit (n1 : Int) = true := by rw [M.isLit_iff]; omega
      have hg2 : M.isLit (n2 : Int) = true := by rw [M.isLit_iff]; omega
      have hg3 : M.isLit (n3 : Int) = true := by rw [M.isLit_iff]; omega
      have hsem := fun m => M.opp_false (l := L) hg1 hg2 hg3 HLITS.out m
      have HSEM := Lib.hid hsem
      have HB4 := Lib.hid hb4
      clear hxor hxor' hF4 hk4 hb4 hlen5 HO HL4 hl4 hn1v hn2v hn3v hown2 hsem hg1 hg2 HB3
      generalize (M.xorC (n3 : Int) (n1 : Int) (n2 : Int)).foldl M.addC ((M.orC (n2 : Int) L).foldl M.addC ((M.andC (n1 : Int) (L.map (- ·))).foldl M.addC [])) = cs5 at *
      go_wp2_with fail
      refine HX.out.mono ?_
      rintro e W5 ⟨rfl, a5, c5, hF5, hk5⟩
      have hb5 : Below w.heap.size w W5 := HB4.out.trans (hk5.below HB4.out.size)
      have hl5 := HL5.out
      have hownx : M.own n3 [-(n3 : Int)] = true := by
        rw [M.own_iff]; intro y hy; simp at hy; subst hy
        have := (M.isLit_iff _).1 hg3; omega
      have hadd := add_ok w.heap.size W0.heap.size n3 cs5 a5 c5 (some ⟨W5.heap.size, 0, none⟩) 1 [-(n3 : Int)] (W5.alloc (.cells #[.int .i64 (-(n3 : Int))] 3)) (hF5.below (below_alloc (Below.refl _ _) _)) (Ints.one W5 _ (I64.of_lit (by rw [M.isLit_neg]; exact hg3)) _) hownx (by omega)
      have HADD := Lib.hid hadd
      have HB5 := Lib.hid (below_alloc hb5 (.cells #[.int .i64 (-(n3 : Int))] 3))
      have hcl5 := M.addC_length cs5 [-(n3 : Int)]
      have HL6 := Lib.hid (show (M.addC cs5 [-(n3 : Int)]).length ≤ 105 by omega)
      clear hadd hF5 hk5 hb5 hl5 hownx HX HL5 hg3 HB4 hcl5
      go_wp2_with fail
      refine HADD.out.mono ?_
      rintro e W6 ⟨rfl, a6, c6, hF6, hk6'⟩
      generalize M.addC cs5 [-(n3 : Int)] = cs6 at *
      have hb6 : Below w.heap.size w W6 := HB5.out.trans (hk6'.below HB5.out.size)
      have hcl := clauses_any _ _ _ _ a6 c6 W6 hF6 (NoX.lt W6)
      have HCL := Lib.hid hcl
      have HF6 := Lib.hid hF6
      have HB6 := Lib.hid hb6
      clear hcl hF6 hb6 hk6' HADD HB5
      go_wp2_with fail
      refine HCL.out.mono ?_
      rintro e W7 ⟨rfl, hO7, hb7⟩
      have HB7 := Lib.hid (below_next HB6.out hb7)
      have hc07 := (HF6.out.below hb7).cell0
      have hv := vars_any W0.heap.size n3 W7 hc07
      have HVV := Lib.hid hv
      obtain ⟨N, hN⟩ : ∃ N, N = 2 ^ n3 := ⟨_, rfl⟩
      have hn3le : n3 ≤ 10 := by have := HN1.out; have := HN2.out; have := HN3.out; omega
      have hmod := models_any n3 N W7 hn3le hN
      have hl6 := HL6.out
      have HCLS := Lib.hid (hO7.cls (by omega))
      have HMOD := Lib.hid hmod
      have hNle : N ≤ 1024 := by rw [hN]; exact Nat.le_trans (Nat.pow_le_pow_right (by omega) hn3le) (by decide)
      clear hO7 hb7 hmod hN HCL hv hc07 HF6 hl6
      go_wp2_with fail
      refine HVV.out.mono ?_
      rintro e W7' ⟨rfl, rfl⟩
      go_wp2_with fail
      refine HMOD.out.mono ?_
      rintro e W8 ⟨am, cm, rfl, hR8, hb8⟩
      have HB8 := Lib.hid (below_next HB7.out hb8)
      have HC8 := Lib.hid (HCLS.out.below hb8)
      have HR8 := Lib.hid hR8
      have hcl8 := HC8.out.len
      clear hb8 hR8 HMOD HB7 HCLS HVV HB6
      go_wp2
      go_loop [18, 109] (fun _ i => ∃ j : Nat, j ≤ N ∧ i = .int .i64 j) (fun _ i => N - (intOf i).toNat)
      case atStart => exact ⟨0, Nat.zero_le _, rfl⟩
      case round =>
        obtain ⟨j, hj, rfl⟩ := hrel
        by_cases hjl : j < N
        · obtain ⟨m, hm⟩ : ∃ m, (M.models n3 N)[j]? = some m := ⟨_, List.getElem?_eq_getElem (by rw [M.models_length]; exact hjl)⟩
          have hml : m.length ≤ 140737488351232 := by
            have : m = M.model n3 j := by simpa [M.models, hjl] using hm.symm
            rw [this, M.model_length]; omega
          obtain ⟨g, a', c', rfl, hcm, hBm⟩ := HR8.out.cell hm
          have HBM := Lib.hid (hBm.bools hml)
          have hat := HSEM.out m
          clear hm hBm hml
          go_wp2_with (go_at_call 22; refine (rall_any _ _ _ _ _ _ _ HC8.out HBM.out).mono ?_; rintro e w' ⟨rfl, rfl⟩)
          go_round
          case rel => exact ⟨j + 1, by omega, by go_num⟩
          case measure => simp [intOf]; omega
        · go_wp2
          go_ret
          exact ⟨rfl, HB8.out⟩
end Go.Proofs.YtdppmmimemmedaaDoor
