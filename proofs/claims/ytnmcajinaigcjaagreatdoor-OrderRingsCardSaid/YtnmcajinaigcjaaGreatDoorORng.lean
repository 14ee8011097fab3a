/- The contract of order.Rings. -/
import Derived.Test.YtnmcajinaigcjaaGreatDoorORMem
namespace Go.Proofs.YtnmcajinaigcjaaGreatDoor
open Go.RowKit
open Q (It Ver Tm Sp Rc Dm)

/-- the order, ring by ring -/
def Ordered (l : List Rc) (ch : List Bool) (L : List (List Nat)) : Prop := O.Chain (O.chB ch) (O.ndB l ch) (O.lt l) l.length L ∧ O.Done (O.chB ch) (O.ndB l ch) l.length L
def RingsPost (l : List Rc) (ch : List Bool) (w : World) (e : Ending) (w' : World) : Prop :=
  ∃ la lc L, e = .returned (.tuple #[.slice la L.length lc, .nilIface]) ∧ Ordered l ch L ∧ Iv (RS (RS RN 1) 1) w.heap.size w'.heap.size w' [.slice la L.length lc] L ∧ Below w.heap.size w w'
/-- the state at the label -/
structure RSt (l : List Rc) (ch : List Bool) (w1 : World) (H : Nat) (xs ys zs : List Hd) (wa : Option Addr) (wc : Nat) (la : Option Addr) (lc : Nat) (w' : World) : Prop where
  mem : GM w1 H xs ys zs wa wc la lc w'
  mp : ∃ m f, MapN w' H (zs.map (·.2.2)).flatten.length m f ∧ ToldF f (zs.map (·.2.2))
  chn : O.Chain (O.chB ch) (O.ndB l ch) (O.lt l) l.length (zs.map (·.2.2))
  rem : O.Rem (O.chB ch) (O.ndB l ch) (O.lt l) l.length (zs.map (·.2.2)) (ys.map (·.2.2))
  yl : ys.length ≤ l.length
  okx : ∀ x ∈ xs, (∀ k ∈ x.2.2, k < l.length) ∧ x.2.2.length ≤ l.length
/-- the sorter in w1 -/
structure SrtIs (l : List Rc) (ch : List Bool) (a b : Option Addr) (c e : Nat) (w w1 : World) (S : Nat) (na : Option Addr) (nc : Nat) (ra : Option Addr) (rc : Nat) : Prop where
  blk : SBk w1 S (.slice a l.length c) (.slice b ch.length e) (.slice na l.length nc) (.slice ra l.length rc)
  nds : Sl (RS RN 1) 1 w1 na (O.needsL l ch l.length)
  rch : SrtR w1 S l.length (O.ndB l ch) ra rc
  below : Below w.heap.size w w1
theorem ToldF.put {f : Nat → Option Nat} {L : List (List Nat)} {r : List Nat} {q x : Nat} (h : ToldF f (L ++ [r.take q])) (hx : r[q]? = some x) (v : Nat) : ToldF (fput f x v) (L ++ [r.take (q + 1)]) := by
  intro y
  have h1 := h y
  unfold fput
  rw [List.take_add_one, hx]
  by_cases e : y = x
  · subst e; simp
  · rw [if_neg e, h1]
    simp [e]
theorem MapN.pass {w w' : World} {B k m : Nat} {f : Nat → Option Nat} (h : MapN w B k m f) (hb : Below (B + 1) w w') : MapN w' B k m f := by
  obtain ⟨D, ⟨es, clock, h1, F, hs, hD⟩, h2⟩ := h
  exact ⟨D, ⟨es, clock, (hb.block _ (Nat.lt_succ_self _)).trans h1, F, hs, hD⟩, h2⟩
/-- how many wait -/
def rwMu (a' : Act) (_ : World) : Nat :=
  match a'.tmps.getD 7 undef with
  | .slice _ n _ => n
  | _ => 0
set_option maxHeartbeats 4000000 in
set_option maxRecDepth 100000 in
theorem oRings_ok (ad : Addr) (a b : Option Addr) (c e : Nat) (l : List Rc) (ch : List Bool) (w : World) (hR : RIn w a b l ch) (hl : ch.length = l.length) (hm : l.length ≤ 60) (hE : ErrR w ad) :
    Calls Tryz.prog 7 #[.slice a l.length c, .slice b ch.length e] w (RingsPost l ch w) := by
  have HR := Lib.hid hR
  have HE := Lib.hid hE
  have HL := Lib.hid hl
  have n1 : ((ch.length : Int) != (l.length : Int)) = false := by simp [hl]
  have n2 : decide ((l.length : Int) > 60) = false := decide_eq_false (by omega)
  have n3 : decide ((60 : Int) < (l.length : Int)) = false := decide_eq_false (by omega)
  have n4 : decide (60 < l.length) = false := decide_eq_false (by omega)
  have hmm := @run_makeMap Tryz.prog
  clear hR hE hl
  go_enter Tryz.func7, Tryz.ntmps7
  go_wp2_with fail
  refine wp_scope_once 0 (fun a' w' => ∃ (w1 : World) (S : Nat) (na : Option Addr) (nc : Nat) (ra : Option Addr) (rc H : Nat) (xs ys zs : List Hd) (wa : Option Addr) (wc : Nat) (la : Option Addr) (lc : Nat) (u2 u3 u10 u11 u12 u13 u14 u15 u16 u17 u18 u19 u20 u21 u22 u23 u24 u25 u26 u27 u28 u29 u30 u31 u32 u33 u34 u35 u36 u37 u38 u39 u40 u41 u42 u43 u44 u45 u46 u47 u48 u49 u50 u51 u52 u53 u54 u55 u56 u57 u58 u59 u60 u61 u62 u63 u64 u65 u66 u67 : Value), SrtIs l ch a b c e w w1 S na nc ra rc ∧ RSt l ch w1 H xs ys zs wa wc la lc w' ∧ a' = { tmps := #[.slice a l.length c, .slice b ch.length e, u2, u3, .slice none 0 0, .nilIface, .pointer (some ⟨S, 0, none⟩), .slice wa ys.length wc, .slice la zs.length lc, .map (some H), u10, u11, u12, u13, u14, u15, u16, u17, u18, u19, u20, u21, u22, u23, u24, u25, u26, u27, u28, u29, u30, u31, u32, u33, u34, u35, u36, u37, u38, u39, u40, u41, u42, u43, u44, u45, u46, u47, u48, u49, u50, u51, u52, u53, u54, u55, u56, u57, u58, u59, u60, u61, u62, u63, u64, u65, u66, u67], defers := [] }) rwMu rfl ?_ ?_
  · intro hp
    go_wp2_with fail
    (with_reducible refine (onew_any ad a b c e l ch _ HR.out HL.out (by omega) HE.out).mono ?_)
    rintro e1 w1 ⟨S, na, nc, ra, rc, rfl, hSl, hsb, hns, hsr, hb1⟩
    have hsi : SrtIs l ch a b c e w w1 S na nc ra rc := ⟨hsb, hns, hsr, hb1⟩
    have HSI := Lib.hid hsi
    have hS1 := hsb.cells.1
    clear hSl hsb hns hsr hb1 hsi
    go_wp2_with fail
    (with_reducible refine (orings_any S a b na ra c e nc rc l ch _ HSI.out.blk (HR.out.below HSI.out.below) HL.out (by omega) HSI.out.rch).mono ?_)
    rintro e1 w2 ⟨xa, xc, xs, rfl, hrw, hrs, hb2⟩
    have HRW := Lib.hid hrw
    have HRS := Lib.hid hrs
    have HB2 := Lib.hid hb2
    have hz2 := hb2.size
    clear hrw hrs hb2
    have hrow := fun (r : List Nat) (h : r ∈ O.ringsTo (O.chB ch) (O.ndB l ch) (O.lt l) l.length) => O.ringsTo_row h
    have hok : ∀ x ∈ xs, x.2.2 ∈ O.ringsTo (O.chB ch) (O.ndB l ch) (O.lt l) l.length := fun x hx => by rw [← HRS.out]; exact List.mem_map.2 ⟨x, hx, rfl⟩
    have hxl : xs.length ≤ l.length := by have := O.ringsTo_length (ch := O.chB ch) (nd := O.ndB l ch) (lt := O.lt l) l.length; rw [← HRS.out] at this; simpa using this
    have HOK := Lib.hid hok
    have HROW := Lib.hid hrow
    clear hok hrow
    go_wp2_with fail
    (with_reducible refine (osortR_any S a xa c xc (w1.heap.size + 2) l xs w1 _ (HR.out.below HSI.out.below).recs HB2.out (HSI.out.blk.keep (HB2.out.block _ hS1)).cells.2.1 (by omega) HRW.out (fun x hx => ⟨(HROW.out _ (HOK.out x hx)).1, (HROW.out _ (HOK.out x hx)).2.2 _ (O.hd_mem (HROW.out _ (HOK.out x hx)).1)⟩) (by omega) (by omega)).mono ?_)
    rintro e1 w3 ⟨rfl, ys, hperm, hpw, hrw3, hb3, hz3⟩
    have HPE := Lib.hid hperm
    have HPW := Lib.hid hpw
    have HRW3 := Lib.hid hrw3
    have HB3 := Lib.hid hb3
    have hyl : xs.length = ys.length := hperm.length_eq.symm
    rw [hyl]
    clear hperm hpw hrw3 hb3 HRW hyl
    go_wp2
    go_step3
    rename_i hk
    refine hk _ _ (hp _ _ ⟨w1, S, na, nc, ra, rc, w3.heap.size, ys, ys, [], xa, xc, none, 0, _, _, _, _, _, _, _, _, _, _, _, _, _, _, _, _, _, _, _, _, _, _, _, _, _, _, _, _, _, _, _, _, _, _, _, _, _, _, _, _, _, _, _, _, _, _, _, _, _, _, _, _, _, _, _, _, _, _, _, _, HSI.out, ⟨⟨?_, HRW3.out.hd.below (b1 _ _), fun ad e => ⟨(HRW3.out.hd.tag ad e).2.1, fun x hx => HRW3.out.off x hx ad e⟩, fun x hx => ⟨(HRW3.out.row x hx).below (b1 _ _), (HRW3.out.lt hx).2⟩, Own.nil _ _ _ _, fun _ h => h, fun _ h => by simp at h, by omega, by simp⟩, ⟨0, _, MapN.made w3, fun x => by simp⟩, O.Chain.nil, ?_, by have := HPE.out.length_eq; omega, fun x hx => ?_⟩, rfl⟩)
    · exact ((HB2.out.trans (HB3.out.mono (Nat.le_add_right _ _))).alloc (by omega) _)
    · exact O.rem_start (O.ord l) (by have := HPE.out.map (·.2.2); rwa [HRS.out] at this) (by rw [List.pairwise_map]; exact HPW.out)
    · have h1 := HROW.out _ (HOK.out x (HPE.out.mem_iff.1 hx))
      exact ⟨h1.2.2, h1.2.1⟩
  · rintro a' w' ⟨w1, S, na, nc, ra, rc, H, xs, ys, zs, wa, wc, la, lc, u2, u3, u10, u11, u12, u13, u14, u15, u16, u17, u18, u19, u20, u21, u22, u23, u24, u25, u26, u27, u28, u29, u30, u31, u32, u33, u34, u35, u36, u37, u38, u39, u40, u41, u42, u43, u44, u45, u46, u47, u48, u49, u50, u51, u52, u53, u54, u55, u56, u57, u58, u59, u60, u61, u62, u63, u64, u65, u66, u67, hsi, hst, rfl⟩
    have hbel := hst.mem.bel
    have hS1 := hsi.blk.cells.1
    obtain ⟨m, f, hmp, htf⟩ := hst.mp
    have hfl := hst.chn.len
    have hyl := hst.yl
    have hzl : zs.length ≤ l.length := by
      have h1 : ∀ L : List (List Nat), (∀ r ∈ L, r ≠ []) → L.length ≤ L.flatten.length := by
        intro L
        induction L with
        | nil => simp
        | cons r L ih =>
          intro h
          have := ih fun r hr => h r (by simp [hr])
          have := List.length_pos_iff.2 (h r (by simp))
          rw [List.flatten_cons, List.length_append, List.length_cons]; omega
      have h2 := h1 (zs.map (·.2.2)) fun r hr => by
        obtain ⟨q, hq⟩ := List.getElem?_of_mem hr
        exact (hst.chn.nth hq).ne
      rw [List.length_map] at h2; omega
    have hS2 := (hsi.blk.keep (hbel.block S hS1)).cells.2.2.2.1
    have HBEL := Lib.hid hbel
    have HSI := Lib.hid hsi
    have HST := Lib.hid hst
    have HMP := Lib.hid hmp
    have HTF := Lib.hid htf
    clear hbel hsi hst hmp htf
    go_wp2
    go_loop [7, 8, 36] (fun s7 s8 i => ∃ k : Nat, k ≤ ys.length ∧ s7 = .slice wa ys.length wc ∧ s8 = .slice la zs.length lc ∧ i = .int .i64 k ∧ ∀ (j : Nat) (y : Hd), j < k → ys[j]? = some y → O.rdy (O.ndB l ch) l.length (zs.map (·.2.2)) y.2.2 = false) (fun _ _ i => ys.length - (intOf i).toNat)
    case atStart => exact ⟨0, Nat.zero_le _, rfl, rfl, rfl, fun j y h => by omega⟩
    case round =>
      obtain ⟨k, hk, rfl, rfl, rfl, hno⟩ := hrel
      have HNO := Lib.hid hno
      clear hno
      by_cases hlt : k < ys.length
      · obtain ⟨⟨g, cg, r⟩, hx⟩ : ∃ x, ys[k]? = some x := ⟨ys[k], by simp [hlt]⟩
        obtain ⟨wg, rfl, hwg1, hwgH, hwc⟩ := HST.out.mem.cell hx
        unfold RowV at hwc
        have hxm := HST.out.mem.ysub _ (List.mem_of_getElem? hx)
        obtain ⟨hok1, hok2⟩ := HST.out.okx _ hxm
        have hring := HST.out.mem.ring hxm (by omega)
        have HX := Lib.hid hx
        have HXM := Lib.hid hxm
        have HOK := Lib.hid hok1
        have HRI := Lib.hid hring
        clear hx hxm hok1 hring
        go_wp2_with fail
        (with_reducible refine (oready_any S H _ m l ch na ra (some ⟨g, 0, none⟩) nc rc cg r (zs.map (·.2.2)) f _ hS2 (HSI.out.nds.below (stays_RS stays_RN) HBEL.out) (HSI.out.rch.below HBEL.out) HRI.out HOK.out HMP.out HTF.out (by omega) (by omega)).mono ?_)
        rintro e1 w2 ⟨rfl, rfl⟩
        cases hz : O.rdy (O.ndB l ch) l.length (zs.map (·.2.2)) r
        · have HZ := Lib.hid hz
          clear hz
          go_wp2
          go_round
          case rel =>
            refine ⟨k + 1, by omega, rfl, rfl, by go_num, fun j y hj hy => ?_⟩
            rcases Nat.lt_or_ge j k with h1 | h1
            · exact HNO.out j y h1 hy
            · obtain rfl : j = k := by omega
              rw [HX.out] at hy; cases hy; exact HZ.out
          case measure => simp [intOf]; omega
        · have HZ := Lib.hid hz
          clear hz
          have hfl2 : (zs.map (·.2.2)).flatten.length ≤ 60 := by omega
          go_wp2
          go_loopw [48] (fun q wr => ∃ (qn m' : Nat) (f' : Nat → Option Nat), qn ≤ r.length ∧ q = .int .i64 qn ∧ GM w1 H xs ys zs (some ⟨wg, 0, none⟩) wc la lc wr ∧ MapN wr H ((zs.map (·.2.2)).flatten.length + qn) m' f' ∧ ToldF f' (zs.map (·.2.2) ++ [r.take qn])) (fun q _ => r.length - (intOf q).toNat)
          case atStart => exact ⟨0, m, f, Nat.zero_le _, rfl, HST.out.mem, HMP.out, fun x => by rw [HTF.out x]; simp⟩
          case round =>
            obtain ⟨qn, m', f', hqn, rfl, hgm, hmn, htd⟩ := hrel
            have HGM := Lib.hid hgm
            have HMN := Lib.hid hmn
            have HTD := Lib.hid htd
            clear hgm hmn htd
            by_cases hql : qn < r.length
            · obtain ⟨x, hxq⟩ : ∃ x, r[qn]? = some x := ⟨r[qn], by simp [hql]⟩
              have hxn := HOK.out x (List.mem_of_getElem? hxq)
              obtain ⟨gq, eq, hgl, _, hgc⟩ := Own.cell (HGM.out.row _ HXM.out).1 (i := qn) (v := .int .i64 (x : Int)) (enN_get hxq)
              cases eq
              have HXQ := Lib.hid hxq
              clear hxq
              go_wp2_with (at_mapUpdate; refine wpList_put1 rfl _ _ _ rfl rfl HMN.out (by omega) x zs.length rfl rfl (by omega) (by omega) ?_; intro w3 hm3 hg3; have HM3 := Lib.hid hm3; have HG3 := Lib.hid hg3; clear hm3 hg3)
              go_roundw
              case rel => exact ⟨qn + 1, _, _, by omega, by go_num, HGM.out.kept HG3.out, HM3.out, HTD.out.put HXQ.out _⟩
              case measure => simp [intOf]; omega
            · obtain rfl : qn = r.length := by omega
              have hsz := HGM.out.sz
              go_wp2_with (at_builtin; refine wpList_append_flatAt (R := RV) Tryz.infoInts rfl (by decide) rfl (.tmp 57) (.tmp 59) 26 rfl Tryz.underlying26 (H + 1) la zs.length lc (zs.map RowV) rfl (HGM.out.ls.below (b1 _ _)) _ _ _ [.slice (some ⟨g, 0, none⟩) r.length cg] rfl rfl (oneNV (by simp) (.slice (some ⟨g, 0, none⟩) r.length cg) rfl _) (RV.ones _) (by omega) (by omega) (by simp; omega) ?_; intro a3 c3 w3 cells1 hO3 hF3 hG3 hB3 hat3; have HGP := Lib.hid (HGM.out.push HXM.out (hF3.rv ▸ hO3) hB3); have HMN3 := Lib.hid ((HMN.out.below (b1 _ _)).pass hB3); clear hO3 hF3 hG3 hB3 hat3)
              have hone : ∀ u ∈ ys.map RowV, u.oneCell' = true := fun u hu => by
                obtain ⟨y, _, rfl⟩ := List.mem_map.1 hu
                rfl
              (with_reducible refine (odelete_any (w1.heap.size + 2) wg wc ys.length k (ys.map RowV) _ HGP.out.wt hone hlt).mono ?_)
              rintro e1 w4 ⟨rfl, hO4, hG4⟩
              have HGD := Lib.hid (HGP.out.del hlt hO4 hG4)
              have HMN4 := Lib.hid (HMN3.out.kept hG4 (fun e => by have := Option.some.inj e; omega))
              clear hO4 hG4
              obtain ⟨hnx, hrm⟩ := O.Rem.next (O.ord l) (O.hnd l ch) HST.out.chn HST.out.rem (k := k) (r := r) (by rw [List.getElem?_map, HX.out]; rfl) HZ.out (fun j s hj hs => by
                rw [List.getElem?_map] at hs
                cases hy : ys[j]? with
                | none => rw [hy] at hs; cases hs
                | some y => rw [hy] at hs; cases hs; exact HNO.out j y hj hy)
              have hst2 : RSt l ch w1 H xs (ys.eraseIdx k) (zs ++ [(g, cg, r)]) (some ⟨wg, 0, none⟩) wc a3 c3 w4 := by
                refine ⟨HGD.out, ⟨m', f', ?_, ?_⟩, ?_, ?_, ?_, HST.out.okx⟩
                · rw [List.map_append, List.flatten_append, List.length_append]
                  simpa using HMN4.out
                · have h1 := HTD.out
                  rw [List.take_length] at h1
                  rw [List.map_append]; exact h1
                · rw [List.map_append]; exact .snoc HST.out.chn hnx
                · rw [List.map_append, map_erase]; exact hrm
                · rw [List.length_eraseIdx, if_pos hlt]; omega
              have hel : (ys.eraseIdx k).length = ys.length - 1 := by rw [List.length_eraseIdx, if_pos hlt]
              have HST2 := Lib.hid hst2
              clear hnx hrm hst2
              go_wp2
              go_step3
              rw [← hel, show zs.length + 1 = (zs ++ [(g, cg, r)]).length by simp]
              exact ⟨rfl, ⟨w1, S, na, nc, ra, rc, H, xs, ys.eraseIdx k, zs ++ [(g, cg, r)], some ⟨wg, 0, none⟩, wc, a3, c3, _, _, _, _, _, _, _, _, _, _, _, _, _, _, _, _, _, _, _, _, _, _, _, _, _, _, _, _, _, _, _, _, _, _, _, _, _, _, _, _, _, _, _, _, _, _, _, _, _, _, _, _, _, _, _, _, _, _, _, _, HSI.out, HST2.out, rfl⟩, by simp [rwMu, hel]; omega⟩
      · obtain rfl : k = ys.length := by omega
        go_wp2
        simp only [Exit.jump]
        go_ret2
        refine ⟨la, lc, zs.map (·.2.2), by rw [List.length_map]; rfl, ⟨HST.out.chn, O.Rem.done (O.hnd l ch) HST.out.chn HST.out.rem fun s hs => ?_⟩, HST.out.mem.out (fun x hx => ?_) (by omega) HSI.out.below.size, fin HSI.out.below HBEL.out⟩
        · obtain ⟨y, hy, rfl⟩ := List.mem_map.1 hs
          obtain ⟨j, hj⟩ := List.getElem?_of_mem hy
          exact HNO.out j y (List.getElem?_eq_some_iff.1 hj).1 hj
        · have := (HST.out.okx x (HST.out.mem.zsub x hx)).2; omega
end Go.Proofs.YtnmcajinaigcjaaGreatDoor
