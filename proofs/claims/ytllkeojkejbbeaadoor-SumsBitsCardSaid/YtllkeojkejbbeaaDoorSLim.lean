/- Clone, Var, and the refusals of sums.Bits and sums.AtMost. -/
import Derived.Test.YtllkeojkejbbeaaDoorSLits
import Derived.Test.YtllkeojkejbbeaaDoorSBits
import Derived.Test.YtllkeojkejbbeaaDoorErrs
import Derived.Test.YtllkeojkejbbeaaDoorAdd
namespace Go.Proofs.YtllkeojkejbbeaaDoor
open Go.RowKit Go.Shelf
variable {X : Nat → Prop}

set_option maxHeartbeats 1000000 in
set_option maxRecDepth 100000 in
theorem clone_any (base p V : Nat) (cs : List (List Int)) (a : Option Addr) (c : Nat) (w : World) (hF : Fm X w base p V cs a c) :
    Calls Tryd.prog 24 #[.pointer (some ⟨p, 0, none⟩)] w fun e w' => ∃ q a' c', e = .returned (.pointer (some ⟨q, 0, none⟩)) ∧ Fm NoX w' w.heap.size q V cs a' c' ∧ Below w.heap.size w w' := by
  have h0 := hF.cell0
  have hps := hF.lt
  have hv := hF.vars
  have hlen := hF.len
  have hc := fun wx (hb : Below w.heap.size w wx) => clauses_any (Y := NoX) base p V cs a c wx (hF.below hb) (NoX.lt _)
  have HC := Lib.hid hc
  clear hc hF
  go_enter Tryd.func24, Tryd.ntmps24
  go_wp2
  go_region_held3 (fun w' => w'.cell? ⟨p, 0, none⟩ = some (.int .i64 V))
    (first | (exact h0) | go_keep)
    (first
    | (go_at_call 28; refine (HC.out _ ((Below.refl _ _).drew)).mono ?_; rintro e w2 ⟨rfl, hO2, hb2⟩; have hb3 : Below w.heap.size w w2 := ((Below.refl w.heap.size w).drew).trans (hb2.mono (Nat.le_refl _)); have h0 := (hb3.cell (p := ⟨p, 0, none⟩) hps).trans h0; have HO := Lib.hid hO2; have HB := Lib.hid hb3; clear hO2 hb2 hb3))
  all_goals
    go_wp2
    go_ret
    refine ⟨_, some ⟨w.heap.size, 0, none⟩, cs.length, rfl, ?_, HB.out.alloc HB.out.size _⟩
    have hal : Below w2.heap.size w2 (w2.alloc (.cells #[.int .i64 V, .slice (some ⟨w.heap.size, 0, none⟩) cs.length cs.length] 85)) := (Below.refl _ _).alloc (Nat.le_refl _) _
    exact ⟨HB.out.size, by show (w2.heap.push _)[w2.heap.size]? = _; simp, HO.out.below hal, hv, hlen, NoX.lt _, fun h => h⟩
set_option maxHeartbeats 1000000 in
set_option maxRecDepth 100000 in
theorem var_ok (base p V : Nat) (cs : List (List Int)) (a : Option Addr) (c : Nat) (w : World) (hF : Fm X w base p V cs a c) (hV : V < 20000) :
    Calls Tryd.prog 25 #[.pointer (some ⟨p, 0, none⟩)] w fun e w' => e = .returned (.tuple #[.int .i64 ((V : Int) + 1), .nilIface]) ∧ Fm X w' base p (V + 1) cs a c ∧ Kp X base w w' := by
  have h0 := hF.cell0
  have hf := hF.frozen 0
  have hi := hF.inc hV
  have HI := Lib.hid (show _ ∧ _ from ⟨hi.1, hi.2.kp hF⟩)
  clear hi hF
  go_enter Tryd.func25, Tryd.ntmps25
  go_wp2
  go_ret2
  exact ⟨rfl, HI.out⟩
set_option maxHeartbeats 1000000 in
theorem bits_badW (f : Value) (tb : Option Addr) (tc : Nat) (ts : List M.Wt) (ad : Addr) (w : World) (hz : Wts w tb ts) (hbad : ts.all M.wOk = false) (hl : ts.length ≤ 200) (hg : w.cell? ⟨9, 0, none⟩ = some (errAt ad)) :
    Calls Tryd.prog 31 #[f, .slice tb ts.length tc] w fun e w' => e = .returned (.tuple #[.slice none 0 0, errAt ad]) ∧ Below w.heap.size w w' := by
  have HB := Lib.hid (bound_bad tb tc ts (errAt ad) w hz hbad (by omega) hg)
  have hneq := neqErr ad
  have hneqg := neqErrG ad
  unfold errAt at hneq hneqg
  clear hz hbad hg
  go_enter Tryd.func31, Tryd.ntmps31
  go_wp2_with fail
  refine HB.out.mono ?_
  rintro e w1 ⟨rfl, hb1⟩
  have HB1 := Lib.hid hb1
  clear hb1 HB
  unfold errAt
  go_wp2
  go_ret2
  exact ⟨rfl, HB1.out⟩
set_option maxHeartbeats 2000000 in
set_option maxRecDepth 100000 in
theorem bits_badL (p V : Nat) (tb : Option Addr) (tc : Nat) (ts : List M.Wt) (v : Value) (w : World) (h0 : w.cell? ⟨p, 0, none⟩ = some (.int .i64 V)) (hV : V ≤ 20000) (hz : Wts w tb ts) (hok : ts.all M.wOk = true) (hl : ts.length ≤ 200) (hown : M.own V (M.lits ts) = false)
    (hg : w.cell? ⟨9, 0, none⟩ = some v) :
    Calls Tryd.prog 31 #[.pointer (some ⟨p, 0, none⟩), .slice tb ts.length tc] w fun e w' => e = .returned (.tuple #[.slice none 0 0, v]) ∧ Below w.heap.size w w' := by
  have hlen := hz.len
  have hpl : p < w.heap.size := World.block_lt_of_cell? w _ h0
  have hglt : 9 < w.heap.size := World.block_lt_of_cell? w _ hg
  have HBD := Lib.hid (bound_ok tb tc ts w hz hok (by omega))
  have HZ := Lib.hid hz
  have HG := Lib.hid hg
  have H0 := Lib.hid h0
  have HW := Lib.hid hown
  clear hz hok hg h0 hown
  go_enter Tryd.func31, Tryd.ntmps31
  go_wp2_with fail
  refine HBD.out.mono ?_
  rintro e w1 ⟨rfl, hb1⟩
  have HB1 := Lib.hid hb1
  clear hb1 HBD
  go_wp2
  go_loopw [10, 31] (fun _ i wr => ∃ k : Nat, k ≤ ts.length ∧ i = .int .i64 k ∧ M.own V (M.lits (ts.take k)) = true ∧ Below w.heap.size w wr) (fun _ i _ => ts.length - (intOf i).toNat)
  case atStart => exact ⟨0, Nat.zero_le _, rfl, rfl, HB1.out⟩
  case round =>
    obtain ⟨k, hk, rfl, hown, hb2⟩ := hrel
    have HB2 := Lib.hid hb2
    have HK := Lib.hid hown
    have hgr := (hb2.cell (p := ⟨9, 0, none⟩) hglt).trans HG.out
    have hgl2 : 9 < wr.heap.size := Nat.lt_of_lt_of_le hglt hb2.size
    clear hb2 HB1 hown
    by_cases hlt : k < ts.length
    · obtain ⟨b, off, rfl, hbl, hc⟩ := (HZ.out.below HB2.out).addr (by omega)
      obtain ⟨t, htk⟩ : ∃ t, ts[k]? = some t := ⟨ts[k], by simp [hlt]⟩
      obtain ⟨hc0, hc1⟩ := hc k t htk
      have hq0 : ((wr.alloc (.cells #[.int .i64 t.1, .int .i64 t.2] 57)).alloc (.cells #[.int .i64 t.1] 3)).cell? ⟨p, 0, none⟩ = some (.int .i64 V) :=
        ((((Below.refl wr.heap.size wr).alloc (Nat.le_refl _) _).alloc (by simp) _).cell (p := ⟨p, 0, none⟩) (Nat.lt_of_lt_of_le hpl HB2.out.size)).trans ((HB2.out.cell (p := ⟨p, 0, none⟩) hpl).trans H0.out)
      have hli := literals_any p V (some ⟨wr.heap.size + 1, 0, none⟩) 1 [t.1] ((wr.alloc (.cells #[.int .i64 t.1, .int .i64 t.2] 57)).alloc (.cells #[.int .i64 t.1] 3)) hq0 hV
        (by have := Ints.one (wr.alloc (.cells #[.int .i64 t.1, .int .i64 t.2] 57)) t.1 (HZ.out.wf t (List.mem_of_getElem? htk)).1 3; simpa using this)
      have hsn : M.lits (ts.take (k + 1)) = M.lits (ts.take k) ++ [t.1] := by unfold M.lits; rw [List.take_add_one, htk]; simp
      have HLI := Lib.hid hli
      have HSN := Lib.hid hsn
      clear hc hli hq0 htk hsn
      cases ho : M.own V [t.1]
      · rw [ho] at HLI
        clear ho
        go_wp2_with (go_at_call 60; refine HLI.out.mono ?_; rintro e w' ⟨rfl, rfl⟩)
        go_quiet (fail)
        go_wp2
        go_ret2
        exact ⟨rfl, ((HB2.out.alloc HB2.out.size _).alloc (by have := HB2.out.size; simp; omega) _).trans ⟨rfl, rfl, rfl, Nat.le_refl _, fun _ _ => rfl⟩⟩
      · rw [ho] at HLI
        have HO := Lib.hid ho
        clear ho
        go_wp2_with (go_at_call 60; refine HLI.out.mono ?_; rintro e w' ⟨rfl, rfl⟩)
        go_roundw
        case rel => exact ⟨k + 1, by omega, by go_num, by rw [HSN.out]; exact M.own_append.2 ⟨HK.out, HO.out⟩, (HB2.out.alloc HB2.out.size _).alloc (by have := HB2.out.size; simp; omega) _⟩
        case measure => simp [intOf]; omega
    · obtain rfl : k = ts.length := by omega
      have h9 := HK.out
      rw [List.take_length, HW.out] at h9
      cases h9
set_option maxHeartbeats 1000000 in
theorem atmost_bad (p V : Nat) (b : Option Addr) (d : Nat) (zs : List Int) (k : Int) (v : Value) (w : World) (h0 : w.cell? ⟨p, 0, none⟩ = some (.int .i64 V)) (hV : V ≤ 20000) (hz : Ints w b zs) (hbad : 62 < zs.length ∨ M.own V zs = false) (hg : w.cell? ⟨9, 0, none⟩ = some v) :
    Calls Tryd.prog 42 #[.pointer (some ⟨p, 0, none⟩), .slice b zs.length d, .int .i64 k] w fun e w' => e = .returned (.tuple #[.int .i64 0, v]) ∧ Below w.heap.size w w' := by
  have hlen := hz.len
  have hglt : 9 < w.heap.size := World.block_lt_of_cell? w _ hg
  have HLI := Lib.hid (literals_any p V b d zs w h0 hV hz)
  clear hz
  by_cases hl : 62 < zs.length
  · go_enter Tryd.func42, Tryd.ntmps42
    go_wp2
    go_quiet (fail)
    go_wp2
    go_ret2
    exact ⟨rfl, ⟨rfl, rfl, rfl, Nat.le_refl _, fun _ _ => rfl⟩⟩
  · have ho : M.own V zs = false := by
      rcases hbad with h | h
      · exact absurd h hl
      · exact h
    rw [ho] at HLI
    clear hbad ho
    go_enter Tryd.func42, Tryd.ntmps42
    go_wp2_with (go_at_call 60; refine HLI.out.mono ?_; rintro e w' ⟨rfl, rfl⟩)
    go_quiet (fail)
    go_wp2
    go_ret2
    exact ⟨rfl, ⟨rfl, rfl, rfl, Nat.le_refl _, fun _ _ => rfl⟩⟩
end Go.Proofs.YtllkeojkejbbeaaDoor
