/- lits.sorted at every list of literals; lits.Norm, lits.only, lits.Tautology. -/
import Derived.Test.YtgpifbhfnbkgoaaDoorSorted
namespace Go.Proofs.YtgpifbhfnbkgoaaDoor
open Go.RowKit Go.Sort Go.Shelf

theorem sorted_zero (ad : Addr) (c : Nat) (w : World) : Calls Tryd.prog 69 #[.slice (some ad) 0 c] w (NewIntsT w []) := by
  have HCL := Lib.hid (Tryd.slices_Clone_int_zero ad c w)
  go_enter Tryd.func69, Tryd.ntmps69
  go_wp2_with fail
  refine HCL.out.mono ?_
  rintro e w1 ⟨v', rfl, hown, hnn, hb1⟩
  obtain ⟨g, cap, rfl, hbg, hgl, hncap, _, _, hH⟩ := Lib.holds_of_ownsRow (enc := Value.int .i64) (zs := []) hown hnn
  have HB1 := Lib.hid hb1
  obtain ⟨cur, hcur⟩ : ∃ cur, w1.heap[g]? = some (.cells cur 3 (0, 0)) := by
    rcases hown.2 with ⟨e0, _⟩ | ⟨g', cap', cur, e0, _, hg', _⟩
    · cases e0
    · injection e0 with e1
      injection e1 with e1
      injection e1 with e1
      subst e1
      exact ⟨cur, hg'⟩
  have HCUR := Lib.hid hcur
  clear hown hnn hb1 hH hcur
  go_wp2_with fail
  refine (Tryd.slices_SortFunc_none_f80 (α := Int) _ _ _ _).mono ?_
  rintro e w2 ⟨rfl, rfl⟩
  go_wp2_with fail
  refine (Tryd.slices_Compact_int_empty _ _ _).mono ?_
  rintro e w3 ⟨rfl, rfl⟩
  go_wp2_with fail
  go_ret
  exact ⟨_, _, rfl, Ints.nil _ _, Nat.zero_le _, (fun h => by cases h), HB1.out, (fun ad e => by cases e; exact hbg), fun ad e => by cases e; exact ⟨_, _, HCUR.out⟩⟩
theorem sorted_nil (c : Nat) (w : World) : Calls Tryd.prog 69 #[.slice none 0 c] w (NewIntsT w []) := by
  go_enter Tryd.func69, Tryd.ntmps69
  go_wp2_with fail
  refine (Tryd.slices_Clone_int_nil _ _ _).mono ?_
  rintro e w2 ⟨rfl, rfl⟩
  go_wp2_with fail
  refine (Tryd.slices_SortFunc_none_f80 (α := Int) _ _ _ _).mono ?_
  rintro e w2 ⟨rfl, rfl⟩
  go_wp2_with fail
  refine (Tryd.slices_Compact_int_empty _ _ _).mono ?_
  rintro e w3 ⟨rfl, rfl⟩
  go_wp2_with fail
  go_ret
  exact ⟨_, _, rfl, Ints.nil _ _, Nat.zero_le _, (fun _ => rfl), Below.refl _ _, TagN.none _ _⟩
theorem Ints.none_nil {w : World} {zs : List Int} (h : Ints w none zs) : zs = [] := by
  cases zs with
  | nil => rfl
  | cons z l => obtain ⟨_, _, e, _⟩ := h.addr (by simp); cases e
theorem sorted_any (a : Option Addr) (c : Nat) (zs : List Int) (w : World) (hz : Ints w a zs) (hl : ∀ z ∈ zs, M.isLit z = true) :
    Calls Tryd.prog 69 #[.slice a zs.length c] w (NewIntsT w (M.norm zs)) := by
  cases a with
  | none => obtain rfl := hz.none_nil; exact sorted_nil c w
  | some ad =>
    cases zs with
    | nil => exact sorted_zero ad c w
    | cons z l => exact sorted_some ad c _ w hz hl (by simp)

theorem bDrewN (B : Nat) (w : World) (q : Nat) : Below B w (w.drewN q) := ⟨rfl, rfl, rfl, Nat.le_refl _, fun _ _ => rfl⟩
/-- the error's two words -/
def errV (t : TypeId) (p : Addr) : Value := .iface t (.pointer (some p))
/-- what Norm hands back -/
def NormOk (w : World) (ys : List Int) (e : Ending) (w' : World) : Prop :=
  ∃ a' c', e = .returned (.tuple #[.slice a' ys.length c', .nilIface]) ∧ Ints w' a' ys ∧ (ys.length ≤ c') ∧ (a' = none → c' = 0) ∧ Below w.heap.size w w' ∧ TagN w.heap.size w' a'
theorem norm_ok (a : Option Addr) (c : Nat) (zs : List Int) (w : World) (hz : Ints w a zs) (hl : ∀ z ∈ zs, M.isLit z = true) :
    Calls Tryd.prog 41 #[.slice a zs.length c] w (NormOk w (M.norm zs)) := by
  have hlen := hz.len
  have HL := Lib.hid hl
  clear hl
  go_enter Tryd.func41, Tryd.ntmps41
  go_wp2
  go_loop [5, 8] (fun _ i => ∃ k : Nat, k ≤ zs.length ∧ i = .int .i64 k) (fun _ i => zs.length - (intOf i).toNat)
  case atStart => exact ⟨0, Nat.zero_le _, rfl⟩
  case round =>
    obtain ⟨k, hk, rfl⟩ := hrel
    by_cases hlt : k < zs.length
    · obtain ⟨b, off, rfl, hbl, hc⟩ := hz.addr (by omega)
      obtain ⟨z, hzk⟩ : ∃ z, zs[k]? = some z := ⟨zs[k], by simp [hlt]⟩
      have hcell := hc k z hzk
      have hlz := HL.out z (List.mem_of_getElem? hzk)
      clear hc hzk
      go_wp2_with (go_at_call 68; refine (literal_any _ _).mono ?_; rintro e w' ⟨rfl, rfl⟩)
      go_round
      case rel => exact ⟨k + 1, by omega, by go_num⟩
      case measure => simp [intOf]; omega
    · go_wp2_with (go_at_call 69; refine (sorted_any _ _ _ _ hz HL.out).mono ?_; rintro e w' ⟨a', c', rfl, h1, h2, h3, h4, h5⟩)
      go_ret2
      exact ⟨_, _, rfl, h1, h2, h3, h4, h5⟩
theorem norm_bad (a : Option Addr) (c : Nat) (zs : List Int) (w : World) (v : Value) (hz : Ints w a zs) (hl : ∃ z ∈ zs, M.isLit z = false) (hv : w.cell? ⟨9, 0, none⟩ = some v) :
    Calls Tryd.prog 41 #[.slice a zs.length c] w fun e w' => e = .returned (.tuple #[.slice none 0 0, v]) ∧ ∃ q, w' = w.drewN q := by
  have hlen := hz.len
  have HL := Lib.hid hl
  clear hl
  go_enter Tryd.func41, Tryd.ntmps41
  go_wp2
  go_loop [5, 8] (fun _ i => ∃ k : Nat, k ≤ zs.length ∧ i = .int .i64 k ∧ ∀ z ∈ zs.take k, M.isLit z = true) (fun _ i => zs.length - (intOf i).toNat)
  case atStart => exact ⟨0, Nat.zero_le _, rfl, fun z hz => by simp at hz⟩
  case round =>
    obtain ⟨k, hk, rfl, hf⟩ := hrel
    have HF := Lib.hid hf
    clear hf
    by_cases hlt : k < zs.length
    · obtain ⟨b, off, rfl, hbl, hc⟩ := hz.addr (by omega)
      obtain ⟨z, hzk⟩ : ∃ z, zs[k]? = some z := ⟨zs[k], by simp [hlt]⟩
      have hcell := hc k z hzk
      have HZ := Lib.hid hzk
      clear hc hzk
      cases hlz : M.isLit z
      · go_wp2_with (go_at_call 68; refine (literal_any _ _).mono ?_; rintro e w' ⟨rfl, rfl⟩)
        go_quiet (fail)
        go_wp2
        go_ret2
        exact ⟨rfl, _, rfl⟩
      · go_wp2_with (go_at_call 68; refine (literal_any _ _).mono ?_; rintro e w' ⟨rfl, rfl⟩)
        go_round
        case rel =>
          refine ⟨k + 1, by omega, by go_num, fun y hy => ?_⟩
          rw [List.take_add_one, HZ.out] at hy
          rcases List.mem_append.1 hy with hy | hy
          · exact HF.out y hy
          · simp at hy; subst hy; exact hlz
        case measure => simp [intOf]; omega
    · exfalso
      obtain ⟨z, hm, hl⟩ := HL.out
      have := HF.out z (by rw [List.take_of_length_le (by omega)]; exact hm)
      rw [hl] at this; cases this
theorem only_any (a : Option Addr) (c : Nat) (zs : List Int) (w : World) (hz : Ints w a zs) (hc : zs.length ≤ c) (hd : a = none → c = 0) :
    Calls Tryd.prog 70 #[.slice a zs.length c] w (NewInts w (M.only zs)) := by
  have hlen := hz.len
  cases hr : M.right zs
  · go_enter Tryd.func70, Tryd.ntmps70
    go_wp2_with (go_at_call 90; refine (right_any _ _ _ _ hz).mono ?_; rintro e w1 ⟨rfl, hb⟩)
    have HB := Lib.hid hb
    clear hb
    go_loopw [3, 5, 11] (fun v _ i wr => ∃ (k n : Nat) (a' : Option Addr) (c' : Nat), k ≤ zs.length ∧ i = .int .i64 k ∧ v = .slice a' n c' ∧ n = ((zs.take k).filter M.isLit).length ∧ OwnI wr w.heap.size a' c' ((zs.take k).filter M.isLit) ∧ Below w.heap.size w wr) (fun _ _ i _ => zs.length - (intOf i).toNat)
    case atStart => exact ⟨0, 0, none, 0, Nat.zero_le _, rfl, rfl, rfl, OwnI.nil _ _, HB.out⟩
    case round =>
      obtain ⟨k, n, a', c', hk, rfl, rfl, hn, hown, hb⟩ := hrel
      have HN := Lib.hid hn
      have HO := Lib.hid hown
      have HB' := Lib.hid hb
      have hnk : n ≤ k := by rw [hn]; have := List.length_filter_le M.isLit (zs.take k); simp at this; omega
      clear hn hown hb
      by_cases hlt : k < zs.length
      · have hzr := hz.below HB'.out
        obtain ⟨b, off, rfl, hbl, hcl⟩ := hzr.addr (by omega)
        obtain ⟨z, hzk⟩ : ∃ z, zs[k]? = some z := ⟨zs[k], by simp [hlt]⟩
        have hcell := hcl k z hzk
        have HZ := Lib.hid hzk
        have H64 := Lib.hid (hz.wf z (List.mem_of_getElem? hzk))
        clear hcl hzk
        cases hlz : M.isLit z
        · go_wp2_with (go_at_call 68; refine (literal_any _ _).mono ?_; rintro e w' ⟨rfl, rfl⟩)
          go_roundw
          case rel => exact ⟨k + 1, n, a', c', by omega, by go_num, rfl, by rw [M.filter_drop HZ.out hlz]; exact HN.out, by rw [M.filter_drop HZ.out hlz]; exact HO.out, HB'.out⟩
          case measure => simp [intOf]; omega
        · go_wp2_with (first
            | (go_at_call 68; refine (literal_any _ _).mono ?_; rintro e w' ⟨rfl, rfl⟩)
            | (at_builtin; refine wpList_append_Ints rfl (.tmp 17) (.tmp 19) 30 rfl Tryd.underlying30 w.heap.size _ _ _ ((zs.take k).filter M.isLit) rfl HN.out.symm (OwnI.alloc HO.out _) _ _ _ [z] rfl rfl (Ints.one wr z H64.out _) (fun h => by cases h) (by omega) (put_size1 HB'.out) ?_; intro a2 c2 w2 hown2 hg2 hB2; have HB2 := Lib.hid (put_below2 HB'.out hB2); have HO2 := Lib.hid hown2; clear hg2 hown2 hB2))
          go_roundw
          case rel => exact ⟨k + 1, n + 1, a2, c2, by omega, by go_num, rfl, by rw [M.filter_keep HZ.out hlz, List.length_append, ← HN.out]; rfl, by rw [M.filter_keep HZ.out hlz]; exact HO2.out, HB2.out⟩
          case measure => simp [intOf]; omega
      · have hfull : zs.take k = zs := List.take_of_length_le (by omega)
        have hI : Ints wr a' (zs.filter M.isLit) := by
          have := HO.out; rw [hfull] at this
          refine this.ints (fun y hy => hz.wf y (List.mem_filter.1 hy).1) ?_
          have := List.length_filter_le M.isLit zs; omega
        have hnl : n = (zs.filter M.isLit).length := by rw [HN.out, hfull]
        have hsr := sorted_any a' c' (zs.filter M.isLit) wr hI (fun y hy => (List.mem_filter.1 hy).2)
        rw [← hnl] at hsr
        have HS := Lib.hid hsr
        clear hfull hI hnl hsr
        go_wp2_with (go_at_call 69; refine HS.out.mono ?_; rintro e w' ⟨a3, c3, rfl, h1, h2, h3, h4, _⟩)
        go_ret
        exact ⟨_, _, rfl, h1, h2, h3, HB'.out.trans (h4.mono HB'.out.size)⟩
  · have ho : M.only zs = zs := M.only_of_right hr
    rw [ho]
    clear ho
    go_enter Tryd.func70, Tryd.ntmps70
    go_wp2_with (go_at_call 90; refine (right_any _ _ _ _ hz).mono ?_; rintro e w1 ⟨rfl, hb⟩)
    go_ret
    exact ⟨_, _, rfl, hz.below hb, hc, hd, hb⟩
theorem tautology_any (a : Option Addr) (c : Nat) (zs : List Int) (w : World) (hz : Ints w a zs) (hc : zs.length ≤ c) (hd : a = none → c = 0) :
    Calls Tryd.prog 42 #[.slice a zs.length c] w fun e w' => e = .returned (.bool (M.adj (M.only zs))) ∧ Below w.heap.size w w' := by
  go_enter Tryd.func42, Tryd.ntmps42
  go_wp2_with (go_at_call 70; refine (only_any _ _ _ _ hz hc hd).mono ?_; rintro e w1 ⟨a', c', rfl, h1, h2, h3, h4⟩)
  have hlen := h1.len
  have HA := Lib.hid (fun x => (M.mem_only zs x).1)
  generalize hgen : M.only zs = ys at *
  have HG := Lib.hid hgen
  clear hgen
  have HB := Lib.hid h4
  clear h4 h3 hz hd
  go_loopw [4] (fun i wr => ∃ k : Nat, (1 ≤ k ∧ (k ≤ ys.length ∨ k = 1)) ∧ i = .int .i64 k ∧ M.adj (ys.take k) = false ∧ ∃ q, wr = w1.drewN q) (fun i _ => ys.length - (intOf i).toNat)
  case atStart => exact ⟨1, ⟨Nat.le_refl _, .inr rfl⟩, rfl, M.adj_take1 ys, 0, rfl⟩
  case round =>
    obtain ⟨k, hk, rfl, hf, q, rfl⟩ := hrel
    have hk1 := hk.1
    have HF := Lib.hid hf
    have HK := Lib.hid hk
    clear hf hk
    by_cases hlt : k < ys.length
    · obtain ⟨b, off, rfl, hbl, hcl⟩ := h1.addr (by omega)
      obtain ⟨z, hzk⟩ : ∃ z, ys[k]? = some z := ⟨ys[k], by simp [hlt]⟩
      obtain ⟨y, hyk⟩ : ∃ z, ys[k - 1]? = some z := ⟨ys[k - 1], List.getElem?_eq_getElem (by omega)⟩
      have hcell := hcl k z hzk
      have hcell2 := hcl (k - 1) y hyk
      have hly := (HA.out y (List.mem_of_getElem? hyk)).2
      have hl2 := (M.isLit_iff y).1 hly
      have hlo : -20000 ≤ y := hl2.2.1
      have hhi : y ≤ 20000 := hl2.2.2
      have HZ := Lib.hid hzk
      have HY := Lib.hid hyk
      clear hcl hzk hyk hly hl2
      have hi1 : (k : Int) < (ys.length : Int) := by omega
      have hi2 : (k : Int) - 1 < (ys.length : Int) := by omega
      have hi3 : 0 ≤ (k : Int) - 1 := by omega
      have hi4 : 1 ≤ (k : Int) := by omega
      go_wp2
      go_quiet (fail)
      go_wp2
      · have hp : (z == -y) = true := by assumption
        go_ret
        exact ⟨ret_bool (by rw [HG.out, M.adj_hit hk1 HY.out HZ.out hp]), HB.out.trans ((bDrewN _ _ q).trans (bDrewN _ _ _))⟩
      · have hp : (z == -y) = false := by assumption
        go_roundw
        case rel => exact ⟨k + 1, ⟨by omega, .inl (by omega)⟩, by go_num, by rw [M.adj_step hk1 HY.out HZ.out, HF.out, hp]; rfl, _, rfl⟩
        case measure => simp [intOf]; omega
    · go_wp2
      go_ret
      refine ⟨ret_bool ?_, ?_⟩
      · have := HF.out; rw [List.take_of_length_le (by omega)] at this; rw [HG.out]; exact this.symm
      · exact HB.out.trans (bDrewN _ _ _)
end Go.Proofs.YtgpifbhfnbkgoaaDoor
