/- slices.SortedFunc(maps.Keys(set), order). -/
import Derived.Test.YtdppmmimemmedaaDoorPut
import Derived.Test.YtdppmmimemmedaaDoorNorm
import Derived.Test.YtdppmmimemmedaaDoorKeys
namespace Go.Proofs.YtdppmmimemmedaaDoor
open Go.RowKit Go.Sort Go.Shelf

theorem mapsKeys_any (mb : Option Nat) (w : World) : Calls Tryd.prog 69 #[.map mb] w fun e w' => e = .returned (.func (.func 89) #[] #[.pointer (some ⟨w.heap.size, 0, none⟩)]) ∧ w' = w.alloc (.cells #[.map mb] 89) :=
  (callsIn_wide (n := 5)).1 (AnyZI.keys_in Tryd.keysA Fence.wide 5 trivial rfl mb w)
theorem perm_Sq {w : World} {bm n : Nat} {q : List Int} (hown : w.ownsMap Tryd.prog 3 (unitElem (H := Unit)) bm n (Sq q)) (hn : q.Nodup) : q.Perm (intKeys (Sq q)) := by
  have h : CollectedI (Sq q) (fun _ => false) q := ⟨hn, fun x => by rw [has_Sq, M.inn_iff]; simp⟩
  exact h.perm hown keyedInt Tryd.underlying3 (fun _ => rfl)
/-- slices.Collect(maps.Keys(set)) -/
theorem collect_any (bm Bm : Nat) (q : List Int) (w : World) (hB : Bm < w.heap.size) (hm : w.cell? ⟨Bm, 0, none⟩ = some (.map (some bm))) (hown : w.ownsMap Tryd.prog 3 (unitElem (H := Unit)) bm q.length (Sq q)) (hl : q.length ≤ 40001) (hn : q.Nodup) :
    Calls Tryd.prog 87 #[.func (.func 89) #[] #[.pointer (some ⟨Bm, 0, none⟩)]] w fun e w' => ∃ (v : Value) (ss : List Int), e = .returned v ∧ ss.Perm q ∧ w'.ownsRow w.heap.size 3 1 v ss.length (ss.map (Value.int .i64)) ∧ (v = .slice none 0 0 ↔ ss = []) ∧ Below w.heap.size w w' := by
  have hseq : SeqGives Fence.wide 3 Tryd.prog 89 #[.pointer (some ⟨Bm, 0, none⟩)] encZ (fun ss => ss.Perm (intKeys (Sq q))) (Go.Maps.size (Sq q)) w :=
    AnyZI.keys_gives (ρ := Tryd.keysA_ren) { Tryd.keysA with } Fence.wide _ trivial rfl (by omega) Bm bm _ _ _ hB hm hown
  have hsz := hown.size_le
  have h := AnyZI.collect_in Tryd.collA Fence.wide 5 trivial trivial rfl (by omega) 89 #[.pointer (some ⟨Bm, 0, none⟩)] trivial (enters_of Tryd.func89 (by kernel_rfl) rfl) _ _ (by unfold maxLen; omega) (by omega) w hseq
  refine (((callsIn_wide (n := 5)).1 h)).mono ?_
  rintro e w' ⟨v, ss, rfl, hp, h1, h2, h3⟩
  exact ⟨v, ss, rfl, hp.trans (perm_Sq hown hn).symm, h1, h2, h3⟩
/-- keys that are no two alike, sorted -/
theorem M.ms_norm {ss q : List Int} (hl : ∀ z ∈ ss, M.isLit z = true) (hp : ss.Perm q) (hn : q.Nodup) : (M.ms (toLt ss hl)).map (·.1) = M.norm q := by
  refine M.norm_of_mem q ?_ (fun x => by rw [M.ms_mem, toLt_val]; exact hp.mem_iff)
  have h1 := M.ms_pairwise (toLt ss hl)
  have h2 : ((M.ms (toLt ss hl)).map (·.1)).Nodup := by
    have : ((M.ms (toLt ss hl)).map (·.1)).Perm q := by
      refine List.Perm.trans ?_ hp
      have e : (toLt ss hl).map (·.1) = ss := toLt_val ss hl
      conv => rhs; rw [← e]
      exact (List.mergeSort_perm _ _).map _
    exact this.nodup_iff.2 hn
  exact (h1.and h2).imp fun {x y} h => by
    cases hh : M.less x y
    · exact absurd (M.less_total hh h.1) h.2
    · rfl
set_option maxHeartbeats 2000000 in
theorem sortedKeys_any (bm Bm : Nat) (q : List Int) (w : World) (hB : Bm < w.heap.size) (hm : w.cell? ⟨Bm, 0, none⟩ = some (.map (some bm))) (hown : w.ownsMap Tryd.prog 3 (unitElem (H := Unit)) bm q.length (Sq q)) (hn : q.Nodup) (hl : ∀ z ∈ q, M.isLit z = true) :
    Calls Tryd.prog 68 #[.func (.func 89) #[] #[.pointer (some ⟨Bm, 0, none⟩)], .func (.func 70) #[] #[]] w (NewInts w (M.norm q)) := by
  have hcol := collect_any bm Bm q w hB hm hown (M.lits_length hn hl) hn
  have HC := Lib.hid hcol
  have HN := Lib.hid hn
  have HL := Lib.hid hl
  have hlen := M.lits_length hn hl
  clear hcol hn hl hown hm
  go_enter Tryd.func68, Tryd.ntmps68
  go_wp2_with fail
  refine HC.out.mono ?_
  rintro e w1 ⟨v', ss, rfl, hp, hown, hnil, hb1⟩
  have hls : ∀ z ∈ ss, M.isLit z = true := fun z hz => HL.out z (hp.mem_iff.1 hz)
  have hsl : ss.length ≤ 40001 := by rw [hp.length_eq]; exact hlen
  by_cases hnn : v' = .slice none 0 0
  · subst hnn
    have e0 : ss = [] := hnil.1 rfl
    subst e0
    have hq0 : q = [] := List.nil_perm.1 hp
    subst hq0
    have hsort := Tryd.slices_SortFunc_none (α := Lt) none 0 (.func (.func 70) #[] #[]) w1
    have HS := Lib.hid hsort
    have HB1 := Lib.hid hb1
    clear hsort hown hnil hb1
    go_wp2_with fail
    refine HS.out.mono ?_
    rintro e w2 ⟨rfl, rfl⟩
    go_wp2_with fail
    go_ret
    exact ⟨_, _, rfl, Ints.nil _ _, Nat.zero_le _, (fun _ => rfl), HB1.out⟩
  · obtain ⟨g, cap, rfl, hg, hgl, hcap, hH, cur, hcur⟩ := clone_sort hls hown hnn
    have HCUR := Lib.hid hcur
    have HB1 := Lib.hid hb1
    have HH := Lib.hid hH
    have HP := Lib.hid hp
    clear hown hnn hb1 hH hcur hp hnil
    have hsort := Tryd.slices_SortFunc_total encL encL_one cfL swoL 70 #[] g 0 cap (toLt ss hls).toArray w1 (enters_of Tryd.func70 (by kernel_rfl) rfl) (cmpLays g _ w1) HH.out hgl (by simp [toLt_length]; omega) (fun x y h1 h2 => by
      rw [ltOf_cfL] at h1 h2; exact Subtype.ext (M.less_total h1 h2))
    simp only [List.size_toArray, toLt_length] at hsort
    have HS := Lib.hid hsort
    clear hsort
    go_wp2_with fail
    refine HS.out.mono ?_
    rintro e w2 ⟨rfl, nn, os, rfl⟩
    have hts : (M.ms (toLt ss hls)).length = ss.length := by rw [M.ms_length, toLt_length]
    obtain ⟨hH2, hb2, hgl2⟩ := sorted_tail (nn := nn) (os := os) hls HB1.out hg hgl HH.out hts
    have hno := M.ms_norm hls HP.out HN.out
    go_wp2_with fail
    go_ret
    refine ⟨some ⟨g, 0, none⟩, cap, ?_, ?_, ?_, (fun h => by cases h), hb2⟩
    rotate_left
    · rw [← hno]
      refine ⟨fun _ => ⟨g, 0, rfl, hgl2, fun i z hz => ?_⟩, fun z hz => ?_, by rw [List.length_map, hts]; omega⟩
      · have hi : i < ((M.ms (toLt ss hls)).map (·.1)).length := (List.getElem?_eq_some_iff.1 hz).1
        have h := (hH2 i (by simpa using hi)).1
        rw [Nat.zero_add] at h ⊢
        rw [getElem!_pos _ i (by simpa using hi)] at h
        simp only [List.getElem_toArray] at h
        rw [(List.getElem?_eq_some_iff.1 hz).2] at h
        exact h
      · exact I64.of_lit (hls z (by rw [M.ms_mem, toLt_val] at hz; exact hz))
    · rw [← hno, List.length_map, hts]; exact hcap
    · rw [← hno, List.length_map, hts]; rfl
end Go.Proofs.YtdppmmimemmedaaDoor
