/- The walk of haversacklaw15.CnfOnes. -/
import Derived.Test.YtgpifbhfnbkgoaaDoorAlive15
namespace Go.Proofs.YtgpifbhfnbkgoaaDoor
open Go.RowKit Go.Shelf
variable {X : Nat → Prop}

theorem M.pairs_true {a : Int} {l : List Int} (ha : M.isLit a = true) (hl : ∀ x ∈ l, M.isLit x = true) (hd : ∀ x ∈ l, a ≠ -x) (m : List Bool) : M.allTrue (M.pairs a l) m = (!(M.holds a m) || decide (M.count l m = 0)) := by
  have e : l.filter (fun b => !(a == -b)) = l := List.filter_eq_self.2 fun x hx => by simp [hd x hx]
  rw [M.pairs, e, M.allTrue, List.all_map]
  have h2 : (l.all ((fun c => M.tru c m) ∘ fun b => M.norm [-a, -b])) = l.all fun b => (!(M.holds a m) || !(M.holds b m)) := by
    rw [Bool.eq_iff_iff]; simp only [List.all_eq_true]
    refine forall_congr' fun x => forall_congr' fun hx => ?_
    show M.tru (M.norm [-a, -x]) m = true ↔ _
    rw [M.tru_norm]
    simp [M.tru, M.holds_neg m ha, M.holds_neg m (hl x hx)]
  rw [h2, M.all_pair]
  congr 1
  rw [Bool.eq_iff_iff, List.all_eq_true, decide_eq_true_iff, M.count, List.countP_eq_zero]
  refine forall_congr' fun x => forall_congr' fun _ => ?_
  simp
theorem M.oneC_true (m : List Bool) : ∀ (l : List Int), (∀ x ∈ l, M.isLit x = true) → l.Pairwise (fun a b => a ≠ -b) → M.allTrue (M.oneC l) m = decide (M.count l m ≤ 1)
  | [], _, _ => by simp [M.oneC, M.allTrue, M.count]
  | a :: l, hl, hd => by
    have hd' := List.pairwise_cons.1 hd
    have ih := M.oneC_true m l (fun x hx => hl x (List.mem_cons_of_mem _ hx)) hd'.2
    rw [M.oneC_pairs, M.allTrue, List.all_append]
    rw [show (M.pairs a l).all (fun c => M.tru c m) = M.allTrue (M.pairs a l) m from rfl, show (M.oneC l).all (fun c => M.tru c m) = M.allTrue (M.oneC l) m from rfl]
    rw [M.pairs_true (hl a (by simp)) (fun x hx => hl x (List.mem_cons_of_mem _ hx)) hd'.1 m, ih]
    have hc : M.count (a :: l) m = M.count l m + (if M.holds a m = true then 1 else 0) := by simp [M.count, List.countP_cons]
    rw [hc]
    cases M.holds a m
    · simp
    · rw [Bool.eq_iff_iff]; simp; omega
/-- the literals with their signs, the first k -/
def M.sg (ss : List Bool) (i : Nat) (z : Int) : Int := if ss[i]?.getD false then -z else z
def M.sgTo (V : Nat) (ss : List Bool) (k : Nat) : List Int := (List.range V).map fun (i : Nat) => if i < k then M.sg ss i ((i : Int) + 1) else (i : Int) + 1
theorem M.sgTo_length (V : Nat) (ss : List Bool) (k : Nat) : (M.sgTo V ss k).length = V := by simp [M.sgTo]
theorem M.sgTo_zero (V : Nat) (ss : List Bool) : M.sgTo V ss 0 = M.iota 0 V := by
  simp [M.sgTo, M.iota]; intro a _; omega
theorem M.sgTo_get {V : Nat} {ss : List Bool} {k i : Nat} (h : i < V) : (M.sgTo V ss k)[i]? = some (if i < k then M.sg ss i ((i : Int) + 1) else (i : Int) + 1) := by
  simp [M.sgTo, h]
theorem M.sgTo_neg {V : Nat} {ss : List Bool} {k : Nat} (h : k < V) (hs : ss[k]?.getD false = true) : (M.sgTo V ss k).set k (-((k : Int) + 1)) = M.sgTo V ss (k + 1) := by
  apply List.ext_getElem?
  intro i
  by_cases hi : i < V
  · rw [M.sgTo_get hi]
    by_cases hik : i = k
    · subst hik; rw [List.getElem?_set_self (by rw [M.sgTo_length]; exact hi), if_pos (by omega)]; simp [M.sg, hs]
    · rw [List.getElem?_set_ne (fun e => hik e.symm), M.sgTo_get hi]
      by_cases h2 : i < k
      · rw [if_pos h2, if_pos (by omega)]
      · rw [if_neg h2, if_neg (by omega)]
  · rw [List.getElem?_eq_none (by rw [List.length_set, M.sgTo_length]; omega), List.getElem?_eq_none (by rw [M.sgTo_length]; omega)]
theorem M.sgTo_keep {V : Nat} {ss : List Bool} {k : Nat} (hs : ss[k]?.getD false = false) : M.sgTo V ss k = M.sgTo V ss (k + 1) := by
  apply List.ext_getElem?
  intro i
  by_cases hi : i < V
  · rw [M.sgTo_get hi, M.sgTo_get hi]
    by_cases hik : i = k
    · subst hik; rw [if_neg (by omega), if_pos (by omega)]; simp [M.sg, hs]
    · by_cases h2 : i < k
      · rw [if_pos h2, if_pos (by omega)]
      · rw [if_neg h2, if_neg (by omega)]
  · rw [List.getElem?_eq_none (by rw [M.sgTo_length]; omega), List.getElem?_eq_none (by rw [M.sgTo_length]; omega)]
theorem M.sg_cases (ss : List Bool) (i : Nat) (z : Int) : M.sg ss i z = z ∨ M.sg ss i z = -z := by
  unfold M.sg; split
  · exact .inr rfl
  · exact .inl rfl
theorem M.sgTo_own (V : Nat) (ss : List Bool) (k : Nat) : M.own V (M.sgTo V ss k) = true := by
  rw [M.own_iff]
  intro x hx
  simp only [M.sgTo, List.mem_map, List.mem_range] at hx
  obtain ⟨i, hi, rfl⟩ := hx
  split
  · rcases M.sg_cases ss i ((i : Int) + 1) with e | e <;> rw [e] <;> omega
  · omega
theorem M.sgTo_apart (V : Nat) (ss : List Bool) (k : Nat) : (M.sgTo V ss k).Pairwise (fun a b => a ≠ -b) := by
  rw [M.sgTo, List.pairwise_map]
  refine List.Pairwise.imp_of_mem ?_ List.pairwise_lt_range
  intro i j hi hj hij
  have h1 : ∀ n : Nat, (if n < k then M.sg ss n ((n : Int) + 1) else (n : Int) + 1) = (n : Int) + 1 ∨ (if n < k then M.sg ss n ((n : Int) + 1) else (n : Int) + 1) = -((n : Int) + 1) := by
    intro n; split
    · exact M.sg_cases ss n _
    · exact .inl rfl
  rcases h1 i with e | e <;> rcases h1 j with e' | e' <;> rw [e, e'] <;> omega
theorem M.count_snoc {L : List Int} {t : Nat} {z : Int} (h : L[t]? = some z) (m : List Bool) : M.count (L.take (t + 1)) m = M.count (L.take t) m + (if M.holds z m = true then 1 else 0) := by
  rw [List.take_add_one, h]; simp [M.count, List.countP_append, List.countP_cons]
theorem OwnI.cell {w : World} {base g c : Nat} {ys : List Int} (h : OwnI w base (some ⟨g, 0, none⟩) c ys) {i : Nat} {z : Int} (hz : ys[i]? = some z) : w.cell? ⟨g, i, none⟩ = some (.int .i64 z) := by
  rcases h.parts with ⟨e, _⟩ | ⟨g', cur, e, hb, hlt, hg, hn, hm, hs, ht⟩
  · cases e
  · cases e
    rw [cell_of_cells hg]
    have hi : i < ys.length := by
      rcases Nat.lt_or_ge i ys.length with h' | h'
      · exact h'
      · rw [List.getElem?_eq_none h'] at hz; cases hz
    have e1 : (cur.toList.take ys.length)[i]? = (ys.map (Value.int .i64))[i]? := by rw [ht]
    rw [List.getElem?_take, if_pos hi, List.getElem?_map, hz, Array.getElem?_toList] at e1
    exact e1
theorem Fm.set0 {w : World} {base p vars : Nat} {c : Nat} (h : Fm X w base p vars [] none c) (g i : Nat) (v : Value) (hg : g ≠ p) : Fm X (w.setCell ⟨g, i, none⟩ v) base p vars [] none c := by
  refine ⟨h.le, (Below.heap_setCell _ _ _ _ (fun e => hg e.symm)).trans h.blk, ⟨OffX.none X, [], ?_, fun j x hx => by simp at hx⟩, h.vars, h.len, h.xlt.mono (by simp [World.setCell]), h.xp⟩
  obtain ⟨_, vals, hr, _⟩ := h.own
  rcases hr.2 with ⟨e, hn⟩ | ⟨g, cap, cur, e, _⟩
  · exact ⟨rfl, .inl ⟨e, hn⟩⟩
  · injection e with e1; cases e1
theorem mod_val (x : Int) (n : Int) (hn : 1 ≤ n) (hn2 : n ≤ 100000) : ∃ V : Nat, wrap64 (1 + wrap64 ((IntKind.u64.wrap x).tmod n)) = (V : Int) ∧ 1 ≤ V ∧ (V : Int) ≤ n := by
  have h0 : 0 ≤ IntKind.u64.wrap x := by rw [IntKind.wrap_u64]; omega
  rw [Int.tmod_eq_emod_of_nonneg h0]
  have h1 := Int.emod_nonneg (IntKind.u64.wrap x) (by omega : n ≠ 0)
  have h2 := Int.emod_lt_of_pos (IntKind.u64.wrap x) (by omega : 0 < n)
  generalize IntKind.u64.wrap x % n = r at *
  rw [IntWalk.wrap64_in r ⟨by omega, by omega⟩, IntWalk.wrap64_in (1 + r) ⟨by omega, by omega⟩]
  exact ⟨(1 + r).toNat, by omega, by omega, by omega⟩
end Go.Proofs.YtgpifbhfnbkgoaaDoor
