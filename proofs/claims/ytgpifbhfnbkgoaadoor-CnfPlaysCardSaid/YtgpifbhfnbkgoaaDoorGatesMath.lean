/- Plain: gates one behind the other: what their clauses say. -/
import Derived.Test.YtgpifbhfnbkgoaaDoorCnfMath
namespace Go.Proofs.YtgpifbhfnbkgoaaDoor.M

/-- a gate: its kind, its literals -/
abbrev G := Int × List Int
/-- as many literals as its kind has -/
def Fits (g : G) : Prop := (g.1 = 3 → g.2.length = 2) ∧ (g.1 ≠ 1 → g.1 ≠ 2 → g.1 ≠ 3 → g.2.length = 3)
/-- the clauses of gates, the first of which is the variable V + 1 -/
def gatesC (V : Nat) (gs : List G) : List (List Int) := (List.range gs.length).foldl (fun cs i => (gateC (gs.getD i (0, [])).1 ((V + i + 1 : Nat) : Int) (gs.getD i (0, [])).2).foldl addC cs) []
/-- a model with what the gates say -/
def ext (m : List Bool) (gs : List G) : List Bool := gs.foldl (fun m g => m ++ [says g.1 g.2 m]) m
/-- each gate's literals are those of the variables so far -/
def Gok (V : Nat) (gs : List G) : Prop := ∀ i g, gs[i]? = some g → own (V + i) g.2 = true ∧ Fits g

theorem gatesC_nil (V : Nat) : gatesC V [] = [] := rfl
theorem gatesC_snoc (V : Nat) (gs : List G) (g : G) : gatesC V (gs ++ [g]) = (gateC g.1 ((V + gs.length + 1 : Nat) : Int) g.2).foldl addC (gatesC V gs) := by
  unfold gatesC
  rw [List.length_append, List.length_singleton, List.range_succ, List.foldl_append, List.foldl_cons, List.foldl_nil]
  have e1 : (gs ++ [g]).getD gs.length (0, []) = g := by simp [List.getD]
  rw [e1]
  congr 1
  have : ∀ (l : List Nat) (cs : List (List Int)), (∀ i ∈ l, i < gs.length) → l.foldl (fun cs i => (gateC ((gs ++ [g]).getD i (0, [])).1 ((V + i + 1 : Nat) : Int) ((gs ++ [g]).getD i (0, [])).2).foldl addC cs) cs = l.foldl (fun cs i => (gateC (gs.getD i (0, [])).1 ((V + i + 1 : Nat) : Int) (gs.getD i (0, [])).2).foldl addC cs) cs := by
    intro l
    induction l with
    | nil => intro cs _; rfl
    | cons i l ih =>
      intro cs h
      have hi := h i (by simp)
      rw [List.foldl_cons, List.foldl_cons, ih _ (fun j hj => h j (List.mem_cons_of_mem _ hj))]
      rw [show (gs ++ [g]).getD i (0, []) = gs.getD i (0, []) from by simp [List.getD, List.getElem?_append_left hi]]
  exact this _ _ (fun i hi => List.mem_range.1 hi)
theorem ext_nil (m : List Bool) : ext m [] = m := rfl
theorem ext_snoc (m : List Bool) (gs : List G) (g : G) : ext m (gs ++ [g]) = ext m gs ++ [says g.1 g.2 (ext m gs)] := by
  simp [ext, List.foldl_append]
theorem ext_length (m : List Bool) (gs : List G) : (ext m gs).length = m.length + gs.length := by
  induction gs generalizing m with
  | nil => simp [ext]
  | cons g gs ih => simp only [ext, List.foldl_cons] at ih ⊢; rw [ih]; simp; omega
theorem own_vr {n : Nat} {l : List Int} (h : own n l = true) : ∀ x ∈ l, vr x ≤ n := by
  intro x hx
  have := (own_iff n l).1 h x hx
  by_cases hn : x < 0
  · rw [vr_of_neg hn]; omega
  · rw [vr_of_pos hn]; omega
/-- what a model says of the gates -/
theorem gatesC_true {V : Nat} {gs : List G} (h : Gok V gs) (hV : V + gs.length ≤ 20000) (m : List Bool) :
    allTrue (gatesC V gs) m = true ↔ ∀ i g, gs[i]? = some g → holds ((V + i + 1 : Nat) : Int) m = says g.1 g.2 m := by
  have main : ∀ gs : List G, Gok V gs → V + gs.length ≤ 20000 → (allTrue (gatesC V gs) m = true ↔ ∀ i g, gs[i]? = some g → holds ((V + i + 1 : Nat) : Int) m = says g.1 g.2 m) := by
    intro gs
    generalize hn : gs.length = n
    induction n generalizing gs with
    | zero =>
      intro _ _
      rw [List.eq_nil_of_length_eq_zero hn]
      simp [gatesC, allTrue]
    | succ n ih =>
      intro hok hV
      rcases List.eq_nil_or_concat gs with rfl | ⟨gs', g, rfl⟩
      · simp at hn
      · rw [List.concat_eq_append] at *
        have hl : gs'.length = n := by simpa using hn
        have hok' : Gok V gs' := fun i g' hg' => hok i g' (by rw [List.getElem?_append_left (Array.getElem?_eq_some_iff.1 (by simpa using hg' : gs'.toArray[i]? = some g')).1]; exact hg')
        have hg := hok gs'.length g (by simp)
        have hgl : isLit ((V + gs'.length + 1 : Nat) : Int) = true := by rw [isLit_iff]; omega
        have hll := own_isLit (vars := V + gs'.length) (by omega) hg.1
        rw [gatesC_snoc, allTrue_addCs _ _ (gateC_lits hgl hll hg.2.1 hg.2.2) m, gateC_true hgl hll hg.2.1 hg.2.2 m, Bool.and_eq_true, beq_iff_eq, ih gs' hl hok' (by omega)]
        constructor
        · rintro ⟨h1, h2⟩ i g' hg'
          by_cases hi : i < gs'.length
          · rw [List.getElem?_append_left hi] at hg'; exact h1 i g' hg'
          · have hi2 : i = gs'.length := by
              rcases Nat.lt_or_ge i (gs' ++ [g]).length with h' | h'
              · simp at h'; omega
              · rw [List.getElem?_eq_none h'] at hg'; cases hg'
            subst hi2
            simp at hg'; subst hg'; exact h2
        · intro hall
          refine ⟨fun i g' hg' => hall i g' ?_, hall gs'.length g (by simp)⟩
          have hi : i < gs'.length := by
            rcases Nat.lt_or_ge i gs'.length with h' | h'
            · exact h'
            · rw [List.getElem?_eq_none h'] at hg'; cases hg'
          rw [List.getElem?_append_left hi]; exact hg'
  exact main gs h hV
theorem says_take {k : Int} {l : List Int} {n : Nat} (h : ∀ x ∈ l, vr x ≤ n) (m : List Bool) (hm : n ≤ m.length) : says k l m = says k l (m.take n) := by
  have := says_append k (l := l) (m.take n) (m.drop n) (fun x hx => by rw [List.length_take, Nat.min_eq_left hm]; exact h x hx)
  rw [List.take_append_drop] at this
  exact this
theorem ext_take (m : List Bool) (gs : List G) (i : Nat) (hi : i ≤ gs.length) : (ext m gs).take (m.length + i) = ext m (gs.take i) := by
  have hpre : ∀ (gs' : List G) (m : List Bool), ∃ k, ext m gs' = m ++ k := by
    intro gs'
    induction gs' with
    | nil => intro m; exact ⟨[], by simp [ext]⟩
    | cons g gs' ih =>
      intro m
      obtain ⟨k, hk⟩ := ih (m ++ [says g.1 g.2 m])
      exact ⟨[says g.1 g.2 m] ++ k, by simp only [ext, List.foldl_cons] at hk ⊢; rw [hk]; simp⟩
  have e : ext m gs = ext (ext m (gs.take i)) (gs.drop i) := by
    unfold ext
    rw [← List.foldl_append, List.take_append_drop]
  obtain ⟨k, hk⟩ := hpre (gs.drop i) (ext m (gs.take i))
  rw [e, hk]
  have hl : (ext m (gs.take i)).length = m.length + i := by rw [ext_length, List.length_take, Nat.min_eq_left hi]
  rw [← hl]; exact List.take_left
theorem ext_get (m : List Bool) (gs : List G) (i : Nat) (g : G) (hg : gs[i]? = some g) : (ext m gs)[m.length + i]? = some (says g.1 g.2 (ext m (gs.take i))) := by
  have hi : i < gs.length := by
    rcases Nat.lt_or_ge i gs.length with h' | h'
    · exact h'
    · rw [List.getElem?_eq_none h'] at hg; cases hg
  have h1 := ext_take m gs (i + 1) (by omega)
  have e2 : gs.take (i + 1) = gs.take i ++ [g] := by rw [List.take_add_one, hg]; rfl
  rw [e2, ext_snoc] at h1
  have hl : (ext m (gs.take i)).length = m.length + i := by rw [ext_length, List.length_take, Nat.min_eq_left (by omega)]
  have h2 : ((ext m gs).take (m.length + (i + 1)))[m.length + i]? = some (says g.1 g.2 (ext m (gs.take i))) := by
    rw [h1, ← hl, List.getElem?_append_right (Nat.le_refl _)]; simp
  rw [List.getElem?_take, if_pos (by omega)] at h2
  exact h2
theorem holds_pos {n : Nat} (hn : n + 1 ≤ 20000) (m : List Bool) : holds ((n + 1 : Nat) : Int) m = m[n]?.getD false := by
  have hl : isLit ((n + 1 : Nat) : Int) = true := by rw [isLit_iff]; omega
  have hv : vr ((n + 1 : Nat) : Int) = (n : Int) + 1 := by rw [vr_of_pos (by omega)]; omega
  rw [holds_at hl hv m, decide_eq_true (by omega)]
  cases m[n]?.getD false <;> rfl
/-- with what the gates say all clauses are true -/
theorem gates_hold {V : Nat} {gs : List G} (h : Gok V gs) (hV : V + gs.length ≤ 20000) (m : List Bool) (hm : m.length = V) : allTrue (gatesC V gs) (ext m gs) = true := by
  rw [gatesC_true h hV]
  intro i g hg
  have hi : i < gs.length := by
    rcases Nat.lt_or_ge i gs.length with h' | h'
    · exact h'
    · rw [List.getElem?_eq_none h'] at hg; cases hg
  rw [show V + i + 1 = (V + i) + 1 from rfl, holds_pos (by omega)]
  have h1 := ext_get m gs i g hg
  rw [hm] at h1
  rw [h1]
  have h2 := ext_take m gs i (by omega)
  rw [hm] at h2
  rw [says_take (own_vr (h i g hg).1) (ext m gs) (by rw [ext_length]; omega), h2]
  rfl
/-- with one gate said otherwise they aren't -/
theorem gates_flip {V : Nat} {gs : List G} (h : Gok V gs) (hV : V + gs.length ≤ 20000) (m : List Bool) (hm : m.length = V) (i : Nat) (hi : i < gs.length) (b : Bool) (hb : (ext m gs)[V + i]? = some b) :
    allTrue (gatesC V gs) ((ext m gs).set (V + i) (!b)) = false := by
  cases hh : allTrue (gatesC V gs) ((ext m gs).set (V + i) (!b))
  · rfl
  · exfalso
    have hg : gs[i]? = some gs[i] := List.getElem?_eq_getElem hi
    have h1 := (gatesC_true h hV _).1 hh i _ hg
    have hl : (ext m gs).length = V + gs.length := by rw [ext_length, hm]
    rw [show V + i + 1 = (V + i) + 1 from rfl, holds_pos (by omega), List.getElem?_set_self (by omega)] at h1
    rw [says_take (own_vr (h i _ hg).1) _ (by rw [List.length_set]; omega)] at h1
    have e : ((ext m gs).set (V + i) (!b)).take (V + i) = (ext m gs).take (V + i) := List.take_set_of_le (Nat.le_refl _)
    have h2 := ext_get m gs i _ hg
    rw [hm, hb] at h2
    have h3 := ext_take m gs i (by omega)
    rw [hm] at h3
    rw [e, h3] at h1
    have h4 := Option.some.inj h2
    rw [← h4] at h1
    cases b <;> simp at h1
theorem gateC_length (k g : Int) (l : List Int) : (gateC k g l).length ≤ l.length + 6 := by
  unfold gateC
  split
  · simp [andC]
  · split
    · simp [orC]
    · split
      · simp [xorC]
      · simp [mostC]
theorem gatesC_length {V : Nat} {gs : List G} {L : Nat} (h : ∀ g ∈ gs, g.2.length ≤ L) : (gatesC V gs).length ≤ gs.length * (L + 6) := by
  have main : ∀ n, ∀ gs : List G, gs.length = n → (∀ g ∈ gs, g.2.length ≤ L) → (gatesC V gs).length ≤ n * (L + 6) := by
    intro n
    induction n with
    | zero => intro gs hn _; rw [List.eq_nil_of_length_eq_zero hn]; simp [gatesC]
    | succ n ih =>
      intro gs hn hL
      rcases List.eq_nil_or_concat gs with rfl | ⟨gs', g, rfl⟩
      · simp at hn
      · rw [List.concat_eq_append] at *
        have h1 := ih gs' (by simpa using hn) (fun g' hg' => hL g' (by simp [hg']))
        have h2 := hL g (by simp)
        rw [gatesC_snoc]
        have h3 := addCs_length (gatesC V gs') (gateC g.1 ((V + gs'.length + 1 : Nat) : Int) g.2)
        have h4 := gateC_length g.1 ((V + gs'.length + 1 : Nat) : Int) g.2
        rw [Nat.add_mul]; omega
  exact main _ gs rfl h
end Go.Proofs.YtgpifbhfnbkgoaaDoor.M
