/- Plain: Or is the opposite of And of the opposites, said by clauses. -/
import Derived.Test.YtdppmmimemmedaaDoorCnfMath
namespace Go.Proofs.YtdppmmimemmedaaDoor.M

theorem andC_lits {g : Int} {l : List Int} (hg : isLit g = true) (hl : ∀ x ∈ l, isLit x = true) : ∀ c ∈ andC g l, ∀ x ∈ c, isLit x = true := by
  have := gateC_lits (kind := 1) hg hl (fun h => by omega) (fun h => by omega)
  simpa [gateC] using this
theorem orC_lits {g : Int} {l : List Int} (hg : isLit g = true) (hl : ∀ x ∈ l, isLit x = true) : ∀ c ∈ orC g l, ∀ x ∈ c, isLit x = true := by
  have := gateC_lits (kind := 2) hg hl (fun h => by omega) (fun h h2 => by omega)
  simpa [gateC] using this
theorem xorC_lits {g a b : Int} (hg : isLit g = true) (ha : isLit a = true) (hb : isLit b = true) : ∀ c ∈ xorC g a b, ∀ x ∈ c, isLit x = true := by
  have := gateC_lits (kind := 3) (l := [a, b]) hg (fun x hx => by simp at hx; rcases hx with rfl | rfl <;> assumption) (fun _ => rfl) (fun h h2 h3 => by omega)
  simpa [gateC] using this
theorem neg_all (l : List Int) (hl : ∀ x ∈ l, isLit x = true) (m : List Bool) : (l.map (- ·)).all (holds · m) = !(l.any (holds · m)) := by
  rw [List.all_map, List.not_any_eq_all_not]
  rw [Bool.eq_iff_iff]; simp only [List.all_eq_true, Function.comp]
  exact forall_congr' fun x => forall_congr' fun hx => by rw [holds_neg m (hl x hx)]
theorem opp_false {g1 g2 g3 : Int} {l : List Int} (h1 : isLit g1 = true) (h2 : isLit g2 = true) (h3 : isLit g3 = true) (hl : ∀ x ∈ l, isLit x = true) (m : List Bool) :
    allTrue (addC ((xorC g3 g1 g2).foldl addC ((orC g2 l).foldl addC ((andC g1 (l.map (- ·))).foldl addC []))) [-g3]) m = false := by
  have hln : ∀ x ∈ l.map (- ·), isLit x = true := fun x hx => by simp at hx; obtain ⟨y, hy, rfl⟩ := hx; rw [isLit_neg]; exact hl y hy
  rw [allTrue_addC _ (fun x hx => by simp at hx; subst hx; rw [isLit_neg]; exact h3) m, allTrue_addCs _ _ (xorC_lits h3 h1 h2) m, allTrue_addCs _ _ (orC_lits h2 hl) m, allTrue_addCs _ _ (andC_lits h1 hln) m, andC_true h1 hln m, orC_true h2 hl m, xorC_true h3 h1 h2 m, neg_all l hl m]
  simp only [tru, List.any_cons, List.any_nil, holds_neg m h3]
  cases holds g1 m <;> cases holds g2 m <;> cases holds g3 m <;> cases l.any (holds · m) <;> simp [allTrue]
end Go.Proofs.YtdppmmimemmedaaDoor.M
