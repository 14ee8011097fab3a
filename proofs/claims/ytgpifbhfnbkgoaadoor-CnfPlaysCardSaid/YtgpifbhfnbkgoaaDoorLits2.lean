/- lits.Vars; slices.Contains; haversacknum.Ints, KeptInts. -/
import Derived.Test.YtgpifbhfnbkgoaaDoorRef14
namespace Go.Proofs.YtgpifbhfnbkgoaaDoor
open Go.RowKit

/-- the greatest variable of a clause, from g on -/
def M.varsC (g : Int) (c : List Int) : Int := c.foldl (fun g l => if M.isLit l then max g (M.vr l) else g) g
theorem M.vars_take {cs : List (List Int)} {k : Nat} {c : List Int} (h : cs[k]? = some c) : M.vars (cs.take (k + 1)) = M.varsC (M.vars (cs.take k)) c := by
  unfold M.vars M.varsC
  rw [List.take_add_one, h]
  simp [List.foldl_append]
theorem M.varsC_snoc {g : Int} {c : List Int} {k : Nat} {z : Int} (h : c[k]? = some z) : M.varsC g (c.take (k + 1)) = if M.isLit z then max (M.varsC g (c.take k)) (M.vr z) else M.varsC g (c.take k) := by
  unfold M.varsC
  rw [List.take_add_one, h]
  simp [List.foldl_append]
theorem M.varsC_bd {g : Int} (h : 0 ≤ g ∧ g ≤ 20000) (c : List Int) : 0 ≤ M.varsC g c ∧ M.varsC g c ≤ 20000 := by
  unfold M.varsC
  induction c generalizing g with
  | nil => exact h
  | cons z c ih =>
    rw [List.foldl_cons]
    refine ih ?_
    split
    · rename_i hl
      have h1 := (M.isLit_iff z).1 hl
      have h2 : M.vr z ≤ 20000 := by
        by_cases hn : z < 0
        · rw [M.vr_of_neg hn]; omega
        · rw [M.vr_of_pos hn]; omega
      have h3 := M.vr_nonneg z
      omega
    · exact h
theorem M.vars_bd (cs : List (List Int)) : 0 ≤ M.vars cs ∧ M.vars cs ≤ 20000 := by
  have : ∀ (cs : List (List Int)) (g : Int), 0 ≤ g ∧ g ≤ 20000 → 0 ≤ cs.foldl M.varsC g ∧ cs.foldl M.varsC g ≤ 20000 := by
    intro cs
    induction cs with
    | nil => intro g h; exact h
    | cons c cs ih => intro g h; exact ih _ (M.varsC_bd h c)
  exact this cs 0 (by omega)
end Go.Proofs.YtgpifbhfnbkgoaaDoor
