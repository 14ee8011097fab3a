/- What the listed variables give: the sentinels, at different places. -/
import Derived.Test.YtgpifbhfnbkgoaaDoorErrs
import Derived.Test.YtgpifbhfnbkgoaaDoorRows
namespace Go.Proofs.YtgpifbhfnbkgoaaDoor
open Go.RowKit

theorem Tryd.star : "*errors.errorString" = "*" ++ "errors.errorString" := by decide
theorem Tryd.rowErr (u : TypeId) (h : Tryd.prog.typeName? 3 u = some "*errors.errorString") : u = 208 :=
  typeName_ptr_named (nm := "errors.errorString") (by rw [← Tryd.star]; kernel_rfl) (by kernel_rfl) (by decide) u (by rw [← Tryd.star]; exact h)
theorem laid_plain {P : Program} {w : World} {l : List (String × DataW Unit)} (h : laidMetH P l w) (hf : l.filter (fun x => x.2.handleName?.isSome) = []) : laidMet P l w := by
  unfold laidMetH at h; rw [hf] at h; exact h
def textOf : DataW Unit → List UInt8
  | .iface _ (.ptr (.agg [.lit (.string s)])) => s
  | _ => []
def named (l : List (String × DataW Unit)) : List (String × List UInt8) := l.map fun x => (x.1, textOf x.2)
theorem var_cell {W : World} {n : String} {g : Nat} {v : Value} (hg : Tryd.prog.globalNamed n = some g) (h : W.var? Tryd.prog n = some #[v]) : W.cell? ⟨g, 0, none⟩ = some v := by
  simpa using World.var?_cell hg h 0
/-- the sentinels of a list -/
theorem errs_many {W : World} (l : List (String × DataW Unit)) (h : laidMetH Tryd.prog l W) (hf : l.filter (fun x => x.2.handleName?.isSome) = []) (hl : l = (named l).map fun n => (n.1, DataW.iface "*errors.errorString" (.ptr (.agg [.lit (.string n.2)]))))
    (hg : ((named l).all fun n => match Tryd.prog.globalNamed n.1 with | some g => (Tryd.prog.globals[g]?).map (·.type) == some 36 | none => false) = true) :
    ∃ A : Nat → Addr, (∀ i j, i < l.length → j < l.length → A i = A j → i = j) ∧ ∀ i n g, (named l)[i]? = some n → Tryd.prog.globalNamed n.1 = some g → ErrIn W g (A i) := by
  obtain ⟨ps, h1, h2, h3⟩ := laid_plain h hf
  rw [hl] at h1
  obtain ⟨ads, a1, a2, _, a4⟩ := laid_many Tryd.underlying36 Tryd.rowErr Tryd.underlying208 Tryd.underlying232 rfl rfl Tryd.underlying9 (by kernel_rfl) (by kernel_rfl) (named l) ps h1 h2 h3 (fun n hn g hgn => by
    have := List.all_eq_true.1 hg n hn
    rw [hgn] at this
    simpa using this)
  have hlen : ads.length = l.length := by rw [a1]; simp [named]
  refine ⟨fun i => ads.getD i ⟨0, 0, none⟩, fun i j hi hj e => ?_, fun i n g hn hgn => ?_⟩
  · simp only [List.getD_eq_getElem?_getD, List.getElem?_eq_getElem (show i < ads.length by omega), List.getElem?_eq_getElem (show j < ads.length by omega), Option.getD_some] at e
    exact (List.getElem_inj a2).1 e
  · have hi : i < ads.length := by
      rcases Nat.lt_or_ge i (named l).length with h' | h'
      · omega
      · rw [List.getElem?_eq_none h'] at hn; cases hn
    have hai : ads[i]? = some (ads.getD i ⟨0, 0, none⟩) := by simp [List.getElem?_eq_getElem hi]
    obtain ⟨b1, b2⟩ := a4 i n _ hn hai
    exact ⟨var_cell hgn b1, b2⟩
end Go.Proofs.YtgpifbhfnbkgoaaDoor
