/- slices.SortFunc's family with a comparison that is a method value: what is asked of the comparison, and the family's two recurring steps, told once. No program in sight. -/
import Derived.Shelf.SlSortCmp.Kit1
import Derived.Deep.LoopGhost
namespace Go.Proofs.YtnmcajinaigcjaaGreatDoor
open Go Go.Shelf Go.RowKit Go.Lib Go.Sort
namespace Ms
variable {P : Program} {ρ : Ren} {α : Type} [Inhabited α]

variable {enc : α → Value} {w0 W : World} {blk off : Nat} {dk d0 : Array α}
/-- what is asked of the method: it answers by one plain function, in every world of the sort; it may draw and make memory -/
def CmpM (P : Program) (g : Nat) (rv : Value) (enc : α → Value) (cf : α → α → Int) (blk off size : Nat) (w : World) : Prop :=
  ∀ (m : Nat) (os : Array Obj) (dk : Array α), dk.size = size → ∀ x y : α,
    Calls P g #[rv, enc x, enc y] (sortWorld enc w blk off m dk os) fun e w' => e = .returned (.int .i64 (cf x y)) ∧ ∃ q os', w' = grow ((sortWorld enc w blk off m dk os).drewN q) os'
theorem cmpM {g : Nat} {rv : Value} {cf : α → α → Int} {size : Nat} (h : SW enc w0 blk off dk W) (hC : CmpM P g rv enc cf blk off size w0) (hs : dk.size = size) (x y : α) (n : Nat) (os : Array Obj) :
    Calls P g #[rv, enc x, enc y] (grow (W.drewN n) os) fun e w' => e = .returned (.int .i64 (cf x y)) ∧ ∃ q os', w' = grow ((grow (W.drewN n) os).drewN q) os' := by
  obtain ⟨m, os0, hw⟩ := h.grown n os
  rw [hw]
  exact hC m os0 dk hs x y
/-- the test of two places: numbers, cells, the call and its answer -/
theorem look {g : Nat} {rv : Value} {cf : α → α → Int} {D : Int} (S : Aside (SW enc w0 blk off dk W)) (HC : Aside (CmpM P g rv enc cf blk off d0.size w0)) (R : Row1 enc w0 blk off d0) (hs : dk.size = d0.size) (hD : D = dk.size) (ei ej : Int) (ni nj : Nat)
    (hei : ei = ni) (hej : ej = nj) (hi : ni < dk.size) (hj : nj < dk.size) (hsz : dk.size < 4611686018427387904) :
    ∃ (iN jN : Nat) (x y : α) (q : Bool), ei.toNat = iN ∧ 0 ≤ ei ∧ ei < D ∧ IntKind.i64.wrap ei = ei ∧ ej.toNat = jN ∧ 0 ≤ ej ∧ ej < D ∧ IntKind.i64.wrap ej = ej ∧
      (∀ n os, (grow (W.drewN n) os).cell? ⟨blk, off + iN, none⟩ = some (enc x)) ∧ (∀ n os, (grow (W.drewN n) os).cell? ⟨blk, off + jN, none⟩ = some (enc y)) ∧
      (∀ n os, Calls P g #[rv, enc x, enc y] (grow (W.drewN n) os) fun e w' => e = .returned (.int .i64 (cf x y)) ∧ ∃ q os', w' = grow ((grow (W.drewN n) os).drewN q) os') ∧
      decide (cf x y < 0) = q ∧ ltOf cf dk[ni]! dk[nj]! = q := by
  subst hei hej hD
  exact ⟨ni, nj, dk[ni]!, dk[nj]!, _, by omega, by omega, by omega, by rw [IntKind.wrap_i64]; omega, by omega, by omega, by omega, by rw [IntKind.wrap_i64]; omega,
    fun n os => S.out.cl R hs ni hi n os, fun n os => S.out.cl R hs nj hj n os, fun n os => cmpM S.out HC.out hs _ _ n os, rfl, rfl⟩
/-- the exchange of two places -/
theorem turn {D : Int} (S : Aside (SW enc w0 blk off dk W)) (R : Row1 enc w0 blk off d0) (hs : dk.size = d0.size) (hD : D = dk.size) (ei ej : Int) (ni nj : Nat)
    (hei : ei = ni) (hej : ej = nj) (hi : ni < dk.size) (hj : nj < dk.size) (hsz : dk.size < 4611686018427387904) :
    ∃ (iN jN : Nat) (x y : α) (u : Value), ei.toNat = iN ∧ 0 ≤ ei ∧ ei < D ∧ IntKind.i64.wrap ei = ei ∧ ej.toNat = jN ∧ 0 ≤ ej ∧ ej < D ∧ IntKind.i64.wrap ej = ej ∧
      W.cell? ⟨blk, off + iN, none⟩ = some (enc x) ∧ W.cell? ⟨blk, off + jN, none⟩ = some (enc y) ∧ W.frozen? ⟨blk, off + iN, none⟩ = false ∧ W.frozen? ⟨blk, off + jN, none⟩ = false ∧
      (W.setCell ⟨blk, off + iN, none⟩ (enc y)).cell? ⟨blk, off + jN, none⟩ = some u ∧
      Aside (SW enc w0 blk off (swp dk ni nj) ((W.setCell ⟨blk, off + iN, none⟩ (enc y)).setCell ⟨blk, off + jN, none⟩ (enc x)).drew) := by
  subst hei hej hD
  obtain ⟨u, hu⟩ := S.out.c2 R hs ni nj hi hj (enc dk[nj]!)
  exact ⟨ni, nj, dk[ni]!, dk[nj]!, u, by omega, by omega, by omega, by rw [IntKind.wrap_i64]; omega, by omega, by omega, by omega, by rw [IntKind.wrap_i64]; omega,
    S.out.c1 R hs ni hi, S.out.c1 R hs nj hj, S.out.f1 R hs ni hi, S.out.f1 R hs nj hj, hu, S.out.swapped R ni nj hi hj⟩
end Ms
end Go.Proofs.YtnmcajinaigcjaaGreatDoor
