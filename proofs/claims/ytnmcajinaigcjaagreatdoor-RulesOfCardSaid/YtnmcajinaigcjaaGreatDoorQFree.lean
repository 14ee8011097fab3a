/- The contract of haversackref09.Free. -/
import Derived.Test.YtnmcajinaigcjaaGreatDoorQMatch
namespace Go.Proofs.YtnmcajinaigcjaaGreatDoor
open Go.RowKit
open Q (It Ver Tm Sp Rc Dm)

/-- the spec of a name alone -/
def freeSp (nm : ByteArray) : Sp := ⟨⟨#[]⟩, nm, [[⟨⟨#[42]⟩, ⟨0, [], []⟩⟩]], ⟨#[]⟩, -1⟩
theorem freeRows (W : World) (n : Nat) (t t' : TypeId) (h : W.heap.size = n) : Sl (RS RTm 4) 1 ((W.alloc (Obj.cells #[.string ⟨#[42]⟩, .int .i64 0, .slice none 0 0, .slice none 0 0] t)).alloc (Obj.cells #[.slice (some ⟨n, 0, none⟩) 1 1] t')) (some ⟨n + 1, 0, none⟩) [[⟨⟨#[42]⟩, ⟨0, [], []⟩⟩]] := by
  subst h
  refine ⟨fun _ => ⟨_, 0, rfl, by simp, fun i x hx => ?_⟩, by simp⟩
  match i, hx with
  | 0, hx =>
    simp at hx; subst hx
    refine ⟨[.slice (some ⟨W.heap.size, 0, none⟩) 1 1], rfl, fun j hj => ?_, _, _, rfl, ⟨Nat.le_refl _, fun e => by cases e⟩, fun _ => ⟨_, 0, rfl, by simp; omega, fun i x hx => ?_⟩, by simp⟩
    · obtain rfl : j = 0 := by omega
      simp
    · match i, hx with
      | 0, hx =>
        simp at hx; subst hx
        refine ⟨[.string ⟨#[42]⟩, .int .i64 0, .slice none 0 0, .slice none 0 0], rfl, fun j hj => ?_, _, rfl, (by unfold SzS; decide), .slice none 0 0, .slice none 0 0, rfl, by unfold I64; simp, ⟨none, 0, rfl, ⟨Nat.le_refl _, fun _ => rfl⟩, sl_nil⟩, ⟨none, 0, rfl, ⟨Nat.le_refl _, fun _ => rfl⟩, sl_nil⟩⟩
        have : j = 0 ∨ j = 1 ∨ j = 2 ∨ j = 3 := by omega
        rcases this with rfl | rfl | rfl | rfl <;> simp
set_option maxHeartbeats 1000000 in
theorem free_any (nm : ByteArray) (w : World) :
    Calls Tryz.prog 22 #[.string nm] w fun e w' => ∃ ra, e = .returned (.agg #[.string ⟨#[]⟩, .string nm, .slice ra 1 1, .string ⟨#[]⟩, .int .i64 (-1)]) ∧ SpAt w' (freeSp nm) ra 1 ∧ Below w.heap.size w w' := by
  go_enter Tryz.func22, Tryz.ntmps22
  go_wp2
  refine bodyPost_ret (v := .agg #[.string ⟨#[]⟩, .string nm, .slice (some ⟨w.heap.size + 1 + 1, 0, none⟩) 1 1, .string ⟨#[]⟩, .int .i64 (-1)]) (by simp [results, Tryz.results22, go_sem]) rfl ⟨_, rfl, ⟨freeRows _ _ _ _ (by simp), (by show (0 : Nat) ≤ _; omega), (by show -9223372036854775808 ≤ (-1 : Int) ∧ (-1 : Int) ≤ 9223372036854775807; omega)⟩, (((Below.refl _ _).alloc (Nat.le_refl _) _).alloc (by simp) _).alloc (by simp; omega) _⟩
end Go.Proofs.YtnmcajinaigcjaaGreatDoor
