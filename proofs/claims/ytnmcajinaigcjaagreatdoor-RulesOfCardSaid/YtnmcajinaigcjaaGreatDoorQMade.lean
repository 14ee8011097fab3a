/- Records, bits and lists of them that a text has just laid, read as lists. -/
import Derived.Test.YtnmcajinaigcjaaGreatDoorQFits
import Derived.Test.YtnmcajinaigcjaaGreatDoorQFree
import Derived.Test.YtnmcajinaigcjaaGreatDoorQBools
import Derived.Test.YtnmcajinaigcjaaGreatDoorQBig
namespace Go.Proofs.YtnmcajinaigcjaaGreatDoor
open Go.RowKit
open Q (It Ver Tm Sp Rc Dm)

/-- a record of a name, a number, and needs -/
def rcN (nm : ByteArray) (n : Int) (ds : List Sp) : Rc := ⟨⟨#[]⟩, ⟨#[]⟩, nm, ⟨#[]⟩, ⟨0, [], []⟩, ⟨#[]⟩, n, 0, ds, [], []⟩
theorem toList_nil : (⟨#[]⟩ : ByteArray).toList = [] := by rw [ByteArray.toList_eq]
theorem toList_star : (⟨#[42]⟩ : ByteArray).toList = [42] := by rw [ByteArray.toList_eq]
theorem mt_free (nm : ByteArray) (r : Rc) : Q.mt (freeSp nm) r = (nm.toList == r.name.toList) := by
  unfold Q.mt freeSp Q.has Q.sat
  simp
theorem nilS {w : World} : RS RSp 5 w [.slice none 0 0] [] ∧ RFt w [.slice none 0 0] [] := ⟨⟨none, 0, rfl, ⟨Nat.le_refl _, fun _ => rfl⟩, sl_nil⟩, ⟨none, 0, rfl, ⟨Nat.le_refl _, fun _ => rfl⟩, ⟨fun h => by simp at h, by simp⟩⟩⟩
theorem nilR {w : World} : RS (RS RIt 2) 1 w [.slice none 0 0] [] := ⟨none, 0, rfl, ⟨Nat.le_refl _, fun _ => rfl⟩, sl_nil⟩
theorem rrc (w : World) (nm : ByteArray) (hnm : SzS nm) (n : Int) (hn : I64 n) (ds : List Sp) (d : Value) (hd : RS RSp 5 w [d] ds) :
    RRc w [.string ⟨#[]⟩, .string ⟨#[]⟩, .string nm, .string ⟨#[]⟩, .int .i64 0, .slice none 0 0, .slice none 0 0, .string ⟨#[]⟩, .int .i64 n, .int .i64 0, d, .slice none 0 0, .slice none 0 0] (rcN nm n ds) :=
  ⟨_, _, _, _, _, _, rfl, Nat.zero_le _, Nat.zero_le _, hnm, Nat.zero_le _, Nat.zero_le _, hn, (by show -9223372036854775808 ≤ (0 : Int) ∧ (0 : Int) ≤ 9223372036854775807; omega), ⟨_, _, rfl, (by show -9223372036854775808 ≤ (0 : Int) ∧ (0 : Int) ≤ 9223372036854775807; omega), nilR, nilR⟩, hd, nilS.1, nilS.2⟩
/-- a slice whose cells were just laid -/
theorem sl_made {α : Type} {R : Rd α} {k : Nat} (W : World) (xs : List α) (uss : List (List Value)) (t : TypeId) (n : Nat) (hn : W.heap.size = n) (cs : Array Value) (hcs : cs = uss.flatten.toArray) (hl : xs.length = uss.length) (hx : xs.length ≤ 5864062014805)
    (h : ∀ (i : Nat) x us, xs[i]? = some x → uss[i]? = some us → us.length = k ∧ R (W.alloc (.cells cs t)) us x) (hk : ∀ us ∈ uss, us.length = k) : Sl R k (W.alloc (.cells cs t)) (some ⟨n, 0, none⟩) xs := by
  subst hn
  refine ⟨fun _ => ⟨_, 0, rfl, by simp, fun i x hi => ?_⟩, hx⟩
  have hil : i < uss.length := by have := (List.getElem?_eq_some_iff.1 hi).1; omega
  obtain ⟨h1, h2⟩ := h i x uss[i] hi (List.getElem?_eq_getElem hil)
  refine ⟨uss[i], h1, fun j hj => ?_, h2⟩
  rw [cell_of_cells (heap_alloc_new W _), hcs, Nat.zero_add]
  simp only [List.getElem?_toArray]
  have key : ∀ (uss : List (List Value)) (i : Nat) (hi : i < uss.length), (∀ us ∈ uss, us.length = k) → uss.flatten[i * k + j]? = (uss[i])[j]? := by
    intro uss
    induction uss with
    | nil => intro i hi; simp at hi
    | cons u l ih =>
      intro i hi hk
      have hu := hk u (List.mem_cons_self ..)
      cases i with
      | zero => simp only [List.flatten_cons, Nat.zero_mul, Nat.zero_add, List.getElem_cons_zero]; rw [List.getElem?_append_left (by omega)]
      | succ i =>
        simp only [List.flatten_cons, List.getElem_cons_succ]
        rw [List.getElem?_append_right (by rw [Nat.add_mul]; omega), ← ih i (by simpa using hi) (fun us h => hk us (List.mem_cons_of_mem _ h))]
        congr 1
        rw [Nat.add_mul]; omega
  exact key uss i hil hk
theorem bools_made (W : World) (xs : List Bool) (t : TypeId) (n : Nat) (hn : W.heap.size = n) (cs : Array Value) (hcs : cs = (xs.map Value.bool).toArray) (hx : xs.length ≤ 140737488351232) : Bools (W.alloc (.cells cs t)) (some ⟨n, 0, none⟩) xs := by
  subst hn
  refine ⟨fun _ => ⟨_, 0, rfl, by simp, fun i x hi => ?_⟩, hx⟩
  rw [cell_of_cells (heap_alloc_new W _), hcs]
  simp [hi]
end Go.Proofs.YtnmcajinaigcjaaGreatDoor
