/- Contracts of rules.fits. -/
import Derived.Test.YthbchbpjfdpkjaaGreatDoorQHolds2
namespace Go.Proofs.YthbchbpjfdpkjaaGreatDoor
open Go.RowKit
open Q (It Ver Tm Sp Rc Dm)

theorem Sl.cellsSp {w : World} {a : Option Addr} {xs : List Sp} (h : Sl RSp 5 w a xs) {i : Nat} {s : Sp} (hx : xs[i]? = some s) :
    ∃ b off ra rc, a = some ⟨b, off, none⟩ ∧ b < w.heap.size ∧ (w.cell? ⟨b, off + i * 5, none⟩ = some (.string s.chan) ∧ w.cell? ⟨b, off + i * 5 + 1, none⟩ = some (.string s.name) ∧ w.cell? ⟨b, off + i * 5 + 2, none⟩ = some (.slice ra s.rows.length rc) ∧ w.cell? ⟨b, off + i * 5 + 3, none⟩ = some (.string s.build) ∧ w.cell? ⟨b, off + i * 5 + 4, none⟩ = some (.int .i64 s.num)) ∧ SpAt w s ra rc := by
  obtain ⟨b, off, e, hlt, hc⟩ := h.addr (by have := (List.getElem?_eq_some_iff.1 hx).1; omega)
  obtain ⟨us, u1, u2, u3⟩ := hc i s hx
  obtain ⟨ra, rc, u5, u6⟩ := u3.at
  rw [u5] at u2
  exact ⟨b, off, ra, rc, e, hlt, ⟨by simpa using u2 0 (by omega), by simpa using u2 1 (by omega), by simpa using u2 2 (by omega), by simpa using u2 3 (by omega), by simpa using u2 4 (by omega)⟩, u6⟩
theorem i64_1 : I64 1 := by unfold I64; omega
theorem i64_3 : I64 3 := by unfold I64; omega
theorem all_snoc {α : Type} {p : α → Bool} {l : List α} {k : Nat} {x : α} (h : l[k]? = some x) (h0 : (l.take k).all p = true) (hx : p x = true) : (l.take (k + 1)).all p = true := by
  rw [List.take_add_one, h, List.all_append, h0]; simp [hx]
theorem all_miss {α : Type} {p : α → Bool} {l : List α} {k : Nat} {x : α} (h : l[k]? = some x) (hx : p x = false) : l.all p = false := List.all_eq_false.2 ⟨x, List.mem_of_getElem? h, by simp [hx]⟩
end Go.Proofs.YthbchbpjfdpkjaaGreatDoor
