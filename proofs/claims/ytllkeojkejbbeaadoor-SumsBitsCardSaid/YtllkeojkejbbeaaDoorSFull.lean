/- (*sums.adder).full, over the gates. -/
import Derived.Test.YtllkeojkejbbeaaDoorSCol
import Derived.Test.YtllkeojkejbbeaaDoorMost
import Derived.Test.YtllkeojkejbbeaaDoorOr2
import Derived.Test.YtllkeojkejbbeaaDoorAnd2
namespace Go.Proofs.YtllkeojkejbbeaaDoor
open Go.RowKit Go.Shelf
variable {X : Nat → Prop} {Zb : Option (Nat × Array Value)}

def M.Small (gs : List M.G) : Prop := ∀ g ∈ gs, g.2.length ≤ 3
theorem M.Small.room {gs : List M.G} {V : Nat} (h : M.Small gs) (hV : V + gs.length ≤ 20000) : (M.gatesC V gs).length ≤ 180000 := by
  have := M.gatesC_length (V := V) h
  omega
theorem M.Small.snoc {gs : List M.G} {g : M.G} (h : M.Small gs) (hg : g.2.length ≤ 3) : M.Small (gs ++ [g]) := by
  intro g' hg'
  rcases List.mem_append.1 hg' with h1 | h1
  · exact h g' h1
  · simp at h1; subst h1; exact hg
theorem M.snoc_len (V : Nat) (gs : List M.G) (g : M.G) : V + (gs ++ [g]).length = V + gs.length + 1 := by simp; omega
section
variable {w0 w w' : World} {base p V q g : Nat} {gs gs' : List M.G} {cols : List (List Int)} {vals : List Value}
theorem AS.size (h : AS X Zb w0 base p V q g gs cols vals w) : base ≤ w.heap.size := Nat.le_trans h.hb h.kp.size
theorem AS.xor (h : AS X Zb w0 base p V q g gs cols vals w) (hs : M.Small gs) {x y : Int} (hown : M.own (V + gs.length) [x, y] = true) (hV : V + gs.length + 1 ≤ 20000) :
    Calls Tryd.prog 50 #[.pointer (some ⟨p, 0, none⟩), .int .i64 x, .int .i64 y] w fun e w' => e = .returned (.tuple #[.int .i64 ((V + gs.length + 1 : Nat) : Int), .nilIface]) ∧ AS X Zb w0 base p V q g (gs ++ [((3 : Int), [x, y])]) cols vals w' := by
  obtain ⟨a, c, hF⟩ := h.fm
  have hr := hs.room (V := V) (by omega)
  refine (xor_ok base p _ _ a c x y w hF hown (by omega) (by omega)).mono fun e w' ⟨h1, h2⟩ => ⟨h1, h.gate ?_⟩
  rw [M.snoc_len, M.gatesC_snoc]; exact h2
theorem AS.most (h : AS X Zb w0 base p V q g gs cols vals w) (hs : M.Small gs) {x y z : Int} (hown : M.own (V + gs.length) [x, y, z] = true) (hV : V + gs.length + 1 ≤ 20000) :
    Calls Tryd.prog 51 #[.pointer (some ⟨p, 0, none⟩), .int .i64 x, .int .i64 y, .int .i64 z] w fun e w' => e = .returned (.tuple #[.int .i64 ((V + gs.length + 1 : Nat) : Int), .nilIface]) ∧ AS X Zb w0 base p V q g (gs ++ [((4 : Int), [x, y, z])]) cols vals w' := by
  obtain ⟨a, c, hF⟩ := h.fm
  have hr := hs.room (V := V) (by omega)
  refine (most_ok base p _ _ a c x y z w hF hown (by omega) (by omega)).mono fun e w' ⟨h1, h2⟩ => ⟨h1, h.gate ?_⟩
  rw [M.snoc_len, M.gatesC_snoc]; exact h2
theorem AS.or0 (h : AS X Zb w0 base p V q g gs cols vals w) (hs : M.Small gs) (hV : V + gs.length + 1 ≤ 20000) :
    Calls Tryd.prog 49 #[.pointer (some ⟨p, 0, none⟩), .slice none 0 0] w fun e w' => e = .returned (.tuple #[.int .i64 ((V + gs.length + 1 : Nat) : Int), .nilIface]) ∧ AS X Zb w0 base p V q g (gs ++ [((2 : Int), ([] : List Int))]) cols vals w' := by
  obtain ⟨a, c, hF⟩ := h.fm
  have hr := hs.room (V := V) (by omega)
  refine (or_ok base p _ _ a c none 0 [] w hF h.size (Ints.nil _ _) (fun _ => rfl) (fun ad e => by simp [eff] at e) rfl (by omega) (by simp; omega)).mono fun e w' ⟨h1, h2⟩ => ⟨h1, h.gate ?_⟩
  rw [M.snoc_len, M.gatesC_snoc]; exact h2
theorem AS.and2 (h : AS X Zb w0 base p V q g gs cols vals w) (hs : M.Small gs) {x y : Int} (hown : M.own (V + gs.length) [x, y] = true) (hV : V + gs.length + 1 ≤ 20000) (b : Addr) (hz : Ints w (some b) [x, y]) (hk : TagI w (some b)) :
    Calls Tryd.prog 47 #[.pointer (some ⟨p, 0, none⟩), .slice (some b) 2 2] w fun e w' => e = .returned (.tuple #[.int .i64 ((V + gs.length + 1 : Nat) : Int), .nilIface]) ∧ AS X Zb w0 base p V q g (gs ++ [((1 : Int), [x, y])]) cols vals w' := by
  obtain ⟨a, c, hF⟩ := h.fm
  have hr := hs.room (V := V) (by omega)
  refine (and_ok base p _ _ a c (some b) 2 [x, y] w hF h.size hz hk.kept hown (by omega) (by simp; omega)).mono fun e w' ⟨h1, h2⟩ => ⟨h1, h.gate ?_⟩
  rw [M.snoc_len, M.gatesC_snoc]; exact h2
set_option maxHeartbeats 1000000 in
theorem full_walk (p q : Nat) (x y z u1 u2 u3 : Int) (w : World) (A1 A2 A3 : World → Prop) (hq : w.cell? ⟨q, 0, none⟩ = some (.pointer (some ⟨p, 0, none⟩))) (k1 : ∀ w', A1 w' → w'.cell? ⟨q, 0, none⟩ = some (.pointer (some ⟨p, 0, none⟩))) (k2 : ∀ w', A2 w' → w'.cell? ⟨q, 0, none⟩ = some (.pointer (some ⟨p, 0, none⟩)))
    (C1 : Calls Tryd.prog 50 #[.pointer (some ⟨p, 0, none⟩), .int .i64 x, .int .i64 y] w fun e w' => e = .returned (.tuple #[.int .i64 u1, .nilIface]) ∧ A1 w')
    (C2 : ∀ w1, A1 w1 → Calls Tryd.prog 50 #[.pointer (some ⟨p, 0, none⟩), .int .i64 u1, .int .i64 z] w1 fun e w' => e = .returned (.tuple #[.int .i64 u2, .nilIface]) ∧ A2 w')
    (C3 : ∀ w2, A2 w2 → Calls Tryd.prog 51 #[.pointer (some ⟨p, 0, none⟩), .int .i64 x, .int .i64 y, .int .i64 z] w2 fun e w' => e = .returned (.tuple #[.int .i64 u3, .nilIface]) ∧ A3 w') :
    Calls Tryd.prog 79 #[.pointer (some ⟨q, 0, none⟩), .int .i64 x, .int .i64 y, .int .i64 z] w fun e w' => e = .returned (.tuple #[.int .i64 u2, .int .i64 u3, .nilIface]) ∧ A3 w' := by
  have D1 := Lib.hid C1
  have D2 := Lib.hid C2
  have D3 := Lib.hid C3
  have K1 := Lib.hid k1
  have K2 := Lib.hid k2
  clear C1 C2 C3 k1 k2
  go_enter Tryd.func79, Tryd.ntmps79
  go_wp2_with fail
  refine D1.out.mono ?_
  rintro e w1 ⟨rfl, hA⟩
  have r0 := K1.out _ hA
  have E2 := Lib.hid (D2.out _ hA)
  clear hA D2
  go_wp2_with fail
  refine E2.out.mono ?_
  rintro e w2 ⟨rfl, hA⟩
  have r1 := K2.out _ hA
  have E3 := Lib.hid (D3.out _ hA)
  clear hA D3
  go_wp2_with fail
  refine E3.out.mono ?_
  rintro e w3 ⟨rfl, hA⟩
  have H3 := Lib.hid hA
  clear hA
  go_wp2
  go_ret3
  exact ⟨rfl, H3.out⟩
theorem full_any (h : AS X Zb w0 base p V q g gs cols vals w) (hs : M.Small gs) {x y z : Int} (h1 : M.own (V + gs.length) [x, y] = true) (h2 : M.own (V + gs.length + 1) [((V + gs.length + 1 : Nat) : Int), z] = true) (h3 : M.own (V + gs.length + 2) [x, y, z] = true) (hV : V + gs.length + 3 ≤ 20000) :
    Calls Tryd.prog 79 #[.pointer (some ⟨q, 0, none⟩), .int .i64 x, .int .i64 y, .int .i64 z] w fun e w' => e = .returned (.tuple #[.int .i64 ((V + gs.length + 2 : Nat) : Int), .int .i64 ((V + gs.length + 3 : Nat) : Int), .nilIface]) ∧
      AS X Zb w0 base p V q g (gs ++ [((3 : Int), [x, y])] ++ [((3 : Int), [((V + gs.length + 1 : Nat) : Int), z])] ++ [((4 : Int), [x, y, z])]) cols vals w' := by
  have e1 := M.snoc_len V gs ((3 : Int), [x, y])
  have e2 := M.snoc_len V (gs ++ [((3 : Int), [x, y])]) ((3 : Int), [((V + gs.length + 1 : Nat) : Int), z])
  rw [e1] at e2
  have hs1 := hs.snoc (g := ((3 : Int), [x, y])) (by simp)
  have hs2 := hs1.snoc (g := ((3 : Int), [((V + gs.length + 1 : Nat) : Int), z])) (by simp)
  have c1 := h.xor hs h1 (by omega)
  have c2 : ∀ w1, AS X Zb w0 base p V q g (gs ++ [((3 : Int), [x, y])]) cols vals w1 → Calls Tryd.prog 50 #[.pointer (some ⟨p, 0, none⟩), .int .i64 ((V + gs.length + 1 : Nat) : Int), .int .i64 z] w1 fun e w' => e = .returned (.tuple #[.int .i64 ((V + gs.length + 2 : Nat) : Int), .nilIface]) ∧ AS X Zb w0 base p V q g (gs ++ [((3 : Int), [x, y])] ++ [((3 : Int), [((V + gs.length + 1 : Nat) : Int), z])]) cols vals w' := fun w1 hA => by
    have := hA.xor hs1 (x := ((V + gs.length + 1 : Nat) : Int)) (y := z) (by rw [e1]; exact h2) (by rw [e1]; omega)
    rw [e1] at this; exact this
  have c3 : ∀ w2, AS X Zb w0 base p V q g (gs ++ [((3 : Int), [x, y])] ++ [((3 : Int), [((V + gs.length + 1 : Nat) : Int), z])]) cols vals w2 → Calls Tryd.prog 51 #[.pointer (some ⟨p, 0, none⟩), .int .i64 x, .int .i64 y, .int .i64 z] w2 fun e w' => e = .returned (.tuple #[.int .i64 ((V + gs.length + 3 : Nat) : Int), .nilIface]) ∧ AS X Zb w0 base p V q g (gs ++ [((3 : Int), [x, y])] ++ [((3 : Int), [((V + gs.length + 1 : Nat) : Int), z])] ++ [((4 : Int), [x, y, z])]) cols vals w' := fun w2 hA => by
    have := hA.most hs2 (x := x) (y := y) (z := z) (by rw [e2]; exact h3) (by rw [e2]; omega)
    rw [e2] at this; exact this
  exact full_walk p q x y z _ _ _ w _ _ _ h.cells.1 (fun w' h' => h'.cells.1) (fun w' h' => h'.cells.1) c1 c2 c3
end
end Go.Proofs.YtllkeojkejbbeaaDoor
