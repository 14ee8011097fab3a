/- haversacklaw14.alive: the chapter's examples hold. -/
import Derived.Test.YtdppmmimemmedaaDoorProp
import Derived.Test.YtdppmmimemmedaaDoorTrueLaw
namespace Go.Proofs.YtdppmmimemmedaaDoor
open Go.RowKit Go.Shelf

theorem Ints.three4 (w : World) (x y z : Int) (hx : I64 x) (hy : I64 y) (hz : I64 z) (e : TypeId) : Ints (w.alloc (.cells #[.int .i64 x, .int .i64 y, .int .i64 z] e)) (some ⟨w.heap.size, 0, none⟩) [x, y, z] := by
  refine ⟨fun _ => ⟨_, 0, rfl, by simp, fun i u hu => ?_⟩, fun u hu => by simp at hu; rcases hu with rfl | rfl | rfl <;> assumption, by simp⟩
  match i, hu with
  | 0, hu => simp at hu; subst hu; simp
  | 1, hu => simp at hu; subst hu; simp
  | 2, hu => simp at hu; subst hu; simp
theorem i64_small4 {z : Int} (h : -100000 ≤ z ∧ z ≤ 100000) : I64 z := ⟨by omega, by omega⟩
theorem alive14_res {l : List Int} {ok : Bool} (h : M.PropRes [[-1, 2], [-2, 3]] [1] l ok) : l = [1, 2, 3] ∧ ok = true := by
  have d1 : M.Der [[-1, 2], [-2, 3]] [1] 1 := (M.der_closed _ _).1 1 (by simp) (by decide)
  have d2 : M.Der [[-1, 2], [-2, 3]] [1] 2 := (M.der_closed _ _).2 [-1, 2] (by simp) 2 (by simp) (by decide) fun k hk _ hne => by
    simp at hk
    rcases hk with rfl | rfl
    · exact d1
    · exact absurd rfl hne
  have d3 : M.Der [[-1, 2], [-2, 3]] [1] 3 := (M.der_closed _ _).2 [-2, 3] (by simp) 3 (by simp) (by decide) fun k hk _ hne => by
    simp at hk
    rcases hk with rfl | rfl
    · exact d2
    · exact absurd rfl hne
  refine h.unique (M.PropRes.of_closed ((M.chain_iff _).1 (by decide)) ?_ (by decide) (fun x hx _ => by simp at hx; subst hx; simp) ?_)
  · intro x hx
    simp at hx
    rcases hx with rfl | rfl | rfl
    · exact d1
    · exact d2
    · exact d3
  · intro c hc
    simp at hc
    rcases hc with rfl | rfl
    · exact .inl ⟨2, by simp, by simp⟩
    · exact .inl ⟨3, by simp, by simp⟩
theorem cell_alloc_new (W : World) (cur : Array Value) (e : TypeId) {n i : Nat} {v : Value} (hn : W.heap.size = n) (h : cur[i]? = some v) : (W.alloc (.cells cur e)).cell? ⟨n, i, none⟩ = some v := by
  subst hn
  rw [cell_of_cells (W.alloc_heap_new (.cells cur e))]; exact h
/-- two clauses of two literals in new memory -/
theorem Cls.made22 (w : World) (p q r s : Int) (hp : I64 p) (hq : I64 q) (hr : I64 r) (hs : I64 s) (t : TypeId) (t2 : TypeId) :
    Cls (((w.alloc (.cells #[.int .i64 p, .int .i64 q] t)).alloc (.cells #[.int .i64 r, .int .i64 s] t)).alloc (.cells #[.slice (some ⟨w.heap.size, 0, none⟩) 2 2, .slice (some ⟨w.heap.size + 1, 0, none⟩) 2 2] t2)) (some ⟨w.heap.size + 1 + 1, 0, none⟩) [[p, q], [r, s]] := by
  refine ⟨fun _ => ⟨_, 0, rfl, by simp, fun i c hc => ?_⟩, by simp⟩
  match i, hc with
  | 0, hc => simp at hc; subst hc; exact ⟨_, 2, cell_alloc_new _ _ _ (by simp) rfl, ((Ints.two w p q hp hq t).alloc _).alloc _⟩
  | 1, hc => simp at hc; subst hc; exact ⟨_, 2, cell_alloc_new _ _ _ (by simp) rfl, by have := ((Ints.two (w.alloc (.cells #[.int .i64 p, .int .i64 q] t)) r s hr hs t).alloc (.cells #[.slice (some ⟨w.heap.size, 0, none⟩) 2 2, .slice (some ⟨w.heap.size + 1, 0, none⟩) 2 2] t2)); simpa using this⟩
set_option maxHeartbeats 2000000 in
theorem alive14 : Alive14 := by
  intro w
  have hn := norm_ok (some ⟨w.heap.size, 0, none⟩) 3 [3, -1, 3] (w.alloc (.cells #[.int .i64 3, .int .i64 (-1), .int .i64 3] 3)) (Ints.three4 _ _ _ _ (i64_small4 (by omega)) (i64_small4 (by omega)) (i64_small4 (by omega)) _) (by decide)
  rw [show M.norm [3, -1, 3] = [-1, 3] by decide] at hn
  have HN := Lib.hid hn
  clear hn
  go_enter Tryd.func26, Tryd.ntmps26
  go_wp2_with fail
  refine HN.out.mono ?_
  rintro e W1 ⟨a1, c1, rfl, h1, _, _, hb1, _⟩
  have hb1' : Below w.heap.size w W1 := (below_alloc (Below.refl _ _) _).trans (hb1.mono (by simp))
  have HI1 := Lib.hid h1
  have HB1 := Lib.hid hb1'
  clear h1 hb1 hb1' HN
  have hp := prop_any (some ⟨W1.heap.size + 1 + 1, 0, none⟩) 2 [[-1, 2], [-2, 3]] (some ⟨W1.heap.size + 1 + 1 + 1, 0, none⟩) 1 [1] ((((W1.alloc (.cells #[.int .i64 (-1), .int .i64 2] 3)).alloc (.cells #[.int .i64 (-2), .int .i64 3] 3)).alloc (.cells #[.slice (some ⟨W1.heap.size, 0, none⟩) 2 2, .slice (some ⟨W1.heap.size + 1, 0, none⟩) 2 2] 58)).alloc (.cells #[.int .i64 1] 3))
    ((Cls.made22 W1 (-1) 2 (-2) 3 (i64_small4 (by omega)) (i64_small4 (by omega)) (i64_small4 (by omega)) (i64_small4 (by omega)) _ _).below (below_alloc (Below.refl _ _) _)) (by simp) (by have := Ints.one ((((W1.alloc (.cells #[.int .i64 (-1), .int .i64 2] 3)).alloc (.cells #[.int .i64 (-2), .int .i64 3] 3)).alloc (.cells #[.slice (some ⟨W1.heap.size, 0, none⟩) 2 2, .slice (some ⟨W1.heap.size + 1, 0, none⟩) 2 2] 58))) 1 (i64_small4 (by omega)) 3; simpa using this)
  have HP := Lib.hid hp
  clear hp
  go_wp2_with fail
  refine HP.out.mono ?_
  rintro e W2 ⟨l, ok, a2, c2, rfl, hres, h2, hb2⟩
  obtain ⟨rfl, rfl⟩ := alive14_res hres
  have hb2' : Below w.heap.size w W2 := ((below_alloc (below_alloc (below_alloc (below_alloc HB1.out _) _) _) _)).trans (hb2.mono (by have := HB1.out.size; simp; omega))
  have hb12 : Below W1.heap.size W1 W2 := ((below_alloc (below_alloc (below_alloc (below_alloc (Below.refl _ _) _) _) _) _)).trans (hb2.mono (by simp; omega))
  have HI2 := Lib.hid h2
  have HB2 := Lib.hid hb2'
  have HI1' := Lib.hid (HI1.out.below hb12)
  clear h2 hb2 hb2' hb12 HP hres
  have hs1 := sameInts_any a1 c1 [-1, 3] (some ⟨W2.heap.size, 0, none⟩) 2 [-1, 3] (W2.alloc (.cells #[.int .i64 (-1), .int .i64 3] 3)) (HI1'.out.alloc _) (Ints.two _ _ _ (i64_small4 (by omega)) (i64_small4 (by omega)) _)
  have hs1' := hs1.mono fun e w' (h : e = .returned (.bool (M.eqs [-1, 3] [-1, 3])) ∧ _) => (⟨h.1, h.2⟩ : e = .returned (.bool true) ∧ _)
  have HS1 := Lib.hid hs1'
  clear hs1 hs1'
  go_wp2_with fail
  refine HS1.out.mono ?_
  rintro e W5 ⟨rfl, q, hW5⟩
  have hb5 : Below W2.heap.size W2 W5 := by rw [hW5]; exact (below_alloc (Below.refl _ _) _).trans (bDrewN _ _ _)
  have HB5 := Lib.hid (below_next HB2.out hb5)
  have hs2 := sameInts_any a2 c2 [1, 2, 3] (some ⟨W5.heap.size, 0, none⟩) 3 [1, 2, 3] (W5.alloc (.cells #[.int .i64 1, .int .i64 2, .int .i64 3] 3)) ((HI2.out.below hb5).alloc _) (Ints.three4 _ _ _ _ (i64_small4 (by omega)) (i64_small4 (by omega)) (i64_small4 (by omega)) _)
  have hs2' := hs2.mono fun e w' (h : e = .returned (.bool (M.eqs [1, 2, 3] [1, 2, 3])) ∧ _) => (⟨h.1, h.2⟩ : e = .returned (.bool true) ∧ _)
  have HS2 := Lib.hid hs2'
  clear hs2 hs2' hb5 hW5 HS1
  go_wp2_with fail
  refine HS2.out.mono ?_
  rintro e W6 ⟨rfl, q2, hW6⟩
  have hb6 : Below W5.heap.size W5 W6 := by rw [hW6]; exact (below_alloc (Below.refl _ _) _).trans (bDrewN _ _ _)
  have HB6 := Lib.hid (below_next HB5.out hb6)
  clear hb6 hW6 HS2
  go_wp2
  go_ret
  exact ⟨rfl, HB6.out⟩
end Go.Proofs.YtdppmmimemmedaaDoor
