/- Gates over literals that are none of the formula's: the error, and nothing else. -/
import Derived.Test.YtgpifbhfnbkgoaaDoorMost
import Derived.Test.YtgpifbhfnbkgoaaDoorOr2
import Derived.Test.YtgpifbhfnbkgoaaDoorAdd
import Derived.Test.YtgpifbhfnbkgoaaDoorErrs
namespace Go.Proofs.YtgpifbhfnbkgoaaDoor
open Go.RowKit Go.Shelf
variable {X : Nat → Prop}

/-- what a gate hands back that is refused -/
def GateBad (w : World) (v : Value) (e : Ending) (w' : World) : Prop := e = .returned (.tuple #[.int .i64 0, v]) ∧ Below w.heap.size w w'
set_option maxHeartbeats 1000000 in
theorem gate_bad (base p vars : Nat) (cs : List (List Int)) (a : Option Addr) (c : Nat) (b : Option Addr) (d : Nat) (zs : List Int) (n : Int) (fn : Value) (v : Value) (w : World) (hF : Fm X w base p vars cs a c) (hz : Ints w b zs)
    (hown : M.own vars zs = false) (hg : w.cell? ⟨9, 0, none⟩ = some v) :
    Calls Tryd.prog 59 #[.pointer (some ⟨p, 0, none⟩), .slice b zs.length d, .int .i64 n, fn] w (GateBad w v) := by
  have hhas := has_any p vars b d zs w hF.cell0 hF.vars hz
  rw [hown] at hhas
  have HH := Lib.hid hhas
  clear hhas hown
  go_enter Tryd.func59, Tryd.ntmps59
  go_wp2_with (go_at_call 40; refine HH.out.mono ?_; rintro e w' ⟨rfl, rfl⟩)
  go_quiet (fail)
  go_wp2
  go_ret2
  exact ⟨rfl, bDrewN _ _ _⟩
theorem cell_below {w W : World} {g : Nat} {v : Value} (h : w.cell? ⟨g, 0, none⟩ = some v) (hb : Below w.heap.size w W) : W.cell? ⟨g, 0, none⟩ = some v :=
  (hb.cell (p := ⟨g, 0, none⟩) (World.block_lt_of_cell? w _ h)).trans h
theorem GateBad.trans {w W : World} {v : Value} {e : Ending} {w' : World} (hb : Below w.heap.size w W) (h : GateBad W v e w') : GateBad w v e w' := ⟨h.1, below_next hb h.2⟩
set_option maxHeartbeats 1000000 in
theorem and_bad (base p vars : Nat) (cs : List (List Int)) (a : Option Addr) (c : Nat) (b : Option Addr) (d : Nat) (zs : List Int) (v : Value) (w : World) (hF : Fm X w base p vars cs a c) (hz : Ints w b zs)
    (hown : M.own vars zs = false) (hg : w.cell? ⟨9, 0, none⟩ = some v) :
    Calls Tryd.prog 32 #[.pointer (some ⟨p, 0, none⟩), .slice b zs.length d] w (GateBad w v) := by
  have hlen := hz.len
  have HF := Lib.hid hF
  have HZ := Lib.hid hz
  have HOW := Lib.hid hown
  have HG := Lib.hid hg
  clear hF hz hown hg
  go_enter Tryd.func32, Tryd.ntmps32
  go_wp2_with fail
  have hbW : Below w.heap.size w ((w.alloc (.cells #[.pointer (some ⟨p, 0, none⟩)] 24)).alloc (.cells #[.slice b zs.length d] 30)) := below_alloc (below_alloc (Below.refl _ _) _) _
  generalize hgen : ((w.alloc (.cells #[.pointer (some ⟨p, 0, none⟩)] 24)).alloc (.cells #[.slice b zs.length d] 30)) = W at *
  clear hgen
  refine (gate_bad base p vars cs a c b d zs _ _ v W (HF.out.below hbW) (HZ.out.below hbW) HOW.out (cell_below HG.out hbW)).mono ?_
  rintro e w2 hp
  obtain ⟨rfl, hb2⟩ := hp
  have HB2 := Lib.hid (below_next hbW hb2)
  clear hbW hb2 HF HZ HG
  go_wp2
  go_ret2
  exact ⟨rfl, HB2.out⟩
set_option maxHeartbeats 1000000 in
theorem or_bad (base p vars : Nat) (cs : List (List Int)) (a : Option Addr) (c : Nat) (b : Option Addr) (d : Nat) (zs : List Int) (v : Value) (w : World) (hF : Fm X w base p vars cs a c) (hz : Ints w b zs)
    (hown : M.own vars zs = false) (hg : w.cell? ⟨9, 0, none⟩ = some v) :
    Calls Tryd.prog 34 #[.pointer (some ⟨p, 0, none⟩), .slice b zs.length d] w (GateBad w v) := by
  have hlen := hz.len
  have HF := Lib.hid hF
  have HZ := Lib.hid hz
  have HOW := Lib.hid hown
  have HG := Lib.hid hg
  clear hF hz hown hg
  go_enter Tryd.func34, Tryd.ntmps34
  go_wp2_with fail
  have hbW : Below w.heap.size w ((w.alloc (.cells #[.pointer (some ⟨p, 0, none⟩)] 24)).alloc (.cells #[.slice b zs.length d] 30)) := below_alloc (below_alloc (Below.refl _ _) _) _
  generalize hgen : ((w.alloc (.cells #[.pointer (some ⟨p, 0, none⟩)] 24)).alloc (.cells #[.slice b zs.length d] 30)) = W at *
  clear hgen
  refine (gate_bad base p vars cs a c b d zs _ _ v W (HF.out.below hbW) (HZ.out.below hbW) HOW.out (cell_below HG.out hbW)).mono ?_
  rintro e w2 hp
  obtain ⟨rfl, hb2⟩ := hp
  have HB2 := Lib.hid (below_next hbW hb2)
  clear hbW hb2 HF HZ HG
  go_wp2
  go_ret2
  exact ⟨rfl, HB2.out⟩
theorem Ints.three3 (w : World) (x y z : Int) (hx : I64 x) (hy : I64 y) (hz : I64 z) (e : TypeId) : Ints (w.alloc (.cells #[.int .i64 x, .int .i64 y, .int .i64 z] e)) (some ⟨w.heap.size, 0, none⟩) [x, y, z] := by
  refine ⟨fun _ => ⟨_, 0, rfl, by simp, fun i u hu => ?_⟩, fun u hu => by simp at hu; rcases hu with rfl | rfl | rfl <;> assumption, by simp⟩
  match i, hu with
  | 0, hu => simp at hu; subst hu; simp
  | 1, hu => simp at hu; subst hu; simp
  | 2, hu => simp at hu; subst hu; simp
set_option maxHeartbeats 1000000 in
theorem xor_bad (base p vars : Nat) (cs : List (List Int)) (a : Option Addr) (c : Nat) (x y : Int) (v : Value) (w : World) (hF : Fm X w base p vars cs a c) (hx : I64 x) (hy : I64 y)
    (hown : M.own vars [x, y] = false) (hg : w.cell? ⟨9, 0, none⟩ = some v) :
    Calls Tryd.prog 35 #[.pointer (some ⟨p, 0, none⟩), .int .i64 x, .int .i64 y] w (GateBad w v) := by
  have HF := Lib.hid hF
  have HOW := Lib.hid hown
  have HG := Lib.hid hg
  clear hF hown hg
  go_enter Tryd.func35, Tryd.ntmps35
  go_wp2_with fail
  have hbW : Below w.heap.size w (((w.alloc (.cells #[.pointer (some ⟨p, 0, none⟩)] 24)).alloc (.cells #[.int .i64 x] 3)).alloc (.cells #[.int .i64 y] 3)) := (below_alloc (below_alloc (below_alloc (Below.refl _ _) _) _) _)
  have hsz : (((w.alloc (.cells #[.pointer (some ⟨p, 0, none⟩)] 24)).alloc (.cells #[.int .i64 x] 3)).alloc (.cells #[.int .i64 y] 3)).heap.size = w.heap.size + 1 + 1 + 1 := by simp
  generalize hgen : (((w.alloc (.cells #[.pointer (some ⟨p, 0, none⟩)] 24)).alloc (.cells #[.int .i64 x] 3)).alloc (.cells #[.int .i64 y] 3)) = W at *
  clear hgen
  have hI := Ints.two W x y hx hy 3
  rw [hsz] at hI
  have hbV : Below w.heap.size w (W.alloc (.cells #[.int .i64 x, .int .i64 y] 3)) := below_alloc hbW _
  generalize hgen : W.alloc (.cells #[.int .i64 x, .int .i64 y] 3) = V at *
  clear hgen
  refine (gate_bad base p vars cs a c (some ⟨w.heap.size + 1 + 1 + 1, 0, none⟩) 2 [x, y] _ _ v V (HF.out.below hbV) hI HOW.out (cell_below HG.out hbV)).mono ?_
  rintro e w2 hp
  obtain ⟨rfl, hb2⟩ := hp
  have HB2 := Lib.hid (below_next hbV hb2)
  clear hbW hbV hb2 hI hsz HF HG
  go_wp2
  go_ret2
  exact ⟨rfl, HB2.out⟩
set_option maxHeartbeats 1000000 in
theorem most_bad (base p vars : Nat) (cs : List (List Int)) (a : Option Addr) (c : Nat) (x y z : Int) (v : Value) (w : World) (hF : Fm X w base p vars cs a c) (hx : I64 x) (hy : I64 y) (hz : I64 z)
    (hown : M.own vars [x, y, z] = false) (hg : w.cell? ⟨9, 0, none⟩ = some v) :
    Calls Tryd.prog 36 #[.pointer (some ⟨p, 0, none⟩), .int .i64 x, .int .i64 y, .int .i64 z] w (GateBad w v) := by
  have HF := Lib.hid hF
  have HOW := Lib.hid hown
  have HG := Lib.hid hg
  clear hF hown hg
  go_enter Tryd.func36, Tryd.ntmps36
  go_wp2_with fail
  have hbW : Below w.heap.size w ((((w.alloc (.cells #[.pointer (some ⟨p, 0, none⟩)] 24)).alloc (.cells #[.int .i64 x] 3)).alloc (.cells #[.int .i64 y] 3)).alloc (.cells #[.int .i64 z] 3)) := (below_alloc (below_alloc (below_alloc (below_alloc (Below.refl _ _) _) _) _) _)
  have hsz : ((((w.alloc (.cells #[.pointer (some ⟨p, 0, none⟩)] 24)).alloc (.cells #[.int .i64 x] 3)).alloc (.cells #[.int .i64 y] 3)).alloc (.cells #[.int .i64 z] 3)).heap.size = w.heap.size + 1 + 1 + 1 + 1 := by simp
  generalize hgen : ((((w.alloc (.cells #[.pointer (some ⟨p, 0, none⟩)] 24)).alloc (.cells #[.int .i64 x] 3)).alloc (.cells #[.int .i64 y] 3)).alloc (.cells #[.int .i64 z] 3)) = W at *
  clear hgen
  have hI := Ints.three3 W x y z hx hy hz 3
  rw [hsz] at hI
  have hbV : Below w.heap.size w (W.alloc (.cells #[.int .i64 x, .int .i64 y, .int .i64 z] 3)) := below_alloc hbW _
  generalize hgen : W.alloc (.cells #[.int .i64 x, .int .i64 y, .int .i64 z] 3) = V at *
  clear hgen
  refine (gate_bad base p vars cs a c (some ⟨w.heap.size + 1 + 1 + 1 + 1, 0, none⟩) 3 [x, y, z] _ _ v V (HF.out.below hbV) hI HOW.out (cell_below HG.out hbV)).mono ?_
  rintro e w2 hp
  obtain ⟨rfl, hb2⟩ := hp
  have HB2 := Lib.hid (below_next hbV hb2)
  clear hbW hbV hb2 hI hsz HF HG
  go_wp2
  go_ret2
  exact ⟨rfl, HB2.out⟩
end Go.Proofs.YtgpifbhfnbkgoaaDoor
