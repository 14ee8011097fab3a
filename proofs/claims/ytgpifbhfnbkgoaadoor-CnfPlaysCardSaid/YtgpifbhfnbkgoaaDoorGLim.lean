/- Gates over a formula that has all its variables: the error, and nothing else. -/
import Derived.Test.YtgpifbhfnbkgoaaDoorGateL
namespace Go.Proofs.YtgpifbhfnbkgoaaDoor
open Go.RowKit Go.Shelf
variable {X : Nat → Prop}

set_option maxHeartbeats 1000000 in
theorem gate_lim (base p vars : Nat) (cs : List (List Int)) (a : Option Addr) (c : Nat) (b : Option Addr) (d : Nat) (zs : List Int) (n : Int) (fn : Value) (v : Value) (w : World) (hF : Fm X w base p vars cs a c) (hz : Ints w b zs)
    (hown : M.own vars zs = true) (hv : vars = 20000) (hg : w.cell? ⟨11, 0, none⟩ = some v) :
    Calls Tryd.prog 59 #[.pointer (some ⟨p, 0, none⟩), .slice b zs.length d, .int .i64 n, fn] w (GateBad w v) := by
  have hhas := has_any p vars b d zs w hF.cell0 hF.vars hz
  rw [hown] at hhas
  have HH := Lib.hid hhas
  have h0 := hF.cell0
  have hd1 : decide ((20000 : Int) ≤ (vars : Int)) = true := by simp; omega
  clear hhas hown hv
  go_enter Tryd.func59, Tryd.ntmps59
  go_wp2_with (go_at_call 40; refine HH.out.mono ?_; rintro e w' ⟨rfl, rfl⟩)
  go_quiet (fail)
  go_wp2
  go_ret2
  exact ⟨rfl, bDrewN _ _ _⟩
set_option maxHeartbeats 1000000 in
theorem and_lim (base p vars : Nat) (cs : List (List Int)) (a : Option Addr) (c : Nat) (b : Option Addr) (d : Nat) (zs : List Int) (v : Value) (w : World) (hF : Fm X w base p vars cs a c) (hz : Ints w b zs)
    (hown : M.own vars zs = true) (hv : vars = 20000) (hg : w.cell? ⟨11, 0, none⟩ = some v) :
    Calls Tryd.prog 32 #[.pointer (some ⟨p, 0, none⟩), .slice b zs.length d] w (GateBad w v) := by
  have hlen := hz.len
  have HF := Lib.hid hF
  have HZ := Lib.hid hz
  have HOW := Lib.hid hown
  have HV := Lib.hid hv
  have HG := Lib.hid hg
  clear hF hz hown hv hg
  go_enter Tryd.func32, Tryd.ntmps32
  go_wp2_with fail
  have hbW : Below w.heap.size w ((w.alloc (.cells #[.pointer (some ⟨p, 0, none⟩)] 24)).alloc (.cells #[.slice b zs.length d] 30)) := below_alloc (below_alloc (Below.refl _ _) _) _
  generalize hgen : ((w.alloc (.cells #[.pointer (some ⟨p, 0, none⟩)] 24)).alloc (.cells #[.slice b zs.length d] 30)) = W at *
  clear hgen
  refine (gate_lim base p vars cs a c b d zs _ _ v W (HF.out.below hbW) (HZ.out.below hbW) HOW.out HV.out (cell_below HG.out hbW)).mono ?_
  rintro e w2 hp
  obtain ⟨rfl, hb2⟩ := hp
  have HB2 := Lib.hid (below_next hbW hb2)
  clear hbW hb2 HF HZ HG
  go_wp2
  go_ret2
  exact ⟨rfl, HB2.out⟩
set_option maxHeartbeats 1000000 in
theorem or_lim (base p vars : Nat) (cs : List (List Int)) (a : Option Addr) (c : Nat) (b : Option Addr) (d : Nat) (zs : List Int) (v : Value) (w : World) (hF : Fm X w base p vars cs a c) (hz : Ints w b zs)
    (hown : M.own vars zs = true) (hv : vars = 20000) (hg : w.cell? ⟨11, 0, none⟩ = some v) :
    Calls Tryd.prog 34 #[.pointer (some ⟨p, 0, none⟩), .slice b zs.length d] w (GateBad w v) := by
  have hlen := hz.len
  have HF := Lib.hid hF
  have HZ := Lib.hid hz
  have HOW := Lib.hid hown
  have HV := Lib.hid hv
  have HG := Lib.hid hg
  clear hF hz hown hv hg
  go_enter Tryd.func34, Tryd.ntmps34
  go_wp2_with fail
  have hbW : Below w.heap.size w ((w.alloc (.cells #[.pointer (some ⟨p, 0, none⟩)] 24)).alloc (.cells #[.slice b zs.length d] 30)) := below_alloc (below_alloc (Below.refl _ _) _) _
  generalize hgen : ((w.alloc (.cells #[.pointer (some ⟨p, 0, none⟩)] 24)).alloc (.cells #[.slice b zs.length d] 30)) = W at *
  clear hgen
  refine (gate_lim base p vars cs a c b d zs _ _ v W (HF.out.below hbW) (HZ.out.below hbW) HOW.out HV.out (cell_below HG.out hbW)).mono ?_
  rintro e w2 hp
  obtain ⟨rfl, hb2⟩ := hp
  have HB2 := Lib.hid (below_next hbW hb2)
  clear hbW hb2 HF HZ HG
  go_wp2
  go_ret2
  exact ⟨rfl, HB2.out⟩
set_option maxHeartbeats 1000000 in
theorem xor_lim (base p vars : Nat) (cs : List (List Int)) (a : Option Addr) (c : Nat) (x y : Int) (v : Value) (w : World) (hF : Fm X w base p vars cs a c) (hx : I64 x) (hy : I64 y)
    (hown : M.own vars [x, y] = true) (hv : vars = 20000) (hg : w.cell? ⟨11, 0, none⟩ = some v) :
    Calls Tryd.prog 35 #[.pointer (some ⟨p, 0, none⟩), .int .i64 x, .int .i64 y] w (GateBad w v) := by
  have HF := Lib.hid hF
  have HOW := Lib.hid hown
  have HV := Lib.hid hv
  have HG := Lib.hid hg
  clear hF hown hv hg
  go_enter Tryd.func35, Tryd.ntmps35
  go_wp2_with fail
  have hbW : Below w.heap.size w (((w.alloc (.cells #[.pointer (some ⟨p, 0, none⟩)] 24)).alloc (.cells #[.int .i64 x] 3)).alloc (.cells #[.int .i64 y] 3)) := (below_alloc (below_alloc (below_alloc (Below.refl _ _) _) _) _)
  have hsz : (((w.alloc (.cells #[.pointer (some ⟨p, 0, none⟩)] 24)).alloc (.cells #[.int .i64 x] 3)).alloc (.cells #[.int .i64 y] 3)).heap.size = w.heap.size + 1 + 1 + 1 := by simp
  generalize hgen : (((w.alloc (.cells #[.pointer (some ⟨p, 0, none⟩)] 24)).alloc (.cells #[.int .i64 x] 3)).alloc (.cells #[.int .i64 y] 3)) = W at *
  clear hgen
  have hI := Ints.two W x y hx hy 3
  rw [hsz] at hI
  have hbV : Below w.heap.size w (W.alloc (.cells #[.int .i64 x, .int .i64 y] 3)) := below_alloc hbW _
  generalize hgen : W.alloc (.cells #[.int .i64 x, .int .i64 y] 3) = V at *
  clear hgen
  refine (gate_lim base p vars cs a c (some ⟨w.heap.size + 1 + 1 + 1, 0, none⟩) 2 [x, y] _ _ v V (HF.out.below hbV) hI HOW.out HV.out (cell_below HG.out hbV)).mono ?_
  rintro e w2 hp
  obtain ⟨rfl, hb2⟩ := hp
  have HB2 := Lib.hid (below_next hbV hb2)
  clear hbW hbV hb2 hI hsz HF HG
  go_wp2
  go_ret2
  exact ⟨rfl, HB2.out⟩
set_option maxHeartbeats 1000000 in
theorem most_lim (base p vars : Nat) (cs : List (List Int)) (a : Option Addr) (c : Nat) (x y z : Int) (v : Value) (w : World) (hF : Fm X w base p vars cs a c) (hx : I64 x) (hy : I64 y) (hz : I64 z)
    (hown : M.own vars [x, y, z] = true) (hv : vars = 20000) (hg : w.cell? ⟨11, 0, none⟩ = some v) :
    Calls Tryd.prog 36 #[.pointer (some ⟨p, 0, none⟩), .int .i64 x, .int .i64 y, .int .i64 z] w (GateBad w v) := by
  have HF := Lib.hid hF
  have HOW := Lib.hid hown
  have HV := Lib.hid hv
  have HG := Lib.hid hg
  clear hF hown hv hg
  go_enter Tryd.func36, Tryd.ntmps36
  go_wp2_with fail
  have hbW : Below w.heap.size w ((((w.alloc (.cells #[.pointer (some ⟨p, 0, none⟩)] 24)).alloc (.cells #[.int .i64 x] 3)).alloc (.cells #[.int .i64 y] 3)).alloc (.cells #[.int .i64 z] 3)) := (below_alloc (below_alloc (below_alloc (below_alloc (Below.refl _ _) _) _) _) _)
  have hsz : ((((w.alloc (.cells #[.pointer (some ⟨p, 0, none⟩)] 24)).alloc (.cells #[.int .i64 x] 3)).alloc (.cells #[.int .i64 y] 3)).alloc (.cells #[.int .i64 z] 3)).heap.size = w.heap.size + 1 + 1 + 1 + 1 := by simp
  generalize hgen : ((((w.alloc (.cells #[.pointer (some ⟨p, 0, none⟩)] 24)).alloc (.cells #[.int .i64 x] 3)).alloc (.cells #[.int .i64 y] 3)).alloc (.cells #[.int .i64 z] 3)) = W at *
  clear hgen
  have hI := Ints.three3 W x y z hx hy hz 3
  rw [hsz] at hI
  have hbV : Below w.heap.size w (W.alloc (.cells #[.int .i64 x, .int .i64 y, .int .i64 z] 3)) := below_alloc hbW _
  generalize hgen : W.alloc (.cells #[.int .i64 x, .int .i64 y, .int .i64 z] 3) = V at *
  clear hgen
  refine (gate_lim base p vars cs a c (some ⟨w.heap.size + 1 + 1 + 1 + 1, 0, none⟩) 3 [x, y, z] _ _ v V (HF.out.below hbV) hI HOW.out HV.out (cell_below HG.out hbV)).mono ?_
  rintro e w2 hp
  obtain ⟨rfl, hb2⟩ := hp
  have HB2 := Lib.hid (below_next hbV hb2)
  clear hbW hbV hb2 hI hsz HF HG
  go_wp2
  go_ret2
  exact ⟨rfl, HB2.out⟩
theorem gateL1_lim (base p vars : Nat) (cs : List (List Int)) (a : Option Addr) (c : Nat) (b : Option Addr) (d : Nat) (zs : List Int) (v : Value) (w : World) (hF : Fm X w base p vars cs a c) (hz : Ints w b zs)
    (hown : M.own vars zs = true) (hv : vars = 20000) (hg : w.cell? ⟨11, 0, none⟩ = some v) :
    Calls Tryd.prog 10 #[.pointer (some ⟨p, 0, none⟩), .int .i64 1, .slice b zs.length d] w (GateBad w v) := by
  have h := and_lim base p vars cs a c b d zs v w hF hz hown hv hg
  have H := Lib.hid h
  have hlen := hz.len
  clear h hF hz hown hv hg
  go_enter Tryd.func10, Tryd.ntmps10
  go_wp2_with fail
  refine H.out.mono ?_
  rintro e w2 ⟨rfl, hp⟩
  have HP := Lib.hid hp
  clear hp
  go_wp2
  go_ret2
  exact ⟨rfl, HP.out⟩
theorem gateL2_lim (base p vars : Nat) (cs : List (List Int)) (a : Option Addr) (c : Nat) (b : Option Addr) (d : Nat) (zs : List Int) (v : Value) (w : World) (hF : Fm X w base p vars cs a c) (hz : Ints w b zs)
    (hown : M.own vars zs = true) (hv : vars = 20000) (hg : w.cell? ⟨11, 0, none⟩ = some v) :
    Calls Tryd.prog 10 #[.pointer (some ⟨p, 0, none⟩), .int .i64 2, .slice b zs.length d] w (GateBad w v) := by
  have h := or_lim base p vars cs a c b d zs v w hF hz hown hv hg
  have H := Lib.hid h
  have hlen := hz.len
  clear h hF hz hown hv hg
  go_enter Tryd.func10, Tryd.ntmps10
  go_wp2_with fail
  refine H.out.mono ?_
  rintro e w2 ⟨rfl, hp⟩
  have HP := Lib.hid hp
  clear hp
  go_wp2
  go_ret2
  exact ⟨rfl, HP.out⟩
set_option maxHeartbeats 2000000 in
set_option maxRecDepth 100000 in
theorem gateL3_lim (base p vars : Nat) (cs : List (List Int)) (a : Option Addr) (c : Nat) (b : Option Addr) (d : Nat) (x y : Int) (v : Value) (w : World) (hF : Fm X w base p vars cs a c) (hz : Ints w b [x, y])
    (hown : M.own vars [x, y] = true) (hv : vars = 20000) (hg : w.cell? ⟨11, 0, none⟩ = some v) :
    Calls Tryd.prog 10 #[.pointer (some ⟨p, 0, none⟩), .int .i64 3, .slice b 2 d] w (GateBad w v) := by
  obtain ⟨bb, off, rfl, hbl, _⟩ := hz.addr (by simp)
  obtain ⟨q0, q1⟩ := hz.cells2
  have HX : ∀ W, Below w.heap.size w W → Calls Tryd.prog 35 #[.pointer (some ⟨p, 0, none⟩), .int .i64 x, .int .i64 y] W (GateBad W v) := fun W hW => xor_lim base p vars cs a c x y v W (hF.below hW) (hz.wf x (by simp)) (hz.wf y (by simp)) hown hv (cell_below hg hW)
  have HX' := Lib.hid HX
  have HZ := Lib.hid hz
  clear HX hF hz hown hv hg
  go_enter Tryd.func10, Tryd.ntmps10
  go_wp2
  go_region_held3 (fun w' => w'.cell? ⟨bb, off, none⟩ = some (.int .i64 x) ∧ w'.cell? ⟨bb, off + 1, none⟩ = some (.int .i64 y))
    (first | (exact ⟨r0, r1⟩) | go_keep)
    (first
    | (go_at_call 35; refine (HX'.out _ ?_).mono ?_; exact (Below.refl _ _).drew; rintro e w2 ⟨rfl, hp⟩; have hb2 : Below w.heap.size w w2 := ((Below.refl w.heap.size w).drew).trans hp; have hI2 := HZ.out.below hb2; obtain ⟨r0, r1⟩ := hI2.cells2; have HP := Lib.hid hb2; clear hp hI2 hb2))
  all_goals
    go_wp2
    go_ret2
    exact ⟨rfl, HP.out⟩
set_option maxHeartbeats 2000000 in
set_option maxRecDepth 100000 in
theorem gateL4_lim (base p vars : Nat) (cs : List (List Int)) (a : Option Addr) (c : Nat) (b : Option Addr) (d : Nat) (x y z : Int) (v : Value) (w : World) (hF : Fm X w base p vars cs a c) (hz : Ints w b [x, y, z])
    (hown : M.own vars [x, y, z] = true) (hv : vars = 20000) (hg : w.cell? ⟨11, 0, none⟩ = some v) :
    Calls Tryd.prog 10 #[.pointer (some ⟨p, 0, none⟩), .int .i64 4, .slice b 3 d] w (GateBad w v) := by
  obtain ⟨bb, off, rfl, hbl, _⟩ := hz.addr (by simp)
  obtain ⟨q0, q1, q2⟩ := hz.cells3
  have HX : ∀ W, Below w.heap.size w W → Calls Tryd.prog 36 #[.pointer (some ⟨p, 0, none⟩), .int .i64 x, .int .i64 y, .int .i64 z] W (GateBad W v) := fun W hW => most_lim base p vars cs a c x y z v W (hF.below hW) (hz.wf x (by simp)) (hz.wf y (by simp)) (hz.wf z (by simp)) hown hv (cell_below hg hW)
  have HX' := Lib.hid HX
  have HZ := Lib.hid hz
  clear HX hF hz hown hv hg
  go_enter Tryd.func10, Tryd.ntmps10
  go_wp2
  go_region_held3 (fun w' => w'.cell? ⟨bb, off, none⟩ = some (.int .i64 x) ∧ w'.cell? ⟨bb, off + 1, none⟩ = some (.int .i64 y) ∧ w'.cell? ⟨bb, off + 2, none⟩ = some (.int .i64 z))
    (first | (exact ⟨r0, r1, r2⟩) | go_keep)
    (first
    | (go_at_call 36; refine (HX'.out _ ?_).mono ?_; exact (Below.refl _ _).drew; rintro e w2 ⟨rfl, hp⟩; have hb2 : Below w.heap.size w w2 := ((Below.refl w.heap.size w).drew).trans hp; have hI2 := HZ.out.below hb2; obtain ⟨r0, r1, r2⟩ := hI2.cells3; have HP := Lib.hid hb2; clear hp hI2 hb2))
  all_goals
    go_wp2
    go_ret2
    exact ⟨rfl, HP.out⟩
theorem gateL_lim (base p vars : Nat) (cs : List (List Int)) (a : Option Addr) (c : Nat) (b : Option Addr) (d : Nat) (k : Int) (zs : List Int) (v : Value) (w : World) (hF : Fm X w base p vars cs a c) (hz : Ints w b zs)
    (hk : 1 ≤ k ∧ k ≤ 4) (hfit : M.Fits (k, zs)) (hown : M.own vars zs = true) (hv : vars = 20000) (hg : w.cell? ⟨11, 0, none⟩ = some v) :
    Calls Tryd.prog 10 #[.pointer (some ⟨p, 0, none⟩), .int .i64 k, .slice b zs.length d] w (GateBad w v) := by
  rcases (show k = 1 ∨ k = 2 ∨ k = 3 ∨ k = 4 by omega) with rfl | rfl | rfl | rfl
  · exact gateL1_lim base p vars cs a c b d zs v w hF hz hown hv hg
  · exact gateL2_lim base p vars cs a c b d zs v w hF hz hown hv hg
  · match zs, hfit.1 rfl, hz, hown, hv with
    | [x, y], _, hz, hown, hv => exact gateL3_lim base p vars cs a c b d x y v w hF hz hown hv hg
  · match zs, hfit.2 (show (4 : Int) ≠ 1 by omega) (show (4 : Int) ≠ 2 by omega) (show (4 : Int) ≠ 3 by omega), hz, hown, hv with
    | [x, y, z], _, hz, hown, hv => exact gateL4_lim base p vars cs a c b d x y z v w hF hz hown hv hg
end Go.Proofs.YtgpifbhfnbkgoaaDoor
