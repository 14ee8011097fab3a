/- haversacklaw15.gate. -/
import Derived.Test.YtgpifbhfnbkgoaaDoorBad
import Derived.Test.YtgpifbhfnbkgoaaDoorTaken
import Derived.Test.YtgpifbhfnbkgoaaDoorGatesMath
namespace Go.Proofs.YtgpifbhfnbkgoaaDoor
open Go.RowKit Go.Shelf
variable {X : Nat → Prop}

theorem Ints.cells2 {w : World} {b off : Nat} {x y : Int} (h : Ints w (some ⟨b, off, none⟩) [x, y]) : w.cell? ⟨b, off, none⟩ = some (.int .i64 x) ∧ w.cell? ⟨b, off + 1, none⟩ = some (.int .i64 y) := by
  obtain ⟨b', off', e, _, hc⟩ := h.addr (by simp)
  cases e
  exact ⟨by simpa using hc 0 x rfl, hc 1 y rfl⟩
theorem Ints.cells3 {w : World} {b off : Nat} {x y z : Int} (h : Ints w (some ⟨b, off, none⟩) [x, y, z]) : w.cell? ⟨b, off, none⟩ = some (.int .i64 x) ∧ w.cell? ⟨b, off + 1, none⟩ = some (.int .i64 y) ∧ w.cell? ⟨b, off + 2, none⟩ = some (.int .i64 z) := by
  obtain ⟨b', off', e, _, hc⟩ := h.addr (by simp)
  cases e
  exact ⟨by simpa using hc 0 x rfl, hc 1 y rfl, hc 2 z rfl⟩
theorem gateL1_ok (base p vars : Nat) (cs : List (List Int)) (a : Option Addr) (c : Nat) (b : Option Addr) (d : Nat) (zs : List Int) (w : World) (hF : Fm X w base p vars cs a c) (hb : base ≤ w.heap.size) (hz : Ints w b zs) (hzk : KeptI w base (eff b zs))
    (hown : M.own vars zs = true) (hv : vars < 20000) (hn : cs.length + (zs.length + 1) ≤ 200000) :
    Calls Tryd.prog 10 #[.pointer (some ⟨p, 0, none⟩), .int .i64 1, .slice b zs.length d] w (GateOk X w base p vars ((M.andC ((vars + 1 : Nat) : Int) zs).foldl M.addC cs)) := by
  have h := and_ok base p vars cs a c b d zs w hF hb hz hzk hown hv hn
  have H := Lib.hid h
  have hlen := hz.len
  clear h hn hF hz hzk hown
  go_enter Tryd.func10, Tryd.ntmps10
  go_wp2_with fail
  refine H.out.mono ?_
  rintro e w2 ⟨rfl, hp⟩
  have HP := Lib.hid hp
  clear hp
  go_wp2
  go_ret2
  exact ⟨rfl, HP.out⟩
theorem gateL1_bad (base p vars : Nat) (cs : List (List Int)) (a : Option Addr) (c : Nat) (b : Option Addr) (d : Nat) (zs : List Int) (v : Value) (w : World) (hF : Fm X w base p vars cs a c) (hz : Ints w b zs)
    (hown : M.own vars zs = false) (hg : w.cell? ⟨9, 0, none⟩ = some v) :
    Calls Tryd.prog 10 #[.pointer (some ⟨p, 0, none⟩), .int .i64 1, .slice b zs.length d] w (GateBad w v) := by
  have h := and_bad base p vars cs a c b d zs v w hF hz hown hg
  have H := Lib.hid h
  have hlen := hz.len
  clear h hF hz hown hg
  go_enter Tryd.func10, Tryd.ntmps10
  go_wp2_with fail
  refine H.out.mono ?_
  rintro e w2 ⟨rfl, hp⟩
  have HP := Lib.hid hp
  clear hp
  go_wp2
  go_ret2
  exact ⟨rfl, HP.out⟩
theorem gateL2_ok (base p vars : Nat) (cs : List (List Int)) (a : Option Addr) (c : Nat) (b : Option Addr) (d : Nat) (zs : List Int) (w : World) (hF : Fm X w base p vars cs a c) (hb : base ≤ w.heap.size) (hz : Ints w b zs) (hzd : b = none → d = 0) (hzk : KeptI w base (eff b zs))
    (hown : M.own vars zs = true) (hv : vars < 20000) (hn : cs.length + (zs.length + 1) ≤ 200000) :
    Calls Tryd.prog 10 #[.pointer (some ⟨p, 0, none⟩), .int .i64 2, .slice b zs.length d] w (GateOk X w base p vars ((M.orC ((vars + 1 : Nat) : Int) zs).foldl M.addC cs)) := by
  have h := or_ok base p vars cs a c b d zs w hF hb hz hzd hzk hown hv hn
  have H := Lib.hid h
  have hlen := hz.len
  clear h hn hF hz hzk hown hzd
  go_enter Tryd.func10, Tryd.ntmps10
  go_wp2_with fail
  refine H.out.mono ?_
  rintro e w2 ⟨rfl, hp⟩
  have HP := Lib.hid hp
  clear hp
  go_wp2
  go_ret2
  exact ⟨rfl, HP.out⟩
theorem gateL2_bad (base p vars : Nat) (cs : List (List Int)) (a : Option Addr) (c : Nat) (b : Option Addr) (d : Nat) (zs : List Int) (v : Value) (w : World) (hF : Fm X w base p vars cs a c) (hz : Ints w b zs)
    (hown : M.own vars zs = false) (hg : w.cell? ⟨9, 0, none⟩ = some v) :
    Calls Tryd.prog 10 #[.pointer (some ⟨p, 0, none⟩), .int .i64 2, .slice b zs.length d] w (GateBad w v) := by
  have h := or_bad base p vars cs a c b d zs v w hF hz hown hg
  have H := Lib.hid h
  have hlen := hz.len
  clear h hF hz hown hg
  go_enter Tryd.func10, Tryd.ntmps10
  go_wp2_with fail
  refine H.out.mono ?_
  rintro e w2 ⟨rfl, hp⟩
  have HP := Lib.hid hp
  clear hp
  go_wp2
  go_ret2
  exact ⟨rfl, HP.out⟩
set_option maxHeartbeats 2000000 in
set_option maxRecDepth 100000 in
theorem gateL3_ok (base p vars : Nat) (cs : List (List Int)) (a : Option Addr) (c : Nat) (b : Option Addr) (d : Nat) (x y : Int) (w : World) (hF : Fm X w base p vars cs a c) (hb : base ≤ w.heap.size) (hz : Ints w b [x, y]) (hzk : KeptI w base (eff b [x, y]))
    (hown : M.own vars [x, y] = true) (hv : vars < 20000) (hn : cs.length + 4 ≤ 200000) :
    Calls Tryd.prog 10 #[.pointer (some ⟨p, 0, none⟩), .int .i64 3, .slice b 2 d] w (GateOk X w base p vars ((M.xorC ((vars + 1 : Nat) : Int) x y).foldl M.addC cs)) := by
  obtain ⟨bb, off, rfl, hbl, _⟩ := hz.addr (by simp)
  obtain ⟨q0, q1⟩ := hz.cells2
  have HX : ∀ W, Below w.heap.size w W → Calls Tryd.prog 35 #[.pointer (some ⟨p, 0, none⟩), .int .i64 x, .int .i64 y] W (GateOk X W base p vars ((M.xorC ((vars + 1 : Nat) : Int) x y).foldl M.addC cs)) := fun W hW => xor_ok base p vars cs a c x y W (hF.below hW) hown hv hn
  have HX' := Lib.hid HX
  have HZ := Lib.hid hz
  have HZK := Lib.hid hzk
  have HB := Lib.hid hb
  clear HX hF hz hzk hn hown hb
  go_enter Tryd.func10, Tryd.ntmps10
  go_wp2
  go_region_held3 (fun w' => w'.cell? ⟨bb, off, none⟩ = some (.int .i64 x) ∧ w'.cell? ⟨bb, off + 1, none⟩ = some (.int .i64 y))
    (first | (exact ⟨r0, r1⟩) | go_keep)
    (first
    | (go_at_call 35; refine (HX'.out _ ?_).mono ?_; exact (Below.refl _ _).drew; rintro e w2 ⟨rfl, hp⟩; have hI2 := ((Kp.of_below ((Below.refl w.heap.size w).drew)).trans hp.kp).intsK HB.out HZ.out HZK.out; obtain ⟨r0, r1⟩ := hI2.1.cells2; have HP := Lib.hid hp; clear hp hI2))
  all_goals
    go_wp2
    go_ret2
    exact ⟨rfl, FmPost.of_below ((Below.refl _ _).drew) HP.out⟩
set_option maxHeartbeats 2000000 in
set_option maxRecDepth 100000 in
theorem gateL3_bad (base p vars : Nat) (cs : List (List Int)) (a : Option Addr) (c : Nat) (b : Option Addr) (d : Nat) (x y : Int) (v : Value) (w : World) (hF : Fm X w base p vars cs a c) (hz : Ints w b [x, y])
    (hown : M.own vars [x, y] = false) (hg : w.cell? ⟨9, 0, none⟩ = some v) :
    Calls Tryd.prog 10 #[.pointer (some ⟨p, 0, none⟩), .int .i64 3, .slice b 2 d] w (GateBad w v) := by
  obtain ⟨bb, off, rfl, hbl, _⟩ := hz.addr (by simp)
  obtain ⟨q0, q1⟩ := hz.cells2
  have HX : ∀ W, Below w.heap.size w W → Calls Tryd.prog 35 #[.pointer (some ⟨p, 0, none⟩), .int .i64 x, .int .i64 y] W (GateBad W v) := fun W hW => xor_bad base p vars cs a c x y v W (hF.below hW) (hz.wf x (by simp)) (hz.wf y (by simp)) hown (cell_below hg hW)
  have HX' := Lib.hid HX
  have HZ := Lib.hid hz
  clear HX hF hz hown hg
  go_enter Tryd.func10, Tryd.ntmps10
  go_wp2
  go_region_held3 (fun w' => w'.cell? ⟨bb, off, none⟩ = some (.int .i64 x) ∧ w'.cell? ⟨bb, off + 1, none⟩ = some (.int .i64 y))
    (first | (exact ⟨r0, r1⟩) | go_keep)
    (first
    | (go_at_call 35; refine (HX'.out _ ?_).mono ?_; exact (Below.refl _ _).drew; rintro e w2 ⟨rfl, hp⟩; have hb2 : Below w.heap.size w w2 := ((Below.refl w.heap.size w).drew).trans hp; have hI2 := HZ.out.below hb2; obtain ⟨r0, r1⟩ := hI2.cells2; have HP := Lib.hid hb2; clear hp hI2 hb2))
  all_goals
    go_wp2
    go_ret2
    exact ⟨rfl, HP.out⟩
set_option maxHeartbeats 2000000 in
set_option maxRecDepth 100000 in
theorem gateL4_ok (base p vars : Nat) (cs : List (List Int)) (a : Option Addr) (c : Nat) (b : Option Addr) (d : Nat) (x y z : Int) (w : World) (hF : Fm X w base p vars cs a c) (hb : base ≤ w.heap.size) (hz : Ints w b [x, y, z]) (hzk : KeptI w base (eff b [x, y, z]))
    (hown : M.own vars [x, y, z] = true) (hv : vars < 20000) (hn : cs.length + 6 ≤ 200000) :
    Calls Tryd.prog 10 #[.pointer (some ⟨p, 0, none⟩), .int .i64 4, .slice b 3 d] w (GateOk X w base p vars ((M.mostC ((vars + 1 : Nat) : Int) x y z).foldl M.addC cs)) := by
  obtain ⟨bb, off, rfl, hbl, _⟩ := hz.addr (by simp)
  obtain ⟨q0, q1, q2⟩ := hz.cells3
  have HX : ∀ W, Below w.heap.size w W → Calls Tryd.prog 36 #[.pointer (some ⟨p, 0, none⟩), .int .i64 x, .int .i64 y, .int .i64 z] W (GateOk X W base p vars ((M.mostC ((vars + 1 : Nat) : Int) x y z).foldl M.addC cs)) := fun W hW => most_ok base p vars cs a c x y z W (hF.below hW) hown hv hn
  have HX' := Lib.hid HX
  have HZ := Lib.hid hz
  have HZK := Lib.hid hzk
  have HB := Lib.hid hb
  clear HX hF hz hzk hn hown hb
  go_enter Tryd.func10, Tryd.ntmps10
  go_wp2
  go_region_held3 (fun w' => w'.cell? ⟨bb, off, none⟩ = some (.int .i64 x) ∧ w'.cell? ⟨bb, off + 1, none⟩ = some (.int .i64 y) ∧ w'.cell? ⟨bb, off + 2, none⟩ = some (.int .i64 z))
    (first | (exact ⟨r0, r1, r2⟩) | go_keep)
    (first
    | (go_at_call 36; refine (HX'.out _ ?_).mono ?_; exact (Below.refl _ _).drew; rintro e w2 ⟨rfl, hp⟩; have hI2 := ((Kp.of_below ((Below.refl w.heap.size w).drew)).trans hp.kp).intsK HB.out HZ.out HZK.out; obtain ⟨r0, r1, r2⟩ := hI2.1.cells3; have HP := Lib.hid hp; clear hp hI2))
  all_goals
    go_wp2
    go_ret2
    exact ⟨rfl, FmPost.of_below ((Below.refl _ _).drew) HP.out⟩
set_option maxHeartbeats 2000000 in
set_option maxRecDepth 100000 in
theorem gateL4_bad (base p vars : Nat) (cs : List (List Int)) (a : Option Addr) (c : Nat) (b : Option Addr) (d : Nat) (x y z : Int) (v : Value) (w : World) (hF : Fm X w base p vars cs a c) (hz : Ints w b [x, y, z])
    (hown : M.own vars [x, y, z] = false) (hg : w.cell? ⟨9, 0, none⟩ = some v) :
    Calls Tryd.prog 10 #[.pointer (some ⟨p, 0, none⟩), .int .i64 4, .slice b 3 d] w (GateBad w v) := by
  obtain ⟨bb, off, rfl, hbl, _⟩ := hz.addr (by simp)
  obtain ⟨q0, q1, q2⟩ := hz.cells3
  have HX : ∀ W, Below w.heap.size w W → Calls Tryd.prog 36 #[.pointer (some ⟨p, 0, none⟩), .int .i64 x, .int .i64 y, .int .i64 z] W (GateBad W v) := fun W hW => most_bad base p vars cs a c x y z v W (hF.below hW) (hz.wf x (by simp)) (hz.wf y (by simp)) (hz.wf z (by simp)) hown (cell_below hg hW)
  have HX' := Lib.hid HX
  have HZ := Lib.hid hz
  clear HX hF hz hown hg
  go_enter Tryd.func10, Tryd.ntmps10
  go_wp2
  go_region_held3 (fun w' => w'.cell? ⟨bb, off, none⟩ = some (.int .i64 x) ∧ w'.cell? ⟨bb, off + 1, none⟩ = some (.int .i64 y) ∧ w'.cell? ⟨bb, off + 2, none⟩ = some (.int .i64 z))
    (first | (exact ⟨r0, r1, r2⟩) | go_keep)
    (first
    | (go_at_call 36; refine (HX'.out _ ?_).mono ?_; exact (Below.refl _ _).drew; rintro e w2 ⟨rfl, hp⟩; have hb2 : Below w.heap.size w w2 := ((Below.refl w.heap.size w).drew).trans hp; have hI2 := HZ.out.below hb2; obtain ⟨r0, r1, r2⟩ := hI2.cells3; have HP := Lib.hid hb2; clear hp hI2 hb2))
  all_goals
    go_wp2
    go_ret2
    exact ⟨rfl, HP.out⟩
/-- a gate, whatever its kind -/
theorem gateL_ok (base p vars : Nat) (cs : List (List Int)) (a : Option Addr) (c : Nat) (b : Option Addr) (d : Nat) (k : Int) (zs : List Int) (w : World) (hF : Fm X w base p vars cs a c) (hb : base ≤ w.heap.size) (hz : Ints w b zs) (hzd : b = none → d = 0) (hzk : KeptI w base (eff b zs))
    (hk : 1 ≤ k ∧ k ≤ 4) (hfit : M.Fits (k, zs)) (hown : M.own vars zs = true) (hv : vars < 20000) (hn : cs.length + (zs.length + 6) ≤ 200000) :
    Calls Tryd.prog 10 #[.pointer (some ⟨p, 0, none⟩), .int .i64 k, .slice b zs.length d] w (GateOk X w base p vars ((M.gateC k ((vars + 1 : Nat) : Int) zs).foldl M.addC cs)) := by
  rcases (show k = 1 ∨ k = 2 ∨ k = 3 ∨ k = 4 by omega) with rfl | rfl | rfl | rfl
  · exact gateL1_ok base p vars cs a c b d zs w hF hb hz hzk hown hv (by omega)
  · exact gateL2_ok base p vars cs a c b d zs w hF hb hz hzd hzk hown hv (by omega)
  · match zs, hfit.1 rfl, hz, hzk, hown with
    | [x, y], _, hz, hzk, hown => exact gateL3_ok base p vars cs a c b d x y w hF hb hz hzk hown hv (by simp at hn; omega)
  · match zs, hfit.2 (show (4 : Int) ≠ 1 by omega) (show (4 : Int) ≠ 2 by omega) (show (4 : Int) ≠ 3 by omega), hz, hzk, hown with
    | [x, y, z], _, hz, hzk, hown => exact gateL4_ok base p vars cs a c b d x y z w hF hb hz hzk hown hv (by simp at hn; omega)
theorem gateL_bad (base p vars : Nat) (cs : List (List Int)) (a : Option Addr) (c : Nat) (b : Option Addr) (d : Nat) (k : Int) (zs : List Int) (v : Value) (w : World) (hF : Fm X w base p vars cs a c) (hz : Ints w b zs)
    (hk : 1 ≤ k ∧ k ≤ 4) (hfit : M.Fits (k, zs)) (hown : M.own vars zs = false) (hg : w.cell? ⟨9, 0, none⟩ = some v) :
    Calls Tryd.prog 10 #[.pointer (some ⟨p, 0, none⟩), .int .i64 k, .slice b zs.length d] w (GateBad w v) := by
  rcases (show k = 1 ∨ k = 2 ∨ k = 3 ∨ k = 4 by omega) with rfl | rfl | rfl | rfl
  · exact gateL1_bad base p vars cs a c b d zs v w hF hz hown hg
  · exact gateL2_bad base p vars cs a c b d zs v w hF hz hown hg
  · match zs, hfit.1 rfl, hz, hown with
    | [x, y], _, hz, hown => exact gateL3_bad base p vars cs a c b d x y v w hF hz hown hg
  · match zs, hfit.2 (show (4 : Int) ≠ 1 by omega) (show (4 : Int) ≠ 2 by omega) (show (4 : Int) ≠ 3 by omega), hz, hown with
    | [x, y, z], _, hz, hown => exact gateL4_bad base p vars cs a c b d x y z v w hF hz hown hg
end Go.Proofs.YtgpifbhfnbkgoaaDoor
