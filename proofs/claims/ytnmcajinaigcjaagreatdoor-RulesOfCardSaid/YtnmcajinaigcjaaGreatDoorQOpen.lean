/- Records, specs and bools that came in. -/
import Derived.Test.YtnmcajinaigcjaaGreatDoorQRead
import Derived.Test.YtnmcajinaigcjaaGreatDoorReader
import Derived.OpenShut
namespace Go.Proofs.YtnmcajinaigcjaaGreatDoor
open Go.ChangeShapes Go.WideShapes Go.RowKit
open Q (It Ver Tm Sp Rc Dm)

theorem RSl.rs {α : Type} {R : Rd α} {k by' : Nat} {w : World} {vs : List Value} {xs : List α} (hby : 24 ≤ by') (h : RSl R k by' w vs xs) : RS R k w vs xs := by
  obtain ⟨a, c, h1, h2, h3, h4, _, h6⟩ := h
  refine ⟨a, c, h1, ⟨h3, h2⟩, h6, ?_⟩
  have := Nat.mul_le_mul_left xs.length hby
  unfold reachBytes at h4; omega
def RB (_ : World) (us : List Value) (z : Bool) : Prop := us = [.bool z]
theorem len1 {α : Type} {l : List α} (h : l.length = 1) : ∃ x, l = [x] := by
  match l, h with
  | [x], _ => exact ⟨x, rfl⟩
theorem len2 {α : Type} {l : List α} (h : l.length = 2) : ∃ x y, l = [x, y] := by
  match l, h with
  | [x, y], _ => exact ⟨x, y, rfl⟩
theorem len3 {α : Type} {l : List α} (h : l.length = 3) : ∃ x y z, l = [x, y, z] := by
  match l, h with
  | [x, y, z], _ => exact ⟨x, y, z, rfl⟩
theorem len4 {α : Type} {l : List α} (h : l.length = 4) : ∃ x y z u, l = [x, y, z, u] := by
  match l, h with
  | [x, y, z, u], _ => exact ⟨x, y, z, u, rfl⟩
theorem len5 {α : Type} {l : List α} (h : l.length = 5) : ∃ x y z u v, l = [x, y, z, u, v] := by
  match l, h with
  | [x, y, z, u, v], _ => exact ⟨x, y, z, u, v, rfl⟩
theorem len6 {α : Type} {l : List α} (h : l.length = 6) : ∃ x y z u v a, l = [x, y, z, u, v, a] := by
  match l, h with
  | [x, y, z, u, v, a], _ => exact ⟨x, y, z, u, v, a, rfl⟩
theorem len13 {α : Type} {l : List α} (h : l.length = 13) : ∃ a b c d e f g h i j k m n, l = [a, b, c, d, e, f, g, h, i, j, k, m, n] := by
  match l, h with
  | [a, b, c, d, e, f, g, h, i, j, k, m, n], _ => exact ⟨a, b, c, d, e, f, g, h, i, j, k, m, n, rfl⟩
section
variable {H : Type} {enc : TypeId × Value → H} {w : World} {fuel : Nat} {cs : List Value} {d : DataW H} {ps : List MemPlace}
theorem q_int (h : DataW.trod enc Tryz.prog w 0 (fun _ => true) true fuel 3 cs = some (d, ps)) : ∃ x, cs = [.int .i64 x] ∧ I64 x := by
  obtain ⟨n, rfl, _, hw⟩ := DataW.trod_int Tryz.underlying3 h
  have := bounds_i64 hw
  exact ⟨n, rfl, by omega, by omega⟩
theorem q_str (h : DataW.trod enc Tryz.prog w 0 (fun _ => true) true fuel 9 cs = some (d, ps)) (hr : InReach Tryz.prog 9 d) : ∃ s, cs = [.string s] ∧ SzS s := by
  obtain ⟨s, h1, h2⟩ := open_str Tryz.underlying9 h hr
  exact ⟨s, h1, by unfold reachBytes at h2; unfold SzS; omega⟩
theorem q_item (h : DataW.trod enc Tryz.prog w 0 (fun _ => true) true fuel 181 cs = some (d, ps)) (hr : InReach Tryz.prog 181 d) (hl : Lows w ps) : ∃ x, RIt w cs x := by
  obtain ⟨hcl, n, hf⟩ := open_fields Tryz.underlying181 h hr hl
  have hc : cs.length = 2 := hcl.trans (by kernel_rfl)
  clear hcl
  obtain ⟨v0, v1, rfl⟩ := len2 hc
  obtain ⟨d0, p0, t0, _, _⟩ := hf 0 3 0 1 _ rfl rfl rfl (by kernel_rfl)
  obtain ⟨d1, p1, t1, r1, _⟩ := hf 1 9 1 1 _ rfl rfl rfl (by kernel_rfl)
  obtain ⟨x, e0, z0⟩ := q_int t0
  obtain ⟨y, e1, z1⟩ := q_str t1 r1
  simp at e0 e1
  subst e0 e1
  exact ⟨⟨x, y⟩, rfl, z0, z1⟩
theorem q_items (h : DataW.trod enc Tryz.prog w 0 (fun _ => true) true fuel 179 cs = some (d, ps)) (hr : InReach Tryz.prog 179 d) (hl : Lows w ps) : ∃ xs, RS RIt 2 w cs xs := by
  obtain ⟨xs, hx⟩ := open_RSl (R := RIt) (k := 2) (by' := 24) Tryz.underlying179 (by kernel_rfl) (by decide) (by kernel_rfl) (fun _ _ _ _ h r l => q_item h r l) h hr hl
  exact ⟨xs, hx.rs (by decide)⟩
theorem q_rows (h : DataW.trod enc Tryz.prog w 0 (fun _ => true) true fuel 64 cs = some (d, ps)) (hr : InReach Tryz.prog 64 d) (hl : Lows w ps) : ∃ xs, RS (RS RIt 2) 1 w cs xs := by
  obtain ⟨xs, hx⟩ := open_RSl (R := RS RIt 2) (k := 1) (by' := 24) Tryz.underlying64 (by kernel_rfl) (by decide) (by kernel_rfl) (fun _ _ _ _ h r l => q_items h r l) h hr hl
  exact ⟨xs, hx.rs (by decide)⟩
theorem q_ver (h : DataW.trod enc Tryz.prog w 0 (fun _ => true) true fuel 66 cs = some (d, ps)) (hr : InReach Tryz.prog 66 d) (hl : Lows w ps) : ∃ x, RVer w cs x := by
  obtain ⟨hcl, n, hf⟩ := open_fields Tryz.underlying66 h hr hl
  have hc : cs.length = 3 := hcl.trans (by kernel_rfl)
  clear hcl
  obtain ⟨v0, v1, v2, rfl⟩ := len3 hc
  obtain ⟨d0, p0, t0, _, _⟩ := hf 0 3 0 1 _ rfl rfl rfl (by kernel_rfl)
  obtain ⟨d1, p1, t1, r1, l1⟩ := hf 1 64 1 1 _ rfl rfl rfl (by kernel_rfl)
  obtain ⟨d2, p2, t2, r2, l2⟩ := hf 2 64 2 1 _ rfl rfl rfl (by kernel_rfl)
  obtain ⟨x, e0, z0⟩ := q_int t0
  obtain ⟨y, z1⟩ := q_rows t1 r1 l1
  obtain ⟨z, z2⟩ := q_rows t2 r2 l2
  simp at e0 z1 z2
  subst e0
  exact ⟨⟨x, y, z⟩, v1, v2, rfl, z0, z1, z2⟩
theorem q_tm (h : DataW.trod enc Tryz.prog w 0 (fun _ => true) true fuel 106 cs = some (d, ps)) (hr : InReach Tryz.prog 106 d) (hl : Lows w ps) : ∃ x, RTm w cs x := by
  obtain ⟨hcl, n, hf⟩ := open_fields Tryz.underlying106 h hr hl
  have hc : cs.length = 4 := hcl.trans (by kernel_rfl)
  clear hcl
  obtain ⟨v0, v1, v2, v3, rfl⟩ := len4 hc
  obtain ⟨d0, p0, t0, r0, _⟩ := hf 0 9 0 1 _ rfl rfl rfl (by kernel_rfl)
  obtain ⟨d1, p1, t1, r1, l1⟩ := hf 1 66 1 3 _ rfl rfl rfl (by kernel_rfl)
  obtain ⟨x, e0, z0⟩ := q_str t0 r0
  obtain ⟨y, z1⟩ := q_ver t1 r1 l1
  simp at e0 z1
  subst e0
  exact ⟨⟨x, y⟩, _, rfl, z0, z1⟩
theorem q_tms (h : DataW.trod enc Tryz.prog w 0 (fun _ => true) true fuel 107 cs = some (d, ps)) (hr : InReach Tryz.prog 107 d) (hl : Lows w ps) : ∃ xs, RS RTm 4 w cs xs := by
  obtain ⟨xs, hx⟩ := open_RSl (R := RTm) (k := 4) (by' := 72) Tryz.underlying107 (by kernel_rfl) (by decide) (by kernel_rfl) (fun _ _ _ _ h r l => q_tm h r l) h hr hl
  exact ⟨xs, hx.rs (by decide)⟩
theorem q_wrows (h : DataW.trod enc Tryz.prog w 0 (fun _ => true) true fuel 49 cs = some (d, ps)) (hr : InReach Tryz.prog 49 d) (hl : Lows w ps) : ∃ xs, RS (RS RTm 4) 1 w cs xs := by
  obtain ⟨xs, hx⟩ := open_RSl (R := RS RTm 4) (k := 1) (by' := 24) Tryz.underlying49 (by kernel_rfl) (by decide) (by kernel_rfl) (fun _ _ _ _ h r l => q_tms h r l) h hr hl
  exact ⟨xs, hx.rs (by decide)⟩
theorem q_want (h : DataW.trod enc Tryz.prog w 0 (fun _ => true) true fuel 51 cs = some (d, ps)) (hr : InReach Tryz.prog 51 d) (hl : Lows w ps) : ∃ xs, RS (RS RTm 4) 1 w cs xs := by
  obtain ⟨hcl, n, hf⟩ := open_fields Tryz.underlying51 h hr hl
  have hc : cs.length = 1 := hcl.trans (by kernel_rfl)
  clear hcl
  obtain ⟨v0, rfl⟩ := len1 hc
  obtain ⟨d0, p0, t0, r0, l0⟩ := hf 0 49 0 1 _ rfl rfl rfl (by kernel_rfl)
  obtain ⟨x, z0⟩ := q_wrows t0 r0 l0
  simp at z0
  exact ⟨x, z0⟩
theorem q_sp (h : DataW.trod enc Tryz.prog w 0 (fun _ => true) true fuel 53 cs = some (d, ps)) (hr : InReach Tryz.prog 53 d) (hl : Lows w ps) : ∃ x, RSp w cs x := by
  obtain ⟨hcl, n, hf⟩ := open_fields Tryz.underlying53 h hr hl
  have hc : cs.length = 5 := hcl.trans (by kernel_rfl)
  clear hcl
  obtain ⟨v0, v1, v2, v3, v4, rfl⟩ := len5 hc
  obtain ⟨d0, p0, t0, r0, _⟩ := hf 0 9 0 1 _ rfl rfl rfl (by kernel_rfl)
  obtain ⟨d1, p1, t1, r1, _⟩ := hf 1 9 1 1 _ rfl rfl rfl (by kernel_rfl)
  obtain ⟨d2, p2, t2, r2, l2⟩ := hf 2 51 2 1 _ rfl rfl rfl (by kernel_rfl)
  obtain ⟨d3, p3, t3, r3, _⟩ := hf 3 9 3 1 _ rfl rfl rfl (by kernel_rfl)
  obtain ⟨d4, p4, t4, _, _⟩ := hf 4 3 4 1 _ rfl rfl rfl (by kernel_rfl)
  obtain ⟨x0, e0, z0⟩ := q_str t0 r0
  obtain ⟨x1, e1, z1⟩ := q_str t1 r1
  obtain ⟨x2, z2⟩ := q_want t2 r2 l2
  obtain ⟨x3, e3, z3⟩ := q_str t3 r3
  obtain ⟨x4, e4, z4⟩ := q_int t4
  simp at e0 e1 z2 e3 e4
  subst e0 e1 e3 e4
  exact ⟨⟨x0, x1, x2, x3, x4⟩, v2, rfl, z0, z1, z3, z4, z2⟩
theorem q_sps (h : DataW.trod enc Tryz.prog w 0 (fun _ => true) true fuel 61 cs = some (d, ps)) (hr : InReach Tryz.prog 61 d) (hl : Lows w ps) : ∃ xs, RS RSp 5 w cs xs := by
  obtain ⟨xs, hx⟩ := open_RSl (R := RSp) (k := 5) (by' := 80) Tryz.underlying61 (by kernel_rfl) (by decide) (by kernel_rfl) (fun _ _ _ _ h r l => q_sp h r l) h hr hl
  exact ⟨xs, hx.rs (by decide)⟩
theorem q_strs (h : DataW.trod enc Tryz.prog w 0 (fun _ => true) true fuel 67 cs = some (d, ps)) (hr : InReach Tryz.prog 67 d) (hl : Lows w ps) : ∃ xs, RFt w cs xs := by
  obtain ⟨xs, a, c, h1, h2, h3, h4, _, h6⟩ := open_RSl (R := RStr) (k := 1) (by' := 16) Tryz.underlying67 (by kernel_rfl) (by decide) (by kernel_rfl) (fun _ _ _ _ h r _ => q_str h r) h hr hl
  refine ⟨xs, a, c, h1, ⟨h3, h2⟩, fun h0 => ?_, by unfold reachBytes at h4; omega⟩
  obtain ⟨b, off, e, hlt, hc⟩ := h6 h0
  refine ⟨b, off, e, hlt, fun i z hz => ?_⟩
  obtain ⟨us, _, u2, u3, u4⟩ := hc i z hz
  have := u2 0 (by omega)
  rw [u3] at this
  exact ⟨by simpa using this, u4⟩
theorem q_bools (h : DataW.trod enc Tryz.prog w 0 (fun _ => true) true fuel 23 cs = some (d, ps)) (hr : InReach Tryz.prog 23 d) (hl : Lows w ps) : ∃ (a : Option Addr) (c : Nat) (zs : List Bool), cs = [.slice a zs.length c] ∧ (zs.length ≤ c ∧ (a = none → c = 0)) ∧ Bools w a zs := by
  obtain ⟨xs, a, c, h1, h2, h3, h4, _, h6⟩ := open_RSl (R := RB) (k := 1) (by' := 1) Tryz.underlying23 (by kernel_rfl) (by decide) (by kernel_rfl) (fun _ _ _ _ h _ _ => (by obtain ⟨n, rfl, _⟩ := DataW.trod_bool Tryz.underlying4 h; exact ⟨n, rfl⟩)) h hr hl
  refine ⟨a, c, xs, h1, ⟨h3, h2⟩, fun h0 => ?_, by unfold reachBytes at h4; omega⟩
  obtain ⟨b, off, e, hlt, hc⟩ := h6 h0
  refine ⟨b, off, e, hlt, fun i z hz => ?_⟩
  obtain ⟨us, _, u2, u3⟩ := hc i z hz
  have := u2 0 (by omega)
  rw [u3] at this
  simpa using this
theorem q_rc (h : DataW.trod enc Tryz.prog w 0 (fun _ => true) true fuel 69 cs = some (d, ps)) (hr : InReach Tryz.prog 69 d) (hl : Lows w ps) : ∃ x, RRc w cs x := by
  obtain ⟨hcl, n, hf⟩ := open_fields Tryz.underlying69 h hr hl
  have hc : cs.length = 13 := hcl.trans (by kernel_rfl)
  clear hcl
  obtain ⟨v0, v1, v2, v3, v4, v5, v6, v7, v8, v9, v10, v11, v12, rfl⟩ := len13 hc
  obtain ⟨d0, p0, t0, r0, _⟩ := hf 0 9 0 1 _ rfl rfl rfl (by kernel_rfl)
  obtain ⟨d1, p1, t1, r1, _⟩ := hf 1 9 1 1 _ rfl rfl rfl (by kernel_rfl)
  obtain ⟨d2, p2, t2, r2, _⟩ := hf 2 9 2 1 _ rfl rfl rfl (by kernel_rfl)
  obtain ⟨d3, p3, t3, r3, _⟩ := hf 3 9 3 1 _ rfl rfl rfl (by kernel_rfl)
  obtain ⟨d4, p4, t4, r4, l4⟩ := hf 4 66 4 3 _ rfl rfl rfl (by kernel_rfl)
  obtain ⟨d5, p5, t5, r5, _⟩ := hf 5 9 7 1 _ rfl rfl rfl (by kernel_rfl)
  obtain ⟨d6, p6, t6, _, _⟩ := hf 6 3 8 1 _ rfl rfl rfl (by kernel_rfl)
  obtain ⟨d7, p7, t7, _, _⟩ := hf 7 3 9 1 _ rfl rfl rfl (by kernel_rfl)
  obtain ⟨d8, p8, t8, r8, l8⟩ := hf 8 61 10 1 _ rfl rfl rfl (by kernel_rfl)
  obtain ⟨d9, p9, t9, r9, l9⟩ := hf 9 61 11 1 _ rfl rfl rfl (by kernel_rfl)
  obtain ⟨d10, p10, t10, r10, l10⟩ := hf 10 67 12 1 _ rfl rfl rfl (by kernel_rfl)
  obtain ⟨x0, e0, z0⟩ := q_str t0 r0
  obtain ⟨x1, e1, z1⟩ := q_str t1 r1
  obtain ⟨x2, e2, z2⟩ := q_str t2 r2
  obtain ⟨x3, e3, z3⟩ := q_str t3 r3
  obtain ⟨x4, z4⟩ := q_ver t4 r4 l4
  obtain ⟨x5, e5, z5⟩ := q_str t5 r5
  obtain ⟨x6, e6, z6⟩ := q_int t6
  obtain ⟨x7, e7, z7⟩ := q_int t7
  obtain ⟨x8, z8⟩ := q_sps t8 r8 l8
  obtain ⟨x9, z9⟩ := q_sps t9 r9 l9
  obtain ⟨x10, z10⟩ := q_strs t10 r10 l10
  simp at e0 e1 e2 e3 z4 e5 e6 e7 z8 z9 z10
  have h4 := z4
  obtain ⟨pp, ll, e4, _, _, _⟩ := h4
  simp at e4
  obtain ⟨rfl, rfl, rfl⟩ := e4
  subst e0 e1 e2 e3 e5 e6 e7
  exact ⟨⟨x0, x1, x2, x3, x4, x5, x6, x7, x8, x9, x10⟩, _, _, _, _, _, _, rfl, z0, z1, z2, z3, z5, z6, z7, z4, z8, z9, z10⟩
theorem q_rcs (h : DataW.trod enc Tryz.prog w 0 (fun _ => true) true fuel 22 cs = some (d, ps)) (hr : InReach Tryz.prog 22 d) (hl : Lows w ps) : ∃ xs, RS RRc 13 w cs xs := by
  obtain ⟨xs, hx⟩ := open_RSl (R := RRc) (k := 13) (by' := 224) Tryz.underlying22 (by kernel_rfl) (by decide) (by kernel_rfl) (fun _ _ _ _ h r l => q_rc h r l) h hr hl
  exact ⟨xs, hx.rs (by decide)⟩
end
end Go.Proofs.YtnmcajinaigcjaaGreatDoor
