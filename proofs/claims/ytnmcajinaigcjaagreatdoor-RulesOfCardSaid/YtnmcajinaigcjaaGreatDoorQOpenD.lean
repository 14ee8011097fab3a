/- Demands and choices that came in. -/
import Derived.Test.YtnmcajinaigcjaaGreatDoorQOpen
namespace Go.Proofs.YtnmcajinaigcjaaGreatDoor
open Go.ChangeShapes Go.WideShapes Go.RowKit
open Q (It Ver Tm Sp Rc Dm)
section
variable {H : Type} {enc : TypeId × Value → H} {w : World} {fuel : Nat} {cs : List Value} {d : DataW H} {ps : List MemPlace}
theorem q_dm (h : DataW.trod enc Tryz.prog w 0 (fun _ => true) true fuel 55 cs = some (d, ps)) (hr : InReach Tryz.prog 55 d) (hl : Lows w ps) : ∃ x, RDm w cs x := by
  obtain ⟨hcl, n, hf⟩ := open_fields Tryz.underlying55 h hr hl
  have hc : cs.length = 6 := hcl.trans (by kernel_rfl)
  clear hcl
  obtain ⟨v0, v1, v2, v3, v4, v5, rfl⟩ := len6 hc
  obtain ⟨d0, p0, t0, _, _⟩ := hf 0 3 0 1 _ rfl rfl rfl (by kernel_rfl)
  obtain ⟨d1, p1, t1, r1, l1⟩ := hf 1 53 1 5 _ rfl rfl rfl (by kernel_rfl)
  obtain ⟨x, e0, z0⟩ := q_int t0
  obtain ⟨y, z1⟩ := q_sp t1 r1 l1
  simp at e0 z1
  subst e0
  exact ⟨⟨x, y⟩, _, rfl, z0, z1⟩
theorem q_dms (h : DataW.trod enc Tryz.prog w 0 (fun _ => true) true fuel 40 cs = some (d, ps)) (hr : InReach Tryz.prog 40 d) (hl : Lows w ps) : ∃ xs, RS RDm 6 w cs xs := by
  obtain ⟨xs, hx⟩ := open_RSl (R := RDm) (k := 6) (by' := 88) Tryz.underlying40 (by kernel_rfl) (by decide) (by kernel_rfl) (fun _ _ _ _ h r l => q_dm h r l) h hr hl
  exact ⟨xs, hx.rs (by decide)⟩
/-- a choice: records, which are on, which are chosen, demands -/
structure Cho (w : World) (a o b da : Option Addr) (c oc e dc : Nat) (l : List Rc) (on ch : List Bool) (ds : List Dm) : Prop where
  recs : Sl RRc 13 w a l
  ons : Bools w o on
  chs : Bools w b ch
  dms : Sl RDm 6 w da ds
  cr : l.length ≤ c ∧ (a = none → c = 0)
  co : on.length ≤ oc ∧ (o = none → oc = 0)
  ce : ch.length ≤ e ∧ (b = none → e = 0)
  cd : ds.length ≤ dc ∧ (da = none → dc = 0)
theorem q_choice (h : DataW.trod enc Tryz.prog w 0 (fun _ => true) true fuel 42 cs = some (d, ps)) (hr : InReach Tryz.prog 42 d) (hl : Lows w ps) :
    ∃ a o b da c oc e dc l on ch ds, cs = [.slice a l.length c, .slice o on.length oc, .slice b ch.length e, .slice da ds.length dc] ∧ Cho w a o b da c oc e dc l on ch ds := by
  obtain ⟨hcl, n, hf⟩ := open_fields Tryz.underlying42 h hr hl
  have hc : cs.length = 4 := hcl.trans (by kernel_rfl)
  clear hcl
  obtain ⟨v0, v1, v2, v3, rfl⟩ := len4 hc
  obtain ⟨d0, p0, t0, r0, l0⟩ := hf 0 22 0 1 _ rfl rfl rfl (by kernel_rfl)
  obtain ⟨d1, p1, t1, r1, l1⟩ := hf 1 23 1 1 _ rfl rfl rfl (by kernel_rfl)
  obtain ⟨d2, p2, t2, r2, l2⟩ := hf 2 23 2 1 _ rfl rfl rfl (by kernel_rfl)
  obtain ⟨d3, p3, t3, r3, l3⟩ := hf 3 40 3 1 _ rfl rfl rfl (by kernel_rfl)
  obtain ⟨l, a, c, e0, k0, z0⟩ := q_rcs t0 r0 l0
  obtain ⟨o, oc, on, e1, k1, z1⟩ := q_bools t1 r1 l1
  obtain ⟨b, e, ch, e2, k2, z2⟩ := q_bools t2 r2 l2
  obtain ⟨ds, da, dc, e3, k3, z3⟩ := q_dms t3 r3 l3
  simp at e0 e1 e2 e3
  subst e0 e1 e2 e3
  exact ⟨a, o, b, da, c, oc, e, dc, l, on, ch, ds, rfl, z0, z1, z2, z3, k0, k1, k2, k3⟩
end
end Go.Proofs.YtnmcajinaigcjaaGreatDoor
