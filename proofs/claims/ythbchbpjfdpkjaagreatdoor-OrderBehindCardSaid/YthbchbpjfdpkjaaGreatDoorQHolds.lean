/- Contracts of rules.against, rules.Holds. -/
import Derived.Test.YthbchbpjfdpkjaaGreatDoorQMatch
import Derived.Test.YthbchbpjfdpkjaaGreatDoorQRulesMath
namespace Go.Proofs.YthbchbpjfdpkjaaGreatDoor
open Go.RowKit
open Q (It Ver Tm Sp Rc Dm)

/-- a demand in its box -/
structure DBox (w : World) (D : Nat) (d : Dm) (ra : Option Addr) (rc : Nat) : Prop where
  lt : D < w.heap.size
  c0 : w.cell? ⟨D, 0, none⟩ = some (.int .i64 d.how)
  c1 : w.cell? ⟨D, 1, none⟩ = some (.string d.spec.chan)
  c2 : w.cell? ⟨D, 2, none⟩ = some (.string d.spec.name)
  c3 : w.cell? ⟨D, 3, none⟩ = some (.slice ra d.spec.rows.length rc)
  c4 : w.cell? ⟨D, 4, none⟩ = some (.string d.spec.build)
  c5 : w.cell? ⟨D, 5, none⟩ = some (.int .i64 d.spec.num)
  spec : SpAt w d.spec ra rc
theorem DBox.below {w w' : World} {D : Nat} {d : Dm} {ra : Option Addr} {rc : Nat} (h : DBox w D d ra rc) (hb : Below w.heap.size w w') : DBox w' D d ra rc :=
  ⟨Nat.lt_of_lt_of_le h.lt hb.size, (hb.cell (p := ⟨D, 0, none⟩) h.lt).trans h.c0, (hb.cell (p := ⟨D, 1, none⟩) h.lt).trans h.c1, (hb.cell (p := ⟨D, 2, none⟩) h.lt).trans h.c2, (hb.cell (p := ⟨D, 3, none⟩) h.lt).trans h.c3, (hb.cell (p := ⟨D, 4, none⟩) h.lt).trans h.c4, (hb.cell (p := ⟨D, 5, none⟩) h.lt).trans h.c5, h.spec.below hb⟩
theorem Sl.cellsRc {w : World} {a : Option Addr} {xs : List Rc} (h : Sl RRc 13 w a xs) {i : Nat} {r : Rc} (hx : xs[i]? = some r) :
    ∃ b off pa la pc lc da dc ca cc fa fc, a = some ⟨b, off, none⟩ ∧ b < w.heap.size ∧ (w.cell? ⟨b, off + i * 13, none⟩ = some (.string r.chan) ∧ w.cell? ⟨b, off + i * 13 + 1, none⟩ = some (.string r.file) ∧ w.cell? ⟨b, off + i * 13 + 2, none⟩ = some (.string r.name) ∧ w.cell? ⟨b, off + i * 13 + 3, none⟩ = some (.string r.text) ∧ w.cell? ⟨b, off + i * 13 + 4, none⟩ = some (.int .i64 r.ver.ep) ∧ w.cell? ⟨b, off + i * 13 + 5, none⟩ = some (.slice pa r.ver.parts.length pc) ∧ w.cell? ⟨b, off + i * 13 + 6, none⟩ = some (.slice la r.ver.loc.length lc) ∧ w.cell? ⟨b, off + i * 13 + 7, none⟩ = some (.string r.build) ∧ w.cell? ⟨b, off + i * 13 + 8, none⟩ = some (.int .i64 r.num) ∧ w.cell? ⟨b, off + i * 13 + 9, none⟩ = some (.int .i64 r.time) ∧ w.cell? ⟨b, off + i * 13 + 10, none⟩ = some (.slice da r.deps.length dc) ∧ w.cell? ⟨b, off + i * 13 + 11, none⟩ = some (.slice ca r.cons.length cc) ∧ w.cell? ⟨b, off + i * 13 + 12, none⟩ = some (.slice fa r.feats.length fc)) ∧ RcAt w r pa la pc lc ∧ Sl RSp 5 w da r.deps ∧ Sl RSp 5 w ca r.cons ∧ Strs w fa r.feats := by
  obtain ⟨b, off, e, hlt, hc⟩ := h.addr (by have := (List.getElem?_eq_some_iff.1 hx).1; omega)
  obtain ⟨us, u1, u2, ve, vp, vl, vd, vc, vf, u3, z1, z2, z3, z4, z5, z6, z7, z8, ⟨da, dc, e1, _, z9⟩, ⟨ca, cc, e2, _, z10⟩, ⟨fa, fc, e3, _, z11⟩⟩ := hc i r hx
  obtain ⟨pa, la, pc, lc, u5, u6⟩ := z8.at
  simp at u5 e1 e2 e3
  obtain ⟨rfl, rfl, rfl⟩ := u5
  subst e1 e2 e3
  rw [u3] at u2
  exact ⟨b, off, pa, la, pc, lc, da, dc, ca, cc, fa, fc, e, hlt, ⟨by simpa using u2 0 (by omega), by simpa using u2 1 (by omega), by simpa using u2 2 (by omega), by simpa using u2 3 (by omega), by simpa using u2 4 (by omega), by simpa using u2 5 (by omega), by simpa using u2 6 (by omega), by simpa using u2 7 (by omega), by simpa using u2 8 (by omega), by simpa using u2 9 (by omega), by simpa using u2 10 (by omega), by simpa using u2 11 (by omega), by simpa using u2 12 (by omega)⟩, ⟨u6, z5⟩, z9, z10, z11⟩
/-- the boxes of records and of what is chosen -/
structure RBox (w : World) (R C : Nat) (a b : Option Addr) (c e : Nat) (l : List Rc) (ch : List Bool) : Prop where
  rlt : R < w.heap.size
  clt : C < w.heap.size
  r0 : w.cell? ⟨R, 0, none⟩ = some (.slice a l.length c)
  c0 : w.cell? ⟨C, 0, none⟩ = some (.slice b ch.length e)
  recs : Sl RRc 13 w a l
  bools : Bools w b ch
  len : ch.length = l.length
theorem RBox.below {w w' : World} {R C : Nat} {a b : Option Addr} {c e : Nat} {l : List Rc} {ch : List Bool} (h : RBox w R C a b c e l ch) (hb : Below w.heap.size w w') : RBox w' R C a b c e l ch :=
  ⟨Nat.lt_of_lt_of_le h.rlt hb.size, Nat.lt_of_lt_of_le h.clt hb.size, (hb.cell (p := ⟨R, 0, none⟩) h.rlt).trans h.r0, (hb.cell (p := ⟨C, 0, none⟩) h.clt).trans h.c0, h.recs.below stays_RRc hb, h.bools.below hb, h.len⟩
end Go.Proofs.YthbchbpjfdpkjaaGreatDoor
