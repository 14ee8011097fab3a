/- How versions, constraints, specs and records lie in memory. -/
import Derived.Test.YtnmcajinaigcjaaGreatDoorProg
import Derived.Test.YtnmcajinaigcjaaGreatDoorQMath
import Derived.WalkKit
import Derived.WalkLawsBesides
import Derived.WalkSpells
import Derived.Deep.QuietTactic
import Derived.BigQuiet
import Derived.Lib.Hide
import Derived.Outline
import Derived.Below
namespace Go.Proofs.YtnmcajinaigcjaaGreatDoor
open Go.RowKit
open Q (It Ver Tm Sp Rc Dm)

def I64 (z : Int) : Prop := -9223372036854775808 ≤ z ∧ z ≤ 9223372036854775807
def SzS (s : ByteArray) : Prop := s.size ≤ 140737488355328
abbrev Rd (α : Type) := World → List Value → α → Prop
/-- a slice whose elements are k cells each, read by R -/
structure Sl {α : Type} (R : Rd α) (k : Nat) (w : World) (a : Option Addr) (xs : List α) : Prop where
  addr : 0 < xs.length → ∃ b off, a = some ⟨b, off, none⟩ ∧ b < w.heap.size ∧ ∀ (i : Nat) (x : α), xs[i]? = some x → ∃ us : List Value, us.length = k ∧ (∀ j, j < k → w.cell? ⟨b, off + i * k + j, none⟩ = us[j]?) ∧ R w us x
  len : xs.length ≤ 5864062014805
def RS {α : Type} (R : Rd α) (k : Nat) : Rd (List α) := fun w us xs => ∃ a c, us = [.slice a xs.length c] ∧ (xs.length ≤ c ∧ (a = none → c = 0)) ∧ Sl R k w a xs
/-- what is read stays when all that lay stays -/
def Stays {α : Type} (R : Rd α) : Prop := ∀ w w' us x, Below w.heap.size w w' → R w us x → R w' us x
theorem Sl.below {α : Type} {R : Rd α} {k : Nat} (hR : Stays R) {w w' : World} {a : Option Addr} {xs : List α} (h : Sl R k w a xs) (hb : Below w.heap.size w w') : Sl R k w' a xs := by
  refine ⟨fun h0 => ?_, h.len⟩
  obtain ⟨b, off, e, hlt, hc⟩ := h.addr h0
  refine ⟨b, off, e, Nat.lt_of_lt_of_le hlt hb.size, fun i x hx => ?_⟩
  obtain ⟨us, u1, u2, u3⟩ := hc i x hx
  exact ⟨us, u1, fun j hj => (hb.cell (p := ⟨b, off + i * k + j, none⟩) hlt).trans (u2 j hj), hR _ _ _ _ hb u3⟩
theorem stays_RS {α : Type} {R : Rd α} {k : Nat} (hR : Stays R) : Stays (RS R k) := fun _ _ _ _ hb ⟨a, c, h1, h2, h3⟩ => ⟨a, c, h1, h2, h3.below hR hb⟩
def RIt : Rd It := fun _ us x => us = [.int .i64 x.n, .string x.word] ∧ I64 x.n ∧ SzS x.word
theorem stays_RIt : Stays RIt := fun _ _ _ _ _ h => h
def RVer : Rd Ver := fun w us v => ∃ p l, us = [.int .i64 v.ep, p, l] ∧ I64 v.ep ∧ RS (RS RIt 2) 1 w [p] v.parts ∧ RS (RS RIt 2) 1 w [l] v.loc
theorem stays_RVer : Stays RVer := fun _ _ _ _ hb ⟨p, l, h1, h2, h3, h4⟩ => ⟨p, l, h1, h2, stays_RS (stays_RS stays_RIt) _ _ _ _ hb h3, stays_RS (stays_RS stays_RIt) _ _ _ _ hb h4⟩
def RTm : Rd Tm := fun w us t => ∃ vs, us = .string t.op :: vs ∧ SzS t.op ∧ RVer w vs t.ver
theorem stays_RTm : Stays RTm := fun _ _ _ _ hb ⟨vs, h1, h2, h3⟩ => ⟨vs, h1, h2, stays_RVer _ _ _ _ hb h3⟩
def RSp : Rd Sp := fun w us s => ∃ r, us = [.string s.chan, .string s.name, r, .string s.build, .int .i64 s.num] ∧ SzS s.chan ∧ SzS s.name ∧ SzS s.build ∧ I64 s.num ∧ RS (RS RTm 4) 1 w [r] s.rows
theorem stays_RSp : Stays RSp := fun _ _ _ _ hb ⟨r, h1, h2, h3, h4, h5, h6⟩ => ⟨r, h1, h2, h3, h4, h5, stays_RS (stays_RS stays_RTm) _ _ _ _ hb h6⟩
def RStr : Rd ByteArray := fun _ us s => us = [.string s] ∧ SzS s
theorem stays_RStr : Stays RStr := fun _ _ _ _ _ h => h
/-- a slice of texts -/
structure Strs (w : World) (a : Option Addr) (m : List ByteArray) : Prop where
  addr : 0 < m.length → ∃ b off, a = some ⟨b, off, none⟩ ∧ b < w.heap.size ∧ ∀ i z, m[i]? = some z → w.cell? ⟨b, off + i, none⟩ = some (.string z) ∧ SzS z
  len : m.length ≤ 8796093021952
theorem Strs.below {w w' : World} {a : Option Addr} {zs : List ByteArray} (h : Strs w a zs) (hb : Below w.heap.size w w') : Strs w' a zs := by
  refine ⟨fun h0 => ?_, h.len⟩
  obtain ⟨b, off, rfl, hlt, hc⟩ := h.addr h0
  exact ⟨b, off, rfl, Nat.lt_of_lt_of_le hlt hb.size, fun i z hz => ⟨(hb.cell (p := ⟨b, off + i, none⟩) hlt).trans (hc i z hz).1, (hc i z hz).2⟩⟩
def RFt : Rd (List ByteArray) := fun w us xs => ∃ a c, us = [.slice a xs.length c] ∧ (xs.length ≤ c ∧ (a = none → c = 0)) ∧ Strs w a xs
theorem stays_RFt : Stays RFt := fun _ _ _ _ hb ⟨a, c, h1, h2, h3⟩ => ⟨a, c, h1, h2, h3.below hb⟩
def RRc : Rd Rc := fun w us r => ∃ e p l d c f, us = [.string r.chan, .string r.file, .string r.name, .string r.text, e, p, l, .string r.build, .int .i64 r.num, .int .i64 r.time, d, c, f] ∧
  SzS r.chan ∧ SzS r.file ∧ SzS r.name ∧ SzS r.text ∧ SzS r.build ∧ I64 r.num ∧ I64 r.time ∧ RVer w [e, p, l] r.ver ∧ RS RSp 5 w [d] r.deps ∧ RS RSp 5 w [c] r.cons ∧ RFt w [f] r.feats
theorem stays_RRc : Stays RRc := fun _ _ _ _ hb ⟨e, p, l, d, c, f, h0, h1, h2, h3, h4, h5, h6, h7, h8, h9, h10, h11⟩ =>
  ⟨e, p, l, d, c, f, h0, h1, h2, h3, h4, h5, h6, h7, stays_RVer _ _ _ _ hb h8, stays_RS stays_RSp _ _ _ _ hb h9, stays_RS stays_RSp _ _ _ _ hb h10, stays_RFt _ _ _ _ hb h11⟩
def RDm : Rd Dm := fun w us d => ∃ vs, us = .int .i64 d.how :: vs ∧ I64 d.how ∧ RSp w vs d.spec
theorem stays_RDm : Stays RDm := fun _ _ _ _ hb ⟨vs, h1, h2, h3⟩ => ⟨vs, h1, h2, stays_RSp _ _ _ _ hb h3⟩
/-- a slice of bools reads as m -/
structure Bools (w : World) (a : Option Addr) (m : List Bool) : Prop where
  addr : 0 < m.length → ∃ b off, a = some ⟨b, off, none⟩ ∧ b < w.heap.size ∧ ∀ i z, m[i]? = some z → w.cell? ⟨b, off + i, none⟩ = some (.bool z)
  len : m.length ≤ 140737488351232
theorem Bools.below {w w' : World} {a : Option Addr} {zs : List Bool} (h : Bools w a zs) (hb : Below w.heap.size w w') : Bools w' a zs := by
  refine ⟨fun h0 => ?_, h.len⟩
  obtain ⟨b, off, rfl, hlt, hc⟩ := h.addr h0
  exact ⟨b, off, rfl, Nat.lt_of_lt_of_le hlt hb.size, fun i z hz => (hb.cell (p := ⟨b, off + i, none⟩) hlt).trans (hc i z hz)⟩
theorem ret_bool {a b : Bool} (h : a = b) : Ending.returned (.bool a) = .returned (.bool b) := by rw [h]
theorem ret_int {k : IntKind} {a b : Int} (h : a = b) : Ending.returned (.int k a) = .returned (.int k b) := by rw [h]
theorem bcell {W w1 : World} (hb : Below W.heap.size W w1) : (∀ b o, b < W.heap.size → w1.cell? ⟨b, o, none⟩ = W.cell? ⟨b, o, none⟩) ∧ (∀ b o, b < W.heap.size → w1.frozen? ⟨b, o, none⟩ = W.frozen? ⟨b, o, none⟩) :=
  ⟨fun b o h => hb.cell (p := ⟨b, o, none⟩) h, fun b o h => hb.frozen (p := ⟨b, o, none⟩) h⟩
theorem rel {P : Program} {f : FuncId} {args : Array Value} {W w : World} {Q : Ending → Prop} (hb : Below W.heap.size W w) (h : Calls P f args w fun e w' => Q e ∧ Below w.heap.size w w') : Calls P f args w fun e w' => Q e ∧ Below W.heap.size W w' :=
  h.mono fun _ _ ⟨h1, h2⟩ => ⟨h1, hb.trans (h2.mono hb.size)⟩
theorem fin {w W w2 : World} (h0 : Below w.heap.size w W) (hb : Below W.heap.size W w2) : Below w.heap.size w w2 := h0.trans (hb.mono h0.size)
theorem fin_alloc {w W w2 : World} (h0 : Below w.heap.size w W) (hb : Below W.heap.size W w2) (o : Obj) : Below w.heap.size w (w2.alloc o) := fin h0 (hb.alloc hb.size _)
/-- two cells and four -/
theorem us2 {us : List Value} {v0 v1 : Value} {f : Nat → Option Value} (e : us = [v0, v1]) (h : ∀ j, j < 2 → f j = us[j]?) : f 0 = some v0 ∧ f 1 = some v1 := by
  subst e; exact ⟨h 0 (by omega), h 1 (by omega)⟩
end Go.Proofs.YtnmcajinaigcjaaGreatDoor
