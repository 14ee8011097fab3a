/- Versions, constraints, specs and records as plain data, and what the program computes of them. No program in sight. -/
import GoSem.Op.String
namespace Go.Proofs.YtnmcajinaigcjaaGreatDoor
namespace Q
structure It where
  n : Int
  word : ByteArray
structure Ver where
  ep : Int
  parts : List (List It)
  loc : List (List It)
structure Tm where
  op : ByteArray
  ver : Ver
structure Sp where
  chan : ByteArray
  name : ByteArray
  rows : List (List Tm)
  build : ByteArray
  num : Int
structure Rc where
  chan : ByteArray
  file : ByteArray
  name : ByteArray
  text : ByteArray
  ver : Ver
  build : ByteArray
  num : Int
  time : Int
  deps : List Sp
  cons : List Sp
  feats : List ByteArray
structure Dm where
  how : Int
  spec : Sp

/-- an item's class by its word -/
def clsL (l : List UInt8) : Int := if l == [100, 101, 118] then 0 else if l == [] then 2 else if l == [112, 111, 115, 116] then 3 else 1
def cls (x : It) : Int := clsL x.word.toList
theorem clsL_bd (l : List UInt8) : 0 ≤ clsL l ∧ clsL l ≤ 3 := by unfold clsL; repeat' split <;> omega
abbrev less := Go.Op.bytesLess
def cmpI (a b : Int) : Int := if a < b then -1 else if b < a then 1 else 0
def cmpS (a b : ByteArray) : Int := if less a.toList b.toList then -1 else if !(less a.toList b.toList || a.toList == b.toList) then 1 else 0
def or3 (x y z : Int) : Int := if x = 0 then (if y = 0 then z else y) else x
def zero : It := ⟨0, ⟨#[]⟩⟩
def cmpIt (a b : It) : Int := or3 (cmpI (cls a) (cls b)) (cmpS a.word b.word) (cmpI a.n b.n)
def at1 {α : Type} (l : List α) (i : Nat) (z : α) : α := (l[i]?).getD z
/-- two rows held against each other, from a place on -/
def rowsFrom {α : Type} (z : α) (f : α → α → Int) (a b : List α) : Nat → Nat → Int
  | 0, _ => 0
  | n + 1, i => if f (at1 a i z) (at1 b i z) ≠ 0 then f (at1 a i z) (at1 b i z) else rowsFrom z f a b n (i + 1)
def rows {α : Type} (z : α) (f : α → α → Int) (a b : List α) : Int := rowsFrom z f a b (max a.length b.length) 0
def cmpC (a b : List It) : Int := rows zero cmpIt a b
def cmpV (a b : Ver) : Int := or3 (cmpI a.ep b.ep) (rows [] cmpC a.parts b.parts) (rows [] cmpC a.loc b.loc)
/-- does a version begin with another one -/
def beginsC (a : List It) (p : List It) : Bool := (List.range p.length).all fun i => cmpIt (at1 a i zero) (at1 p i zero) == 0
def begins (v p : Ver) : Bool :=
  !(v.ep != p.ep || decide (0 < p.loc.length) || p.parts.length == 0) &&
  ((List.range (p.parts.length - 1)).all fun i => cmpC (at1 v.parts i []) (at1 p.parts i []) == 0) &&
  beginsC (at1 v.parts (p.parts.length - 1) []) (at1 p.parts (p.parts.length - 1) [])
def shorter (v : Ver) : Ver := ⟨v.ep, v.parts.take (v.parts.length - 1), []⟩
def sat (t : Tm) (v : Ver) : Bool :=
  if t.op.toList == [42] then true
  else if t.op.toList == [61, 61] then cmpV v t.ver == 0
  else if t.op.toList == [33, 61] then cmpV v t.ver != 0
  else if t.op.toList == [62, 61] then decide (0 ≤ cmpV v t.ver)
  else if t.op.toList == [60, 61] then decide (cmpV v t.ver ≤ 0)
  else if t.op.toList == [62] then decide (0 < cmpV v t.ver)
  else if t.op.toList == [60] then decide (cmpV v t.ver < 0)
  else if t.op.toList == [61] then begins v t.ver
  else if t.op.toList == [126, 61] then decide (2 ≤ t.ver.parts.length) && decide (0 ≤ cmpV v t.ver) && begins v (shorter t.ver)
  else false
def has (rows : List (List Tm)) (v : Ver) : Bool := rows.any fun row => row.all fun t => sat t v
/-- does a pattern match a text -/
def globM : List UInt8 → List UInt8 → Bool
  | [], [] => true
  | [], _ :: _ => false
  | c :: p, [] => c == 42 && globM p []
  | c :: p, d :: s => if c == 42 then globM p (d :: s) || globM (c :: p) s else c == d && globM p s
termination_by p s => p.length + s.length
def mt (s : Sp) (r : Rc) : Bool :=
  (s.name.toList == r.name.toList) && (s.chan.toList == [] || s.chan.toList == r.chan.toList) && (s.num == -1 || s.num == r.num) &&
  (s.build.toList == [] || globM s.build.toList r.build.toList) && has s.rows r.ver

theorem cmpI_bd (a b : Int) : -1 ≤ cmpI a b ∧ cmpI a b ≤ 1 := by unfold cmpI; repeat' split <;> omega
theorem cmpS_bd (a b : ByteArray) : -1 ≤ cmpS a b ∧ cmpS a b ≤ 1 := by unfold cmpS; repeat' split <;> omega
theorem or3_bd {x y z : Int} (hx : -1 ≤ x ∧ x ≤ 1) (hy : -1 ≤ y ∧ y ≤ 1) (hz : -1 ≤ z ∧ z ≤ 1) : -1 ≤ or3 x y z ∧ or3 x y z ≤ 1 := by unfold or3; repeat' split <;> omega
theorem cmpIt_bd (a b : It) : -1 ≤ cmpIt a b ∧ cmpIt a b ≤ 1 := or3_bd (cmpI_bd _ _) (cmpS_bd _ _) (cmpI_bd _ _)
theorem rowsFrom_bd {α : Type} {z : α} {f : α → α → Int} (hf : ∀ a b, -1 ≤ f a b ∧ f a b ≤ 1) (a b : List α) : ∀ n i, -1 ≤ rowsFrom z f a b n i ∧ rowsFrom z f a b n i ≤ 1
  | 0, _ => by unfold rowsFrom; omega
  | n + 1, i => by unfold rowsFrom; split; exact hf _ _; exact rowsFrom_bd hf a b n (i + 1)
theorem cmpC_bd (a b : List It) : -1 ≤ cmpC a b ∧ cmpC a b ≤ 1 := rowsFrom_bd cmpIt_bd a b _ _
theorem cmpV_bd (a b : Ver) : -1 ≤ cmpV a b ∧ cmpV a b ≤ 1 := or3_bd (cmpI_bd _ _) (rowsFrom_bd cmpC_bd _ _ _ _) (rowsFrom_bd cmpC_bd _ _ _ _)
end Q
end Go.Proofs.YtnmcajinaigcjaaGreatDoor
