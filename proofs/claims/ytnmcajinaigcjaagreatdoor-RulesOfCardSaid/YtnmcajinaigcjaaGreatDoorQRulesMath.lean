/- What rules computes: plain. -/
import Derived.Test.YtnmcajinaigcjaaGreatDoorQMath
namespace Go.Proofs.YtnmcajinaigcjaaGreatDoor.Q

def against (s : Sp) (r : Rc) : Bool := (r.name.toList == s.name.toList) && !mt s r
/-- is one that is chosen such -/
def some_ (p : Rc → Bool) (l : List Rc) (ch : List Bool) : Bool := (l.zip ch).any fun x => x.2 && p x.1
def holds (l : List Rc) (ch : List Bool) (d : Dm) : Bool :=
  if ch.length = l.length then (if d.how = 1 then some_ (mt d.spec) l ch else if d.how = 2 then !some_ (mt d.spec) l ch else if d.how = 3 then !some_ (against d.spec) l ch else false) else false
def fits (l : List Rc) (ch : List Bool) (r : Rc) : Bool := (r.deps.all fun s => holds l ch ⟨1, s⟩) && (r.cons.all fun s => holds l ch ⟨3, s⟩)
/-- the places, from a number on, of the demands that don't hold -/
def brokenFrom (l : List Rc) (on ch : List Bool) : Nat → List Dm → List Int
  | _, [] => []
  | k, d :: ds => (if on.length ≠ l.length ∨ ch.length ≠ l.length ∨ holds l ch d = false then [(k : Int)] else []) ++ brokenFrom l on ch (k + 1) ds
/-- the record at a place is chosen, and right -/
def okAt (l : List Rc) (on ch : List Bool) (i : Nat) : Bool :=
  match l[i]?, ch[i]? with
  | some r, some true => (on[i]? == some true) && !((List.range i).any fun j => (ch[j]? == some true) && ((l[j]?).map (·.name.toList) == some r.name.toList)) && fits l ch r
  | _, _ => true
def valid (l : List Rc) (on ch : List Bool) (ds : List Dm) : Bool :=
  decide (on.length = l.length) && decide (ch.length = l.length) && ((List.range l.length).all fun i => okAt l on ch i) && ds.all (fun d => holds l ch d)
theorem some_hit {p : Rc → Bool} {l : List Rc} {ch : List Bool} {k : Nat} {r : Rc} (hr : l[k]? = some r) (hc : ch[k]? = some true) (hp : p r = true) : some_ p l ch = true := by
  unfold some_
  rw [List.any_eq_true]
  refine ⟨(r, true), List.mem_of_getElem? (i := k) ?_, by simp [hp]⟩
  rw [List.getElem?_zip_eq_some]; exact ⟨hr, hc⟩
theorem some_snoc {p : Rc → Bool} {l : List Rc} {ch : List Bool} {k : Nat} {r : Rc} {c : Bool} (hr : l[k]? = some r) (hc : ch[k]? = some c) (h : some_ p (l.take k) (ch.take k) = false) (hp : (c && p r) = false) : some_ p (l.take (k + 1)) (ch.take (k + 1)) = false := by
  unfold some_ at *
  rw [List.take_add_one, List.take_add_one, hr, hc]
  have e : (l.take k).length = (ch.take k).length := by
    have h1 := (List.getElem?_eq_some_iff.1 hr).1
    have h2 := (List.getElem?_eq_some_iff.1 hc).1
    simp; omega
  rw [show (some r).toList = [r] from rfl, show (some c).toList = [c] from rfl, List.zip_append e, List.any_append, h]
  simpa using hp
end Go.Proofs.YtnmcajinaigcjaaGreatDoor.Q
