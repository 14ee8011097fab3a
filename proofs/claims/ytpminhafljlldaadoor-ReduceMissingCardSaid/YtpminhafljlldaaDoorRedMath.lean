/- Which records are kept, and which reached: plain facts, no program in sight. -/
namespace Go.Proofs.YtpminhafljlldaaDoor.R
section
variable {Sp Rc : Type} {deps : Rc → List Sp} {mt : Sp → Rc → Bool}

def On (k : List Bool) (i : Nat) : Prop := k[i]? = some true
def Sub (a b : List Bool) : Prop := ∀ i, On a i → On b i
/-- one that is on matches -/
def Has (mt : Sp → Rc → Bool) (l : List Rc) (k : List Bool) (s : Sp) : Prop := ∃ j q, On k j ∧ l[j]? = some q ∧ mt s q = true
/-- all that chosen ones need is chosen -/
def Whole (deps : Rc → List Sp) (mt : Sp → Rc → Bool) (l : List Rc) (k : List Bool) : Prop := ∀ i r, On k i → l[i]? = some r → ∀ s ∈ deps r, Has mt l k s
structure Kept (deps : Rc → List Sp) (mt : Sp → Rc → Bool) (l : List Rc) (on k : List Bool) : Prop where
  len : k.length = l.length
  sub : Sub k on
  whole : Whole deps mt l k
  most : ∀ k', Sub k' on → Whole deps mt l k' → Sub k' k
structure RCl (deps : Rc → List Sp) (mt : Sp → Rc → Bool) (l : List Rc) (on : List Bool) (roots : List Sp) (S : Nat → Prop) : Prop where
  root : ∀ i q, On on i → l[i]? = some q → (∃ s ∈ roots, mt s q = true) → S i
  step : ∀ k p i q, S k → On on k → l[k]? = some p → On on i → l[i]? = some q → (∃ s ∈ deps p, mt s q = true) → S i
def Rch (deps : Rc → List Sp) (mt : Sp → Rc → Bool) (l : List Rc) (on : List Bool) (roots : List Sp) (i : Nat) : Prop := ∀ S, RCl deps mt l on roots S → S i
structure Reached (deps : Rc → List Sp) (mt : Sp → Rc → Bool) (l : List Rc) (on : List Bool) (roots : List Sp) (r : List Bool) : Prop where
  len : r.length = l.length
  iff : ∀ i, On r i ↔ Rch deps mt l on roots i

theorem On.lt {k : List Bool} {i : Nat} (h : On k i) : i < k.length := (List.getElem?_eq_some_iff.1 h).1
theorem on_ext {a b : List Bool} (hl : a.length = b.length) (h : ∀ i, On a i ↔ On b i) : a = b := by
  apply List.ext_getElem hl
  intro i h1 h2
  have := h i
  unfold On at this
  rw [List.getElem?_eq_getElem h1, List.getElem?_eq_getElem h2] at this
  simp only [Option.some.injEq] at this
  exact Bool.eq_iff_iff.2 this
theorem Sub.refl (a : List Bool) : Sub a a := fun _ h => h
theorem Sub.trans {a b c : List Bool} (h : Sub a b) (h' : Sub b c) : Sub a c := fun i hi => h' i (h i hi)
theorem Sub.antisymm {a b : List Bool} (hl : a.length = b.length) (h : Sub a b) (h' : Sub b a) : a = b := on_ext hl fun i => ⟨h i, h' i⟩
theorem kept_unique {l : List Rc} {on k k' : List Bool} (h : Kept deps mt l on k) (h' : Kept deps mt l on k') : k = k' :=
  Sub.antisymm (h.len.trans h'.len.symm) (h'.most k h.sub h.whole) (h.most k' h'.sub h'.whole)
theorem kept_mono {l : List Rc} {on on' k k' : List Bool} (hs : Sub on on') (h : Kept deps mt l on k) (h' : Kept deps mt l on' k') : Sub k k' := h'.most k (h.sub.trans hs) h.whole
theorem kept_self {l : List Rc} {on k : List Bool} (hl : on.length = l.length) (hw : Whole deps mt l on) (h : Kept deps mt l on k) : k = on :=
  Sub.antisymm (h.len.trans hl.symm) h.sub (h.most on (Sub.refl _) hw)
theorem rch_root {l : List Rc} {on : List Bool} {roots : List Sp} {i : Nat} {q : Rc} (h1 : On on i) (h2 : l[i]? = some q) (h3 : ∃ s ∈ roots, mt s q = true) : Rch deps mt l on roots i := fun _ hS => hS.root i q h1 h2 h3
theorem rch_step {l : List Rc} {on : List Bool} {roots : List Sp} {k i : Nat} {p q : Rc} (h0 : Rch deps mt l on roots k) (hk : On on k) (hp : l[k]? = some p) (h1 : On on i) (h2 : l[i]? = some q) (h3 : ∃ s ∈ deps p, mt s q = true) : Rch deps mt l on roots i :=
  fun S hS => hS.step k p i q (h0 S hS) hk hp h1 h2 h3
theorem reach_sub {l : List Rc} {on r : List Bool} {roots : List Sp} (h : Reached deps mt l on roots r) : Sub r on := fun i hi =>
  (h.iff i).1 hi (On on) ⟨fun _ _ h _ _ => h, fun _ _ _ _ _ _ _ h _ _ => h⟩
theorem reach_unique {l : List Rc} {on r r' : List Bool} {roots : List Sp} (h : Reached deps mt l on roots r) (h' : Reached deps mt l on roots r') : r = r' :=
  on_ext (h.len.trans h'.len.symm) fun i => (h.iff i).trans (h'.iff i).symm
theorem reach_whole {l : List Rc} {on r : List Bool} {roots : List Sp} (hw : Whole deps mt l on) (h : Reached deps mt l on roots r) : Whole deps mt l r := fun i p hi hp s hs => by
  obtain ⟨j, q, hj, hq, hm⟩ := hw i p (reach_sub h i hi) hp s hs
  exact ⟨j, q, (h.iff j).2 (rch_step ((h.iff i).1 hi) (reach_sub h i hi) hp hj hq ⟨s, hs, hm⟩), hq, hm⟩
theorem reach_mono {l : List Rc} {on on' r r' : List Bool} {roots roots' : List Sp} (hs : Sub on on') (hr : ∀ s ∈ roots, s ∈ roots') (h : Reached deps mt l on roots r) (h' : Reached deps mt l on' roots' r') : Sub r r' := fun i hi => by
  refine (h.iff i).1 hi (On r') ⟨fun i q h1 h2 h3 => ?_, fun k p i q hk h0 hp h1 h2 h3 => ?_⟩
  · obtain ⟨s, hs', hm⟩ := h3
    exact (h'.iff i).2 (rch_root (hs i h1) h2 ⟨s, hr s hs', hm⟩)
  · exact (h'.iff i).2 (rch_step ((h'.iff k).1 hk) (hs k h0) hp (hs i h1) h2 h3)
theorem reach_again {l : List Rc} {k a b : List Bool} {roots : List Sp} (h : Reached deps mt l k roots a) (h' : Reached deps mt l a roots b) : b = a := by
  refine Sub.antisymm (h'.len.trans h.len.symm) (reach_sub h') fun i hi => ?_
  refine (h.iff i).1 hi (On b) ⟨fun i q h1 h2 h3 => ?_, fun k0 p i q hk h0 hp h1 h2 h3 => ?_⟩
  · exact (h'.iff i).2 (rch_root ((h.iff i).2 (rch_root h1 h2 h3)) h2 h3)
  · have hka : On a k0 := reach_sub h' k0 hk
    exact (h'.iff i).2 (rch_step ((h'.iff k0).1 hk) hka hp ((h.iff i).2 (rch_step ((h.iff k0).1 hka) h0 hp h1 h2 h3)) h2 h3)
theorem reach_none {l : List Rc} {on r : List Bool} (h : Reached deps mt l on [] r) : ∀ i, ¬ On r i := fun i hi =>
  (h.iff i).1 hi (fun _ => False) ⟨fun _ _ _ _ h => by obtain ⟨s, hs, _⟩ := h; simp at hs, fun _ _ _ _ h _ _ _ _ _ => h⟩
/-- how many are on -/
def count (k : List Bool) : Nat := k.countP id
theorem count_le : ∀ {a b : List Bool}, a.length = b.length → Sub a b → count a ≤ count b
  | [], [], _, _ => Nat.le_refl _
  | [], _ :: _, h, _ => by simp at h
  | _ :: _, [], h, _ => by simp at h
  | x :: a, y :: b, h, hs => by
    have ih := count_le (a := a) (b := b) (by simpa using h) (fun i hi => by have := hs (i + 1) (by simpa [On] using hi); simpa [On] using this)
    have h0 := hs 0
    simp only [On, List.getElem?_cons_zero, Option.some.injEq] at h0
    unfold count at *
    rw [List.countP_cons, List.countP_cons]
    cases x
    · simp; omega
    · rw [h0 rfl]; simp; omega
theorem count_none {a : List Bool} (h : ∀ i, ¬ On a i) : count a = 0 := by
  unfold count
  rw [List.countP_eq_zero]
  intro x hx
  obtain ⟨i, hi, e⟩ := List.getElem_of_mem hx
  cases x
  · simp
  · exact absurd (show On a i by unfold On; rw [List.getElem?_eq_getElem hi, e]) (h i)
theorem count_all (n : Nat) : count (List.replicate n true) = n := by unfold count; rw [List.countP_replicate]; simp
theorem count_snoc {l : List Bool} {k : Nat} {b : Bool} (h : l[k]? = some b) : count (l.take (k + 1)) = count (l.take k) + (if b then 1 else 0) := by
  unfold count; rw [List.take_add_one, h, List.countP_append]; cases b <;> simp
theorem on_all {n i : Nat} : On (List.replicate n true) i ↔ i < n := by unfold On; rw [List.getElem?_replicate]; split <;> simp [*]
end
end Go.Proofs.YtpminhafljlldaaDoor.R
