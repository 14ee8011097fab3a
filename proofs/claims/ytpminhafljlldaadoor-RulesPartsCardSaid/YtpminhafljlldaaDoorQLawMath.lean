/- What the laws of rules say of what is computed: plain. -/
import Derived.Test.YtpminhafljlldaaDoorQRulesMath
namespace Go.Proofs.YtpminhafljlldaaDoor.Q

theorem okAt_iff {l : List Rc} {on ch : List Bool} {i : Nat} {r : Rc} (hr : l[i]? = some r) (hc : ch[i]? = some true) :
    okAt l on ch i = ((on[i]? == some true) && !((List.range i).any fun j => (ch[j]? == some true) && ((l[j]?).map (·.name.toList) == some r.name.toList)) && fits l ch r) := by
  unfold okAt; rw [hr, hc]
theorem okAt_none {l : List Rc} {on ch : List Bool} {i : Nat} (hc : ch[i]? ≠ some true) : okAt l on ch i = true := by
  unfold okAt; split
  · rename_i h; exact absurd h hc
  · rfl
theorem okAt_mono {l : List Rc} {on on' ch : List Bool} {i : Nat} (h : on[i]? = some true → ch[i]? = some true → on'[i]? = some true) (hv : okAt l on ch i = true) : okAt l on' ch i = true := by
  by_cases hc : ch[i]? = some true
  · cases hr : l[i]? with
    | none => unfold okAt; rw [hr]
    | some r =>
      rw [okAt_iff hr hc] at hv ⊢
      simp only [Bool.and_eq_true, beq_iff_eq] at hv ⊢
      exact ⟨⟨h hv.1.1 hc, hv.1.2⟩, hv.2⟩
  · exact okAt_none hc
theorem valid_iff {l : List Rc} {on ch : List Bool} {ds : List Dm} : valid l on ch ds = true ↔ on.length = l.length ∧ ch.length = l.length ∧ (∀ i, i < l.length → okAt l on ch i = true) ∧ ∀ d ∈ ds, holds l ch d = true := by
  unfold valid
  simp only [Bool.and_eq_true, decide_eq_true_eq, List.all_eq_true, List.mem_range]
  exact ⟨fun ⟨⟨⟨a, b⟩, c⟩, d⟩ => ⟨a, b, c, d⟩, fun ⟨a, b, c, d⟩ => ⟨⟨⟨a, b⟩, c⟩, d⟩⟩
theorem valid_all {l : List Rc} {on ch : List Bool} {ds : List Dm} (h : valid l on ch ds = true) : valid l (List.replicate l.length true) ch ds = true := by
  rw [valid_iff] at h ⊢
  refine ⟨by simp, h.2.1, fun i hi => okAt_mono (fun _ _ => ?_) (h.2.2.1 i hi), h.2.2.2⟩
  rw [List.getElem?_replicate, if_pos hi]
theorem valid_fewer {l : List Rc} {on ch : List Bool} {ds : List Dm} {off : Nat} {c : Bool} (hoff : off < l.length) (ho : on.length = l.length) (hc : ch[off]? = some c) : valid l (on.set off false) ch ds = (valid l on ch ds && !c) := by
  rw [Bool.eq_iff_iff, Bool.and_eq_true, valid_iff, valid_iff]
  constructor
  · rintro ⟨h1, h2, h3, h4⟩
    refine ⟨⟨by simpa using h1, h2, fun i hi => okAt_mono (fun h _ => ?_) (h3 i hi), h4⟩, ?_⟩
    · rw [List.getElem?_set] at h
      split at h
      · split at h <;> simp at h
      · exact h
    · cases c
      · rfl
      · have := h3 off hoff
        rw [okAt_iff (List.getElem?_eq_getElem hoff) hc] at this
        simp only [Bool.and_eq_true, beq_iff_eq] at this
        have h' := this.1.1
        rw [List.getElem?_set_self (by omega)] at h'
        simp at h'
  · rintro ⟨⟨h1, h2, h3, h4⟩, h5⟩
    refine ⟨by simpa using h1, h2, fun i hi => okAt_mono (fun h hch => ?_) (h3 i hi), h4⟩
    by_cases e : off = i
    · subst e; rw [hc] at hch; cases hch; simp at h5
    · rw [List.getElem?_set_ne e]; exact h
theorem some_none (p : Rc → Bool) (l : List Rc) (n : Nat) : some_ p l (List.replicate n false) = false := by
  unfold some_
  rw [List.any_eq_false]
  rintro ⟨r, b⟩ h
  have := List.of_mem_zip h
  have hb : b = false := (List.mem_replicate.1 this.2).2
  simp [hb]
def needs (ds : List Dm) : Bool := ds.any fun d => decide (d.how ≠ 2) && decide (d.how ≠ 3)
theorem holds_none (l : List Rc) (d : Dm) : holds l (List.replicate l.length false) d = !(decide (d.how ≠ 2) && decide (d.how ≠ 3)) := by
  unfold holds
  rw [if_pos (by simp)]
  simp only [some_none]
  by_cases h1 : d.how = 1
  · simp [h1]
  · by_cases h2 : d.how = 2
    · simp [h2]
    · by_cases h3 : d.how = 3
      · simp [h3]
      · simp [h1, h2, h3]
theorem valid_none {l : List Rc} {on : List Bool} {ds : List Dm} (ho : on.length = l.length) : valid l on (List.replicate l.length false) ds = !needs ds := by
  rw [Bool.eq_iff_iff, valid_iff]
  unfold needs
  simp only [Bool.not_eq_true', List.any_eq_false]
  constructor
  · rintro ⟨_, _, _, h⟩ d hd
    have := h d hd
    rw [holds_none] at this
    cases hb : (decide (d.how ≠ 2) && decide (d.how ≠ 3))
    · simp
    · rw [hb] at this; cases this
  · intro h
    refine ⟨ho, by simp, fun i _ => okAt_none (by rw [List.getElem?_replicate]; split <;> simp), fun d hd => ?_⟩
    rw [holds_none]
    have := h d hd
    cases hb : (decide (d.how ≠ 2) && decide (d.how ≠ 3))
    · rfl
    · rw [hb] at this; exact absurd rfl this
theorem valid_snoc {l : List Rc} {on ch : List Bool} {ds : List Dm} (d : Dm) : valid l on ch (ds ++ [d]) = (valid l on ch ds && holds l ch d) := by
  rw [Bool.eq_iff_iff, Bool.and_eq_true, valid_iff, valid_iff]
  simp only [List.mem_append, List.mem_singleton]
  constructor
  · rintro ⟨h1, h2, h3, h4⟩
    exact ⟨⟨h1, h2, h3, fun x hx => h4 x (.inl hx)⟩, h4 d (.inr rfl)⟩
  · rintro ⟨⟨h1, h2, h3, h4⟩, h5⟩
    exact ⟨h1, h2, h3, fun x hx => by rcases hx with hx | rfl; exact h4 x hx; exact h5⟩
end Go.Proofs.YtpminhafljlldaaDoor.Q
