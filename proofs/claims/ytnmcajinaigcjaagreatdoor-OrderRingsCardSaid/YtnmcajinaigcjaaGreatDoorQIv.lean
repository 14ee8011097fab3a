/- Lists whose elements lie in new memory. -/
import Derived.Test.YtnmcajinaigcjaaGreatDoorQOwn
import Derived.Maps.AppendAt
namespace Go.Proofs.YtnmcajinaigcjaaGreatDoor
open Go.RowKit

/-- what is read lies in the blocks from lo to hi -/
def Iv {α : Type} (R : Rd α) (lo hi : Nat) : Rd α := fun w us x => hi ≤ w.heap.size ∧ ∀ w', hi ≤ w'.heap.size → (∀ b, lo ≤ b → b < hi → w'.heap[b]? = w.heap[b]?) → R w' us x
theorem Iv.read {α : Type} {R : Rd α} {lo hi : Nat} {w : World} {us : List Value} {x : α} (h : Iv R lo hi w us x) : R w us x := h.2 w h.1 (fun _ _ _ => rfl)
theorem Iv.keep {α : Type} {R : Rd α} {lo hi : Nat} {w w' : World} {us : List Value} {x : α} (h : Iv R lo hi w us x) (hs : hi ≤ w'.heap.size) (he : ∀ b, lo ≤ b → b < hi → w'.heap[b]? = w.heap[b]?) : Iv R lo hi w' us x :=
  ⟨hs, fun w2 h2 h3 => h.2 w2 h2 (fun b h4 h5 => (h3 b h4 h5).trans (he b h4 h5))⟩
theorem Iv.wide {α : Type} {R : Rd α} {lo hi lo' hi' : Nat} {w : World} {us : List Value} {x : α} (h : Iv R lo hi w us x) (h1 : lo' ≤ lo) (h2 : hi ≤ hi') (h3 : hi' ≤ w.heap.size) : Iv R lo' hi' w us x :=
  ⟨h3, fun w2 h4 h5 => h.2 w2 (Nat.le_trans h2 h4) (fun b h6 h7 => h5 b (Nat.le_trans h1 h6) (Nat.lt_of_lt_of_le h7 h2))⟩
theorem Iv.below {α : Type} {R : Rd α} {lo hi : Nat} {w w' : World} {us : List Value} {x : α} (h : Iv R lo hi w us x) (hb : Below w.heap.size w w') : Iv R lo hi w' us x :=
  h.keep (Nat.le_trans h.1 hb.size) fun b _ h2 => hb.block b (Nat.lt_of_lt_of_le h2 h.1)
theorem Own.iv {α : Type} {R : Rd α} {e k : Nat} {w : World} {base c lo : Nat} {a : Option Addr} {cells : List Value} {xs : List α} (h : Own e k w base a c xs.length cells) (hF : Flat (Iv R lo w.heap.size) k w xs cells) (hlo : lo ≤ base) (hl : xs.length ≤ 5864062014805) :
    Iv (RS R k) lo w.heap.size w [.slice a xs.length c] xs := by
  refine ⟨Nat.le_refl _, fun w' hs he => ⟨a, c, rfl, h.cap, ?_⟩⟩
  refine Own.sl (Own.same h fun g e1 => ?_) (hF.mono fun us x _ hx => hx.2 w' hs he) hl
  have ht := h.tag _ e1
  exact he g (Nat.le_trans hlo ht.1) ht.2.1
/-- an element of a growing list at a: it lies apart from the list's own block -/
def Ev {α : Type} (R : Rd α) (base : Nat) (a : Option Addr) : Rd α := fun w us x => ∃ lo hi, base ≤ lo ∧ Iv R lo hi w us x ∧ ∀ ad, a = some ad → ad.block < lo ∨ hi ≤ ad.block
theorem Ev.iv {α : Type} {R : Rd α} {base : Nat} {a : Option Addr} {w : World} {us : List Value} {x : α} (h : Ev R base a w us x) : Iv R base w.heap.size w us x := by
  obtain ⟨lo, hi, h1, h2, _⟩ := h; exact h2.wide h1 h2.1 (Nat.le_refl _)
theorem Ev.step {α : Type} {R : Rd α} {base : Nat} {a a' : Option Addr} {w w' : World} {us : List Value} {x : α} (h : Ev R base a w us x) (hs : w.heap.size ≤ w'.heap.size)
    (he : ∀ b, b < w.heap.size → (∀ ad, a = some ad → ad.block ≠ b) → w'.heap[b]? = w.heap[b]?) (ha : ∀ ad', a' = some ad' → (∃ ad, a = some ad ∧ ad.block = ad'.block) ∨ w.heap.size ≤ ad'.block) : Ev R base a' w' us x := by
  obtain ⟨lo, hi, h1, h2, h3⟩ := h
  refine ⟨lo, hi, h1, h2.keep (Nat.le_trans h2.1 hs) fun b h4 h5 => he b (Nat.lt_of_lt_of_le h5 h2.1) fun ad e => ?_, fun ad' e => ?_⟩
  · have := h3 ad e; omega
  · rcases ha ad' e with ⟨ad, e2, e3⟩ | h6
    · rw [← e3]; exact h3 ad e2
    · exact .inr (Nat.le_trans h2.1 h6)
theorem Ev.below {α : Type} {R : Rd α} {base : Nat} {a : Option Addr} {w w' : World} {us : List Value} {x : α} (h : Ev R base a w us x) (hb : Below w.heap.size w w') : Ev R base a w' us x :=
  h.step hb.size (fun b hb2 _ => hb.block b hb2) fun ad e => .inl ⟨ad, e, rfl⟩
theorem own_ad' {n c : Nat} (ad : Addr) : (Value.slice (some ad) n c).ownBlock = some ad.block := rfl
theorem own_ad {e k : Nat} {w : World} {base : Nat} {a : Option Addr} {c n : Nat} {cells : List Value} (h : Own e k w base a c n cells) {ad : Addr} (e1 : a = some ad) : (Value.slice a n c).ownBlock = some ad.block := by
  subst e1; rfl
theorem row_ne {a : Option Addr} {n c b : Nat} (h : ∀ ad, a = some ad → ad.block ≠ b) : some b ≠ (Value.slice a n c).ownBlock := by
  cases a with
  | none => intro e; simp [Value.ownBlock] at e
  | some ad => intro e; rw [own_ad' ad] at e; exact h ad rfl (Option.some.inj e).symm
theorem Flat.one {α : Type} {R : Rd α} {w : World} {x : α} {v : Value} (h : R w [v] x) : Flat R 1 w [x] [v] := by
  refine ⟨by simp, fun i y hy => ?_⟩
  match i, hy with
  | 0, hy =>
    simp at hy; subst hy
    refine ⟨[v], rfl, fun j hj => ?_, h⟩
    obtain rfl : j = 0 := by omega
    rfl
/-- an element that was just made, behind its append -/
theorem Ev.fresh {α : Type} {R : Rd α} {base : Nat} {a a' : Option Addr} {n c lo : Nat} {w0 w w' : World} {us : List Value} {x : α} (h : Iv R lo w0.heap.size w0 us x) (hb : Below w0.heap.size w0 w) (hlo : base ≤ lo) (ho : ∀ ad, a = some ad → ad.block < lo)
    (hg : w.grownBy w' (Value.slice a n c).ownBlock) (hat : ∀ ad', a' = some ad' → (∃ ad, a = some ad ∧ ad.block = ad'.block) ∨ w.heap.size ≤ ad'.block) : Ev R base a' w' us x := by
  refine ⟨lo, w0.heap.size, hlo, (h.below hb).keep (Nat.le_trans hb.size hg.size) fun b h1 h2 => hg.block b (Nat.lt_of_lt_of_le h2 hb.size) (row_ne fun ad e => ?_), fun ad' e => ?_⟩
  · have := ho ad e; omega
  · rcases hat ad' e with ⟨ad, e2, e3⟩ | h6
    · left; rw [← e3]; exact ho ad e2
    · right; exact Nat.le_trans hb.size h6
theorem Ev.grown {α : Type} {R : Rd α} {base : Nat} {a a' : Option Addr} {n c : Nat} {w w' : World} {us : List Value} {x : α} (h : Ev R base a w us x) (hg : w.grownBy w' (Value.slice a n c).ownBlock) (hat : ∀ ad', a' = some ad' → (∃ ad, a = some ad ∧ ad.block = ad'.block) ∨ w.heap.size ≤ ad'.block) : Ev R base a' w' us x :=
  h.step hg.size (fun b hb hne => hg.block b hb (row_ne hne)) hat
/-- append, and where the new row lies -/
theorem wpList_append_flatAt {α : Type} {R : Rd α} {k by' e : Nat} {z : Value} (hinfo : (Tryz.prog.info? e).map (fun i => (i.zero, i.size, i.bytes)) = some (some z, k, by')) (hzs : z.cells.size = k) (hk : 0 < k)
    {w : World} {ops : Array Oper} {rest : List Oper} {o : Oper} {act : Act} {Q : Exit → Act → World → Prop} (hgd : o.guard = none) (s x : Operand) (t : TypeId)
    (ho : o.op = .call { callee := .builtin .append, args := #[s, x], argTypes := #[t, t] }) (ht : Tryz.prog.underlying t = some (.slice e))
    (base : Nat) (a : Option Addr) (n c : Nat) (cells : List Value) (hs : act.eval s = .slice a n c) (hown : Own e k w base a c n cells)
    (ad : Addr) (m d : Nat) (zs : List α) (hx : act.eval x = .slice (some ad) m d) (hm : zs.length = m) (hz : Sl R k w (some ad) zs) (hone : ∀ us x, R w us x → ∀ u ∈ us, u.oneCell' = true)
    (hlen : (n + m) * by' ≤ 140737488355328) (hmax : n + m ≤ 17592186043904) (hbase : base ≤ w.heap.size)
    (h : ∀ a' c' w' cells', Own e k w' base a' c' (n + m) (cells ++ cells') → Flat R k w zs cells' → w.grownBy w' (Value.slice a n c).ownBlock → Below base w w' → (∀ ad', a' = some ad' → (∃ ad, a = some ad ∧ ad.block = ad'.block) ∨ w.heap.size ≤ ad'.block) → wpList Tryz.prog ops Q rest (act.put o.dst (.slice a' (n + m) c')) w') :
    wpList Tryz.prog ops Q (o :: rest) act w := by
  subst hm
  obtain ⟨i0, hi, hz0, hz1, hz2⟩ := info_parts hinfo
  obtain ⟨cells', hF, hc1, hc2⟩ := hz.flat hone
  refine wpList_append_own_at (P := Tryz.prog) (w := w) hgd s x t ho base e i0 z k by' ht hi hz0 hz1 hz2 hzs hk _ _ _ hs hown ad zs.length d cells' hx hF.len hc1 hc2 ?_ hlen hbase ?_
  · unfold maxLen; omega
  · intro v' w' h1 h2 _ h4
    have hbel : Below base w w' := (Below.refl base w).grown h2 hbase (fun k hk => ownBlock_ge hown k _ hk)
    have : ∃ a' c', v' = .slice a' (n + zs.length) c' := by
      rcases h1.2 with ⟨e, hn⟩ | ⟨g, cap, cur, e, _⟩
      · exact ⟨none, 0, by rw [e, hn]⟩
      · exact ⟨_, _, e⟩
    obtain ⟨a', c', rfl⟩ := this
    refine h a' c' w' cells' h1 hF h2 hbel fun ad' e1 => ?_
    subst e1
    have e5 : (Value.slice (some ad') (n + zs.length) c').ownBlock = some ad'.block := rfl
    rw [e5] at h4
    rcases h4 with h4 | h4
    · cases a with
      | none => simp [Value.ownBlock] at h4
      | some a0 => exact .inl ⟨a0, rfl, by have e6 : (Value.slice (some a0) n c).ownBlock = some a0.block := rfl
                                           rw [e6] at h4; exact (Option.some.inj h4).symm⟩
    · right; have := Option.some.inj h4; omega
end Go.Proofs.YtnmcajinaigcjaaGreatDoor
