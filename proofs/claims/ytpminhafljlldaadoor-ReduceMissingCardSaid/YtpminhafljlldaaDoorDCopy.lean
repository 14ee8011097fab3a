/- Lists whose elements lie in new memory; the contract of spec.copyParts. -/
import Derived.Test.YtpminhafljlldaaDoorDSame
import Derived.Maps.AppendAt
namespace Go.Proofs.YtpminhafljlldaaDoor
open Go.RowKit
open Q (It Ver Tm Sp Rc Dm)

/-- what is read lies in the blocks from lo to hi -/
def Iv {α : Type} (R : Rd α) (lo hi : Nat) : Rd α := fun w us x => hi ≤ w.heap.size ∧ ∀ w', hi ≤ w'.heap.size → (∀ b, lo ≤ b → b < hi → w'.heap[b]? = w.heap[b]?) → R w' us x
theorem Iv.read {α : Type} {R : Rd α} {lo hi : Nat} {w : World} {us : List Value} {x : α} (h : Iv R lo hi w us x) : R w us x := h.2 w h.1 (fun _ _ _ => rfl)
theorem Iv.keep {α : Type} {R : Rd α} {lo hi : Nat} {w w' : World} {us : List Value} {x : α} (h : Iv R lo hi w us x) (hs : hi ≤ w'.heap.size) (he : ∀ b, lo ≤ b → b < hi → w'.heap[b]? = w.heap[b]?) : Iv R lo hi w' us x :=
  ⟨hs, fun w2 h2 h3 => h.2 w2 h2 (fun b h4 h5 => (h3 b h4 h5).trans (he b h4 h5))⟩
theorem Iv.wide {α : Type} {R : Rd α} {lo hi lo' hi' : Nat} {w : World} {us : List Value} {x : α} (h : Iv R lo hi w us x) (h1 : lo' ≤ lo) (h2 : hi ≤ hi') (h3 : hi' ≤ w.heap.size) : Iv R lo' hi' w us x :=
  ⟨h3, fun w2 h4 h5 => h.2 w2 (Nat.le_trans h2 h4) (fun b h6 h7 => h5 b (Nat.le_trans h1 h6) (Nat.lt_of_lt_of_le h7 h2))⟩
theorem Iv.below {α : Type} {R : Rd α} {lo hi : Nat} {w w' : World} {us : List Value} {x : α} (h : Iv R lo hi w us x) (hb : Below w.heap.size w w') : Iv R lo hi w' us x :=
  h.keep (Nat.le_trans h.1 hb.size) fun b _ h2 => hb.block b (Nat.lt_of_lt_of_le h2 h.1)
theorem Own.iv {α : Type} {R : Rd α} {e k : Nat} {w : World} {base c lo : Nat} {a : Option Addr} {cells : List Value} {xs : List α} (h : Own e k w base a c xs.length cells) (hF : Flat (Iv R lo w.heap.size) k w xs cells) (hlo : lo ≤ base) (hl : xs.length ≤ 5864062014805) :
    Iv (RS R k) lo w.heap.size w [.slice a xs.length c] xs := by
  refine ⟨Nat.le_refl _, fun w' hs he => ⟨a, c, rfl, h.cap, ?_⟩⟩
  refine Own.sl (Own.same h fun g e1 => ?_) (hF.mono fun us x _ hx => hx.2 w' hs he) hl
  have ht := h.tag _ e1
  exact he g (Nat.le_trans hlo ht.1) ht.2.1
/-- an element of a growing list at a: it lies apart from the list's own block -/
def Ev {α : Type} (R : Rd α) (base : Nat) (a : Option Addr) : Rd α := fun w us x => ∃ lo hi, base ≤ lo ∧ Iv R lo hi w us x ∧ ∀ ad, a = some ad → ad.block < lo ∨ hi ≤ ad.block
theorem Ev.iv {α : Type} {R : Rd α} {base : Nat} {a : Option Addr} {w : World} {us : List Value} {x : α} (h : Ev R base a w us x) : Iv R base w.heap.size w us x := by
  obtain ⟨lo, hi, h1, h2, _⟩ := h; exact h2.wide h1 h2.1 (Nat.le_refl _)
theorem Ev.step {α : Type} {R : Rd α} {base : Nat} {a a' : Option Addr} {w w' : World} {us : List Value} {x : α} (h : Ev R base a w us x) (hs : w.heap.size ≤ w'.heap.size)
    (he : ∀ b, b < w.heap.size → (∀ ad, a = some ad → ad.block ≠ b) → w'.heap[b]? = w.heap[b]?) (ha : ∀ ad', a' = some ad' → (∃ ad, a = some ad ∧ ad.block = ad'.block) ∨ w.heap.size ≤ ad'.block) : Ev R base a' w' us x := by
  obtain ⟨lo, hi, h1, h2, h3⟩ := h
  refine ⟨lo, hi, h1, h2.keep (Nat.le_trans h2.1 hs) fun b h4 h5 => he b (Nat.lt_of_lt_of_le h5 h2.1) fun ad e => ?_, fun ad' e => ?_⟩
  · have := h3 ad e; omega
  · rcases ha ad' e with ⟨ad, e2, e3⟩ | h6
    · rw [← e3]; exact h3 ad e2
    · exact .inr (Nat.le_trans h2.1 h6)
theorem Ev.below {α : Type} {R : Rd α} {base : Nat} {a : Option Addr} {w w' : World} {us : List Value} {x : α} (h : Ev R base a w us x) (hb : Below w.heap.size w w') : Ev R base a w' us x :=
  h.step hb.size (fun b hb2 _ => hb.block b hb2) fun ad e => .inl ⟨ad, e, rfl⟩
theorem own_ad' {n c : Nat} (ad : Addr) : (Value.slice (some ad) n c).ownBlock = some ad.block := rfl
theorem own_ad {e k : Nat} {w : World} {base : Nat} {a : Option Addr} {c n : Nat} {cells : List Value} (h : Own e k w base a c n cells) {ad : Addr} (e1 : a = some ad) : (Value.slice a n c).ownBlock = some ad.block := by
  subst e1; rfl
theorem row_ne {a : Option Addr} {n c b : Nat} (h : ∀ ad, a = some ad → ad.block ≠ b) : some b ≠ (Value.slice a n c).ownBlock := by
  cases a with
  | none => intro e; simp [Value.ownBlock] at e
  | some ad => intro e; rw [own_ad' ad] at e; exact h ad rfl (Option.some.inj e).symm
theorem Flat.one {α : Type} {R : Rd α} {w : World} {x : α} {v : Value} (h : R w [v] x) : Flat R 1 w [x] [v] := by
  refine ⟨by simp, fun i y hy => ?_⟩
  match i, hy with
  | 0, hy =>
    simp at hy; subst hy
    refine ⟨[v], rfl, fun j hj => ?_, h⟩
    obtain rfl : j = 0 := by omega
    rfl
/-- an element that was just made, behind its append -/
theorem Ev.fresh {α : Type} {R : Rd α} {base : Nat} {a a' : Option Addr} {n c lo : Nat} {w0 w w' : World} {us : List Value} {x : α} (h : Iv R lo w0.heap.size w0 us x) (hb : Below w0.heap.size w0 w) (hlo : base ≤ lo) (ho : ∀ ad, a = some ad → ad.block < lo)
    (hg : w.grownBy w' (Value.slice a n c).ownBlock) (hat : ∀ ad', a' = some ad' → (∃ ad, a = some ad ∧ ad.block = ad'.block) ∨ w.heap.size ≤ ad'.block) : Ev R base a' w' us x := by
  refine ⟨lo, w0.heap.size, hlo, (h.below hb).keep (Nat.le_trans hb.size hg.size) fun b h1 h2 => hg.block b (Nat.lt_of_lt_of_le h2 hb.size) (row_ne fun ad e => ?_), fun ad' e => ?_⟩
  · have := ho ad e; omega
  · rcases hat ad' e with ⟨ad, e2, e3⟩ | h6
    · left; rw [← e3]; exact ho ad e2
    · right; exact Nat.le_trans hb.size h6
theorem Ev.grown {α : Type} {R : Rd α} {base : Nat} {a a' : Option Addr} {n c : Nat} {w w' : World} {us : List Value} {x : α} (h : Ev R base a w us x) (hg : w.grownBy w' (Value.slice a n c).ownBlock) (hat : ∀ ad', a' = some ad' → (∃ ad, a = some ad ∧ ad.block = ad'.block) ∨ w.heap.size ≤ ad'.block) : Ev R base a' w' us x :=
  h.step hg.size (fun b hb hne => hg.block b hb (row_ne hne)) hat
/-- append, and where the new row lies -/
theorem wpList_append_flatAt {α : Type} {R : Rd α} {k by' e : Nat} {z : Value} (hinfo : (Tryd.prog.info? e).map (fun i => (i.zero, i.size, i.bytes)) = some (some z, k, by')) (hzs : z.cells.size = k) (hk : 0 < k)
    {w : World} {ops : Array Oper} {rest : List Oper} {o : Oper} {act : Act} {Q : Exit → Act → World → Prop} (hgd : o.guard = none) (s x : Operand) (t : TypeId)
    (ho : o.op = .call { callee := .builtin .append, args := #[s, x], argTypes := #[t, t] }) (ht : Tryd.prog.underlying t = some (.slice e))
    (base : Nat) (a : Option Addr) (n c : Nat) (cells : List Value) (hs : act.eval s = .slice a n c) (hown : Own e k w base a c n cells)
    (ad : Addr) (m d : Nat) (zs : List α) (hx : act.eval x = .slice (some ad) m d) (hm : zs.length = m) (hz : Sl R k w (some ad) zs) (hone : ∀ us x, R w us x → ∀ u ∈ us, u.oneCell' = true)
    (hlen : (n + m) * by' ≤ 140737488355328) (hmax : n + m ≤ 17592186043904) (hbase : base ≤ w.heap.size)
    (h : ∀ a' c' w' cells', Own e k w' base a' c' (n + m) (cells ++ cells') → Flat R k w zs cells' → w.grownBy w' (Value.slice a n c).ownBlock → Below base w w' → (∀ ad', a' = some ad' → (∃ ad, a = some ad ∧ ad.block = ad'.block) ∨ w.heap.size ≤ ad'.block) → wpList Tryd.prog ops Q rest (act.put o.dst (.slice a' (n + m) c')) w') :
    wpList Tryd.prog ops Q (o :: rest) act w := by
  subst hm
  obtain ⟨i0, hi, hz0, hz1, hz2⟩ := info_parts hinfo
  obtain ⟨cells', hF, hc1, hc2⟩ := hz.flat hone
  refine wpList_append_own_at (P := Tryd.prog) (w := w) hgd s x t ho base e i0 z k by' ht hi hz0 hz1 hz2 hzs hk _ _ _ hs hown ad zs.length d cells' hx hF.len hc1 hc2 ?_ hlen hbase ?_
  · unfold maxLen; omega
  · intro v' w' h1 h2 _ h4
    have hbel : Below base w w' := (Below.refl base w).grown h2 hbase (fun k hk => ownBlock_ge hown k _ hk)
    have : ∃ a' c', v' = .slice a' (n + zs.length) c' := by
      rcases h1.2 with ⟨e, hn⟩ | ⟨g, cap, cur, e, _⟩
      · exact ⟨none, 0, by rw [e, hn]⟩
      · exact ⟨_, _, e⟩
    obtain ⟨a', c', rfl⟩ := this
    refine h a' c' w' cells' h1 hF h2 hbel fun ad' e1 => ?_
    subst e1
    have e5 : (Value.slice (some ad') (n + zs.length) c').ownBlock = some ad'.block := rfl
    rw [e5] at h4
    rcases h4 with h4 | h4
    · cases a with
      | none => simp [Value.ownBlock] at h4
      | some a0 => exact .inl ⟨a0, rfl, by have e6 : (Value.slice (some a0) n c).ownBlock = some a0.block := rfl
                                           rw [e6] at h4; exact (Option.some.inj h4).symm⟩
    · right; have := Option.some.inj h4; omega
theorem RIt.iv {w : World} {us : List Value} {x : It} {lo hi : Nat} (h : RIt w us x) (hs : hi ≤ w.heap.size) : Iv RIt lo hi w us x := ⟨hs, fun _ _ _ => h⟩
/-- the parts came back, in new memory -/
def NewParts (w : World) (xs : List (List It)) (e : Ending) (w' : World) : Prop := ∃ a c, e = .returned (.slice a xs.length c) ∧ Iv (RS (RS RIt 2) 1) w.heap.size w'.heap.size w' [.slice a xs.length c] xs ∧ Below w.heap.size w w'
set_option maxHeartbeats 2000000 in
set_option maxRecDepth 100000 in
theorem copyParts_any (a : Option Addr) (c : Nat) (xs : List (List It)) (w : World) (h : Rows2 w a xs) :
    Calls Tryd.prog 100 #[.slice a xs.length c] w (NewParts w xs) := by
  have hl := h.len
  have H := Lib.hid h
  clear h
  go_enter Tryd.func100, Tryd.ntmps100
  go_wp2
  go_loopw [3, 5, 8] (fun s _ i wr => ∃ (k : Nat) (pa : Option Addr) (pc : Nat) (cells : List Value), k ≤ xs.length ∧ i = .int .i64 k ∧ s = .slice pa k pc ∧ Own 145 1 wr w.heap.size pa pc k cells ∧ Flat (Ev (RS RIt 2) w.heap.size pa) 1 wr (xs.take k) cells ∧ Below w.heap.size w wr) (fun _ _ i _ => xs.length - (intOf i).toNat)
  case atStart => exact ⟨0, none, 0, [], by omega, rfl, rfl, Own.nil _ _ _ _, Flat.nil _ _ _, Below.refl _ _⟩
  case round =>
    obtain ⟨k, pa, pc, cells, hk, rfl, rfl, hown, hfl, hbr⟩ := hrel
    have HO := Lib.hid hown
    have HF := Lib.hid hfl
    have HB := Lib.hid hbr
    clear hown hfl hbr
    by_cases hlt : k < xs.length
    · obtain ⟨x, hx⟩ : ∃ x, xs[k]? = some x := ⟨xs[k], by simp [hlt]⟩
      obtain ⟨bb, off, a2, c2, rfl, hbl, t0, hcp, hs2⟩ := (H.out.below HB.out).cell1 hx
      have hxl := hs2.len
      have HX := Lib.hid hx
      have HS2 := Lib.hid hs2
      have HCP := Lib.hid hcp.2
      have hz : w.heap.size ≤ wr.heap.size := HB.out.size
      clear hx hs2 hcp
      go_wp2_with (first
        | (at_builtin; refine wpList_append_flat Tryd.infoItem rfl (by decide) rfl (.const (.slice none 0 0)) (.tmp 13) 145 rfl Tryd.underlying145 wr.heap.size none 0 0 [] rfl (Own.nil _ _ _ _) _ _ _ x rfl rfl HS2.out (RIt.ones _) HCP.out (by omega) (by omega) (Nat.le_refl _) ?_; intro a1 c1 w1 cells1 hown1 hF1 hg1 hB1; simp only [Nat.zero_add, List.nil_append] at hown1; have HB1 := Lib.hid hB1; have HO1 := Lib.hid hown1; have HF1 := Lib.hid hF1; have hz1 : wr.heap.size ≤ w1.heap.size := hB1.size; clear hg1 hown1 hB1 hF1)
        | (at_builtin; refine wpList_append_flatAt Tryd.infoItems rfl (by decide) rfl (.tmp 12) (.tmp 15) 64 rfl Tryd.underlying64 w.heap.size pa k pc cells rfl ((HO.out.below HB1.out).below (b1 _ _)) _ _ _ [.slice a1 x.length c1] rfl rfl (RV.one w1 (.slice a1 x.length c1) rfl _) (RV.ones _) (by omega) (by omega) (by simp; omega) ?_; intro a3 c3 w3 cells3 hown3 hF3 hg3 hB3 hat3; have HB3 := Lib.hid hB3; have HO3 := Lib.hid hown3; have HF3 := Lib.hid hF3.rv; have HG3 := Lib.hid hg3; have HAT := Lib.hid hat3; clear hg3 hown3 hB3 hF3 hat3))
      go_roundw
      case rel =>
        refine ⟨k + 1, a3, c3, cells ++ cells3, by omega, by go_num, rfl, HO3.out, ?_, ((fin HB.out HB1.out).alloc (fin HB.out HB1.out).size _).trans HB3.out⟩
        rw [List.take_add_one, HX.out, HF3.out]
        refine Flat.append (HF.out.mono fun us y _ h => ((h.below HB1.out).below (b1 _ _)).grown HG3.out HAT.out) (Flat.one ?_)
        exact Ev.fresh (Own.iv HO1.out (HF1.out.mono fun _ _ _ h => RIt.iv (w := w1) h (Nat.le_refl _)) (Nat.le_refl _) hxl) (b1 _ _) hz (fun ad e => (HO.out.tag ad e).2.1) HG3.out HAT.out
      case measure => simp [intOf]; omega
    · have hfull : xs.take k = xs := List.take_of_length_le (by omega)
      have hke : k = xs.length := by omega
      subst hke
      rw [hfull] at HF
      clear hfull
      go_wp2
      go_ret
      exact ⟨pa, pc, rfl, Own.iv HO.out (HF.out.mono fun _ _ _ h => h.iv) (Nat.le_refl _) hl, HB.out⟩
theorem RVer.iv {w : World} {v : Ver} {p l : Value} {lo hi : Nat} (hi64 : I64 v.ep) (h1 : Iv (RS (RS RIt 2) 1) lo hi w [p] v.parts) (h2 : Iv (RS (RS RIt 2) 1) lo hi w [l] v.loc) : Iv RVer lo hi w [.int .i64 v.ep, p, l] v :=
  ⟨h1.1, fun w' hs he => ⟨p, l, rfl, hi64, h1.2 w' hs he, h2.2 w' hs he⟩⟩
/-- a version came back, in new memory -/
def NewVer (w : World) (v : Ver) (e : Ending) (w' : World) : Prop := ∃ pa pc la lc, e = .returned (.agg #[.int .i64 v.ep, .slice pa v.parts.length pc, .slice la v.loc.length lc]) ∧ Iv RVer w.heap.size w'.heap.size w' [.int .i64 v.ep, .slice pa v.parts.length pc, .slice la v.loc.length lc] v ∧ Below w.heap.size w w'
set_option maxHeartbeats 2000000 in
set_option maxRecDepth 100000 in
theorem copyVer_any (v : Ver) (pa la : Option Addr) (pc lc : Nat) (w : World) (h : VerAt w v pa la pc lc) (hi64 : I64 v.ep) :
    Calls Tryd.prog 83 #[.agg #[.int .i64 v.ep, .slice pa v.parts.length pc, .slice la v.loc.length lc]] w (NewVer w v) := by
  have H := Lib.hid h
  have HI := Lib.hid hi64
  clear h hi64
  go_enter Tryd.func83, Tryd.ntmps83
  go_wp2_with fail
  generalize hW : (w.alloc _).alloc _ = W
  have h0 : Below w.heap.size w W := by subst hW; exact (b1 _ _).alloc (by simp) _
  have hz : W.heap.size = w.heap.size + 2 := by subst hW; simp
  have hbx : W.heap[w.heap.size]? = some (.cells #[.int .i64 v.ep, .slice pa v.parts.length pc, .slice la v.loc.length lc] 66 (0, 0)) := by subst hW; exact heap_alloc_keep (heap_alloc_new _ _) _
  have hrs : W.heap[w.heap.size + 1]? = some (.cells #[.int .i64 0, .slice none 0 0, .slice none 0 0] 66 (0, 0)) := by subst hW; exact heap_alloc_new2 _ _ (by simp)
  have H0 := Lib.hid h0
  have HZ := Lib.hid hz
  have HBX := Lib.hid hbx
  have HRS := Lib.hid hrs
  clear h0 hz hbx hrs hW
  (with_reducible refine (copyParts_any pa pc v.parts _ (H.out.below H0.out).parts).mono ?_)
  rintro e w2 ⟨a1, c1, rfl, hiv, hb⟩
  have hbx2 := (hb.block w.heap.size (by have := HZ.out; omega)).trans HBX.out
  have hrs2 := (hb.block (w.heap.size + 1) (by have := HZ.out; omega)).trans HRS.out
  have k1 : w2.cell? ⟨w.heap.size, 1, none⟩ = some (.slice pa v.parts.length pc) := by rw [cell_of_cells hbx2]; rfl
  have k2 : w2.cell? ⟨w.heap.size, 2, none⟩ = some (.slice la v.loc.length lc) := by rw [cell_of_cells hbx2]; rfl
  have f1 : w2.frozen? ⟨w.heap.size, 1, none⟩ = false := by simp [World.frozen?, hbx2]
  have HB2 := Lib.hid hb
  have HIV := Lib.hid hiv
  have HBX2 := Lib.hid hbx2
  have HRS2 := Lib.hid hrs2
  clear hb hiv hbx2 hrs2
  go_wp2_with fail
  generalize hW3 : w2.setCell _ _ = W3
  have hbx3 : W3.heap[w.heap.size]? = some (.cells #[.int .i64 v.ep, .slice a1 v.parts.length c1, .slice la v.loc.length lc] 66 (0, 0)) := by subst hW3; rw [heap_setCell_same w2 w.heap.size 1 _ _ _ HBX2.out]; rfl
  have hot : ∀ b, b ≠ w.heap.size → W3.heap[b]? = w2.heap[b]? := fun b hb => by subst hW3; exact Below.heap_setCell _ _ _ _ hb
  have hsz : W3.heap.size = w2.heap.size := by subst hW3; simp [World.setCell]
  have h03 : Below w.heap.size w W3 := by subst hW3; exact (fin H0.out HB2.out).setCell (Nat.le_refl _) _
  have HBX3 := Lib.hid hbx3
  have HOT := Lib.hid hot
  have HSZ := Lib.hid hsz
  have H03 := Lib.hid h03
  clear hbx3 hot hsz h03 hW3 k1 k2 f1
  (with_reducible refine (copyParts_any la lc v.loc _ (H.out.below H03.out).loc).mono ?_)
  rintro e w4 ⟨a2, c2, rfl, hiv2, hb4⟩
  have hnz : w.heap.size + 2 ≤ w2.heap.size := by rw [← HZ.out]; exact HB2.out.size
  have hbx4 := (hb4.block w.heap.size (by rw [HSZ.out]; omega)).trans HBX3.out
  have hrs4 := (hb4.block (w.heap.size + 1) (by rw [HSZ.out]; omega)).trans ((HOT.out _ (by omega)).trans HRS2.out)
  have k0 : w4.cell? ⟨w.heap.size, 0, none⟩ = some (.int .i64 v.ep) := by rw [cell_of_cells hbx4]; rfl
  have k1 : w4.cell? ⟨w.heap.size, 1, none⟩ = some (.slice a1 v.parts.length c1) := by rw [cell_of_cells hbx4]; rfl
  have k2 : w4.cell? ⟨w.heap.size, 2, none⟩ = some (.slice la v.loc.length lc) := by rw [cell_of_cells hbx4]; rfl
  have f2 : w4.frozen? ⟨w.heap.size, 2, none⟩ = false := by simp [World.frozen?, hbx4]
  have r0 : w4.cell? ⟨w.heap.size + 1, 0, none⟩ = some (.int .i64 0) := by rw [cell_of_cells hrs4]; rfl
  have r1 : w4.cell? ⟨w.heap.size + 1, 1, none⟩ = some (.slice none 0 0) := by rw [cell_of_cells hrs4]; rfl
  have r2 : w4.cell? ⟨w.heap.size + 1, 2, none⟩ = some (.slice none 0 0) := by rw [cell_of_cells hrs4]; rfl
  have g0 : w4.frozen? ⟨w.heap.size + 1, 0, none⟩ = false := by simp [World.frozen?, hrs4]
  have g1 : w4.frozen? ⟨w.heap.size + 1, 1, none⟩ = false := by simp [World.frozen?, hrs4]
  have g2 : w4.frozen? ⟨w.heap.size + 1, 2, none⟩ = false := by simp [World.frozen?, hrs4]
  have HB4 := Lib.hid hb4
  have HIV2 := Lib.hid hiv2
  clear hb4 hiv2 hbx4 hrs4
  go_wp2
  refine bodyPost_ret (v := .agg #[.int .i64 v.ep, .slice a1 v.parts.length c1, .slice a2 v.loc.length c2]) (by simp [results, Tryd.results83, go_sem, r0, r1, r2]) rfl ?_
  generalize hW9 : World.setCell (World.setCell (World.setCell (World.setCell w4 _ _) _ _) _ _) _ _ = W9
  have hot9 : ∀ b, b ≠ w.heap.size → b ≠ w.heap.size + 1 → W9.heap[b]? = w4.heap[b]? := by
    intro b h1 h2
    subst hW9
    rw [Below.heap_setCell _ _ _ _ h2, Below.heap_setCell _ _ _ _ h2, Below.heap_setCell _ _ _ _ h2, Below.heap_setCell _ _ _ _ h1]
  have hsz9 : W9.heap.size = w4.heap.size := by subst hW9; simp [World.setCell]
  have hb9 : Below w.heap.size w W9 := by
    subst hW9
    exact ((((fin H03.out HB4.out).setCell (Nat.le_refl _) _).setCell (Nat.le_succ _) _).setCell (Nat.le_succ _) _).setCell (Nat.le_succ _) _
  have h34 : W3.heap.size ≤ w4.heap.size := HB4.out.size
  have e3 := HSZ.out
  have eZ := HZ.out
  refine ⟨a1, c1, a2, c2, rfl, RVer.iv HI.out (Iv.wide (lo := W.heap.size) (hi := w2.heap.size) ?_ (by omega) (by omega) (Nat.le_refl _)) (Iv.wide (lo := W3.heap.size) (hi := w4.heap.size) ?_ (by omega) (by omega) (Nat.le_refl _)), hb9⟩
  · refine HIV.out.keep (by omega) fun b h1 h2 => ?_
    rw [hot9 b (by omega) (by omega), HB4.out.block b (by omega)]
    exact HOT.out b (by omega)
  · refine HIV2.out.keep (by omega) fun b h1 h2 => ?_
    exact hot9 b (by omega) (by omega)
end Go.Proofs.YtpminhafljlldaaDoor
