/- The contract of order.sorter's rings. -/
import Derived.Test.YtnmcajinaigcjaaGreatDoorOA
import Derived.Test.YtnmcajinaigcjaaGreatDoorOB
import Derived.ScopeJumps
import Derived.WalkMore
namespace Go
section
variable {P : Program} {a : Act} {w : World} {Q : Exit → Act → World → Prop}
/-- a scope with a label: what goes on behind it is walked once -/
theorem wp_scope_once {c rest : Code} (l : Nat) (J : Act → World → Prop) (μ : Act → World → Nat) (hf : findLabel c l = some (.seq .skip rest))
    (first : (∀ a w, J a w → rest.wp P (Exit.jump l J Q) a w) → c.wp P (Exit.jump l J Q) a w)
    (pass : ∀ a w, J a w → rest.wp P (Exit.jump l (fun a' w' => J a' w' ∧ μ a' w' < μ a w) Q) a w) : (Code.scope c).wp P Q a w := by
  refine wp_scope_jumps l J μ hf (first fun a w h => wp_mono (pass a w h) ?_) fun a w h => wp_seq (wp_skip (pass a w h))
  intro e a' w' hq
  cases e with
  | goto l' => exact ⟨hq.1, hq.2.1⟩
  | _ => exact hq
end
end Go
namespace Go.Proofs.YtnmcajinaigcjaaGreatDoor
open Go.RowKit
open Q (It Ver Tm Sp Rc Dm)

/-- the memory of rings: the sorter in a box, the place in the next, the rings behind it -/
structure RMem (w : World) (S : Nat) (l : List Rc) (ch : List Bool) (i j : Nat) (xa : Option Addr) (xc : Nat) (xs : List Hd) (w' : World) : Prop where
  bx : w'.heap[w.heap.size]? = some (.cells #[.pointer (some ⟨S, 0, none⟩)] 71 (0, 0))
  ix : w'.heap[w.heap.size + 1]? = some (.cells #[.int .i64 (i : Int)] 3 (0, 0))
  rows : Rows w' (w.heap.size + 2) xa xc xs
  rs : xs.map (·.2.2) = O.ringsTo (O.chB ch) (O.ndB l ch) (O.lt l) j
  below : Below w.heap.size w w'
  le : i ≤ l.length
theorem RMem.facts {w : World} {S : Nat} {l : List Rc} {ch : List Bool} {i j : Nat} {xa : Option Addr} {xc : Nat} {xs : List Hd} {w' : World} (h : RMem w S l ch i j xa xc xs w') :
    w'.cell? ⟨w.heap.size, 0, none⟩ = some (.pointer (some ⟨S, 0, none⟩)) ∧ w'.cell? ⟨w.heap.size + 1, 0, none⟩ = some (.int .i64 (i : Int)) ∧ w'.frozen? ⟨w.heap.size + 1, 0, none⟩ = false ∧ w.heap.size + 1 < w'.heap.size :=
  ⟨by rw [cell_of_cells h.bx]; rfl, by rw [cell_of_cells h.ix]; rfl, by simp [World.frozen?, h.ix], (Array.getElem?_eq_some_iff.1 h.ix).1⟩
theorem RMem.dr {w : World} {S : Nat} {l : List Rc} {ch : List Bool} {i j : Nat} {xa : Option Addr} {xc : Nat} {xs : List Hd} {w' : World} (h : RMem w S l ch i j xa xc xs w') (q : Nat) : RMem w S l ch i j xa xc xs (w'.drewN q) :=
  ⟨h.bx, h.ix, h.rows.below (bDr (Below.refl _ _)), h.rs, bDr h.below, h.le⟩
theorem RMem.step {w : World} {S : Nat} {l : List Rc} {ch : List Bool} {i j : Nat} {xa : Option Addr} {xc : Nat} {xs : List Hd} {w' : World} (h : RMem w S l ch i j xa xc xs w') (hi : i < l.length) : RMem w S l ch (i + 1) j xa xc xs (w'.setCell ⟨w.heap.size + 1, 0, none⟩ (.int .i64 ((i : Int) + 1))) := by
  refine ⟨?_, ?_, h.rows.keep fun b hb _ => Below.heap_setCell _ _ _ _ (by show b ≠ w.heap.size + 1; omega), h.rs, h.below.setCell (p := ⟨w.heap.size + 1, 0, none⟩) (Nat.le_succ _) _, hi⟩
  · rw [Below.heap_setCell _ _ _ _ (by show w.heap.size ≠ w.heap.size + 1; omega)]; exact h.bx
  · have := heap_setCell_same w' (w.heap.size + 1) 0 _ _ (.int .i64 ((i : Int) + 1)) h.ix
    simpa using this
/-- how many are to come -/
def ringsMu (n : Nat) (a' : Act) (w' : World) : Nat :=
  match a'.tmps.getD 4 undef with
  | .pointer (some p) => (match w'.cell? p with | some (.int _ z) => n - z.toNat | _ => 0)
  | _ => 0
theorem RMem.push {w : World} {S : Nat} {l : List Rc} {ch : List Bool} {i : Nat} {xa a3 : Option Addr} {xc c3 : Nat} {xs : List Hd} {W w3 : World} (h : RMem w S l ch i i xa xc xs W) (hc : O.chB ch i = true) (hno : ∀ r ∈ O.ringsTo (O.chB ch) (O.ndB l ch) (O.lt l) i, O.same (O.ndB l ch) (O.hd r) i = false) {o : Obj}
    (hO : Own 31 1 w3 (w.heap.size + 2) a3 c3 (xs.length + 1) (xs.map RowV ++ [.slice (some ⟨W.heap.size, 0, none⟩) 1 1]))
    (hg : ((W.alloc (Obj.cells #[.int .i64 (i : Int)] 3)).alloc o).grownBy w3 (Value.slice xa xs.length xc).ownBlock)
    (hb : Below (w.heap.size + 2) ((W.alloc (Obj.cells #[.int .i64 (i : Int)] 3)).alloc o) w3)
    (hat : ∀ ad', a3 = some ad' → (∃ ad, xa = some ad ∧ ad.block = ad'.block) ∨ ((W.alloc (Obj.cells #[.int .i64 (i : Int)] 3)).alloc o).heap.size ≤ ad'.block) :
    RMem w S l ch i (i + 1) a3 c3 (xs ++ [(W.heap.size, 1, [i])]) w3 := by
  have hl := h.facts.2.2.2
  refine ⟨(hb.block _ (by omega)).trans (heap_alloc_keep (heap_alloc_keep h.bx _) _), (hb.block _ (by omega)).trans (heap_alloc_keep (heap_alloc_keep h.ix _) _), h.rows.push (by omega) hO hg hat, ?_, ?_, h.le⟩
  · rw [List.map_append, h.rs, O.ringsTo_new hc hno]; rfl
  · exact ((h.below.alloc h.below.size _).alloc (by simp; have := h.below.size; omega) _).trans (hb.mono (by omega))
/-- .. while a ring is turned -/
structure RMid (w : World) (S : Nat) (i : Nat) (xa : Option Addr) (xc : Nat) (xs : List Hd) (w' : World) : Prop where
  bx : w'.heap[w.heap.size]? = some (.cells #[.pointer (some ⟨S, 0, none⟩)] 71 (0, 0))
  ix : w'.heap[w.heap.size + 1]? = some (.cells #[.int .i64 (i : Int)] 3 (0, 0))
  rows : Rows w' (w.heap.size + 2) xa xc xs
  below : Below w.heap.size w w'
theorem RMid.facts {w : World} {S i : Nat} {xa : Option Addr} {xc : Nat} {xs : List Hd} {w' : World} (h : RMid w S i xa xc xs w') :
    w'.cell? ⟨w.heap.size, 0, none⟩ = some (.pointer (some ⟨S, 0, none⟩)) ∧ w'.cell? ⟨w.heap.size + 1, 0, none⟩ = some (.int .i64 (i : Int)) ∧ w'.frozen? ⟨w.heap.size + 1, 0, none⟩ = false ∧ w.heap.size + 1 < w'.heap.size :=
  ⟨by rw [cell_of_cells h.bx]; rfl, by rw [cell_of_cells h.ix]; rfl, by simp [World.frozen?, h.ix], (Array.getElem?_eq_some_iff.1 h.ix).1⟩
theorem grown_keep {W w4 : World} {o : Obj} {g xg : Nat} (hG : ((W.alloc o).drew).grownBy w4 (some g)) (hx : xg < W.heap.size) (hne : xg ≠ g) : w4.heap[xg]? = W.heap[xg]? := by
  have h1 : ((W.alloc o).drew).heap[xg]? = W.heap[xg]? := (b1 W o).block xg hx
  refine (hG.block xg ?_ fun e => hne (Option.some.inj e)).trans h1
  show xg < (W.alloc o).heap.size
  simp; omega
theorem RMem.grow {w : World} {S : Nat} {l : List Rc} {ch : List Bool} {i j k g cg g3 c3 xg xc : Nat} {r : List Nat} {xs : List Hd} {W w4 : World} {o : Obj} (h : RMem w S l ch i j (some ⟨xg, 0, none⟩) xc xs W) (hx : xs[k]? = some (g, cg, r))
    (hO : Own 3 1 w4 (w.heap.size + 2) (some ⟨g3, 0, none⟩) c3 (r.length + 1) (enN r ++ [.int .i64 (i : Int)])) (hG : ((W.alloc o).drew).grownBy w4 (some g)) (hB : Below (w.heap.size + 2) ((W.alloc o).drew) w4)
    (hat : ∀ ad', some (⟨g3, 0, none⟩ : Addr) = some ad' → (∃ ad, some (⟨g, 0, none⟩ : Addr) = some ad ∧ ad.block = ad'.block) ∨ ((W.alloc o).drew).heap.size ≤ ad'.block) :
    RMid w S i (some ⟨xg, 0, none⟩) xc (xs.set k (g3, c3, r ++ [i])) (w4.setCell ⟨xg, k, none⟩ (.slice (some ⟨g3, 0, none⟩) (r.length + 1) c3)) := by
  have hxm := List.mem_of_getElem? hx
  have hne : xg ≠ g := h.rows.off _ hxm ⟨xg, 0, none⟩ rfl
  have hsz : W.heap.size < ((W.alloc o).drew).heap.size := by show W.heap.size < (W.alloc o).heap.size; simp
  obtain ⟨h1, h2, _⟩ := h.rows.hd.tag _ rfl
  have h1 : w.heap.size + 2 ≤ xg := h1
  have h2 : xg < W.heap.size := h2
  have hm3 := h.facts.2.2.2
  have hold : ∀ b, b < W.heap.size → b ≠ g → b ≠ xg → (w4.setCell ⟨xg, k, none⟩ (.slice (some ⟨g3, 0, none⟩) (r.length + 1) c3)).heap[b]? = W.heap[b]? := fun b hb hbg hbx => by
    rw [Below.heap_setCell _ _ _ _ (show b ≠ xg from hbx)]; exact grown_keep hG hb hbg
  have hg := h.rows.lt hxm
  have hgb : w.heap.size + 2 ≤ g := hg.1
  have hg3 : g3 = g ∨ W.heap.size ≤ g3 := by
    rcases hat _ rfl with ⟨ad, e1, e2⟩ | h3
    · cases e1; exact .inl e2.symm
    · have h3 : ((W.alloc o).drew).heap.size ≤ g3 := h3; exact .inr (by omega)
  refine ⟨(hold _ (by omega) (by omega) (by omega)).trans h.bx, (hold _ (by omega) (by omega) (by omega)).trans h.ix, ?_, ?_⟩
  · refine h.rows.turn hx ?_ ?_ (fun b hb hbg hbx => hold b hb hbg fun e => hbx _ rfl e.symm) hg3
    · have e1 : RowV (g3, c3, r ++ [i]) = .slice (some ⟨g3, 0, none⟩) (r.length + 1) c3 := by simp [RowV]
      rw [e1]
      refine (World.ownsRow.stored ?_ k _).1
      exact Own.same h.rows.hd fun b e => by cases e; exact grown_keep hG h2 hne
    · show Own _ _ _ _ _ _ (r ++ [i]).length _
      rw [enN_append, List.length_append]
      refine Own.same hO fun b e => ?_
      cases e
      exact Below.heap_setCell _ _ _ _ (show g3 ≠ xg by rcases hg3 with h4 | h4 <;> omega)
  · have := h.below.size
    exact (((h.below.alloc h.below.size o).drew).trans (hB.mono (by omega))).setCell (p := ⟨xg, k, none⟩) (by show w.heap.size ≤ xg; omega) _
theorem RMid.sorted {w : World} {S : Nat} {l : List Rc} {ch : List Bool} {i k g3 c3 xg xc : Nat} {r : List Nat} {ys : List Hd} {W W2 : World} {rs : List (List Nat)} (h : RMid w S i (some ⟨xg, 0, none⟩) xc ys W) (hx : ys[k]? = some (g3, c3, r))
    (hO : OwnN W2 (w.heap.size + 2) (some ⟨g3, 0, none⟩) c3 (O.srt (O.lt l) r)) (hG : W.grownBy W2 (some g3)) (hr : ys.map (·.2.2) = rs.set k r) (hrs : rs.set k (O.srt (O.lt l) r) = O.ringsTo (O.chB ch) (O.ndB l ch) (O.lt l) (i + 1)) (hi : i ≤ l.length) :
    RMem w S l ch i (i + 1) (some ⟨xg, 0, none⟩) xc (ys.set k (g3, c3, O.srt (O.lt l) r)) W2 := by
  have hxm := List.mem_of_getElem? hx
  have hg := h.rows.lt hxm
  have hgb : w.heap.size + 2 ≤ g3 := hg.1
  have hm3 := h.facts.2.2.2
  have hold : ∀ b, b < W.heap.size → b ≠ g3 → W2.heap[b]? = W.heap[b]? := fun b hb hbg => hG.block b hb fun e => hbg (Option.some.inj e)
  have hlen : (O.srt (O.lt l) r).length = r.length := (O.srt_perm _ _).length_eq
  obtain ⟨h1, h2, _⟩ := h.rows.hd.tag _ rfl
  have hne : xg ≠ g3 := h.rows.off _ hxm ⟨xg, 0, none⟩ rfl
  refine ⟨(hold _ (by omega) (by omega)).trans h.bx, (hold _ (by omega) (by omega)).trans h.ix, ?_, ?_, ?_, hi⟩
  · refine h.rows.turn hx ?_ hO (fun b hb hbg _ => hold b hb hbg) (.inl rfl)
    have e1 : RowV (g3, c3, O.srt (O.lt l) r) = RowV (g3, c3, r) := by simp [RowV, hlen]
    have e2 : (ys.map RowV).set k (RowV (g3, c3, r)) = ys.map RowV := by
      apply List.ext_getElem?; intro q; rw [List.getElem?_set]
      by_cases e : k = q
      · subst e
        have := (List.getElem?_eq_some_iff.1 hx)
        simp [this.1, this.2]
      · rw [if_neg e]
    rw [e1, e2]
    exact Own.same h.rows.hd fun b e => by cases e; exact hold _ h2 hne
  · rw [List.map_set, hr, List.set_set, hrs]
  · exact below_grownBy h.below hG h.below.size (by omega)
theorem ringsMu_lt {w : World} {S n : Nat} {l : List Rc} {ch : List Bool} {i j j' : Nat} {xa xa' : Option Addr} {xc xc' : Nat} {xs xs' : List Hd} {w' w2 : World} {b b' : Act} (h : RMem w S l ch i j xa xc xs w') (h2 : RMem w S l ch (i + 1) j' xa' xc' xs' w2) (hi : i < n)
    (e : b.tmps.getD 4 undef = .pointer (some ⟨w.heap.size + 1, 0, none⟩)) (e' : b'.tmps.getD 4 undef = .pointer (some ⟨w.heap.size + 1, 0, none⟩)) : ringsMu n b' w2 < ringsMu n b w' := by
  have h3 := h2.facts.2.1
  have h4 := h.facts.2.1
  unfold ringsMu
  rw [e, e']
  simp only [h3, h4]
  omega
set_option maxHeartbeats 4000000 in
set_option maxRecDepth 100000 in
theorem orings_any (S : Nat) (a b na ra : Option Addr) (c e nc rc : Nat) (l : List Rc) (ch : List Bool) (w : World) (hS : SBk w S (.slice a l.length c) (.slice b ch.length e) (.slice na l.length nc) (.slice ra l.length rc)) (hR : RIn w a b l ch) (hl : ch.length = l.length) (hm : l.length ≤ 1000) (hN : SrtR w S l.length (O.ndB l ch) ra rc) :
    Calls Tryz.prog 25 #[.pointer (some ⟨S, 0, none⟩)] w fun e' w' => ∃ xa xc xs, e' = .returned (.slice xa xs.length xc) ∧ Rows w' (w.heap.size + 2) xa xc xs ∧ xs.map (·.2.2) = O.ringsTo (O.chB ch) (O.ndB l ch) (O.lt l) l.length ∧ Below w.heap.size w w' := by
  have HS := Lib.hid hS
  have HR := Lib.hid hR
  have HL := Lib.hid hl
  have HN := Lib.hid hN
  clear hS hR hl hN
  go_enter Tryz.func25, Tryz.ntmps25
  go_wp2_with fail
  refine wp_scope_once 0 (fun a' w' => ∃ (i : Nat) (xa : Option Addr) (xc : Nat) (xs : List Hd) (u5 u6 u7 u8 u9 u10 u11 u12 u13 u14 u15 u16 u17 u18 u19 u20 u21 u22 u23 u24 u25 u26 u27 u28 u29 u30 u31 u32 u33 u34 u35 u36 u37 u38 u39 u40 u41 u42 u43 u44 u45 u46 u47 u48 u49 u50 u51 u52 : Value), RMem w S l ch i i xa xc xs w' ∧ a' = { tmps := #[.pointer (some ⟨S, 0, none⟩), .pointer (some ⟨w.heap.size, 0, none⟩), .slice none 0 0, .slice xa xs.length xc, .pointer (some ⟨w.heap.size + 1, 0, none⟩), u5, u6, u7, u8, u9, u10, u11, u12, u13, u14, u15, u16, u17, u18, u19, u20, u21, u22, u23, u24, u25, u26, u27, u28, u29, u30, u31, u32, u33, u34, u35, u36, u37, u38, u39, u40, u41, u42, u43, u44, u45, u46, u47, u48, u49, u50, u51, u52], defers := [] }) (ringsMu l.length) rfl ?_ ?_
  · intro hp
    go_wp2
    go_step3
    rename_i hk
    refine hk _ _ (hp _ _ ⟨0, none, 0, [], _, _, _, _, _, _, _, _, _, _, _, _, _, _, _, _, _, _, _, _, _, _, _, _, _, _, _, _, _, _, _, _, _, _, _, _, _, _, _, _, _, _, _, _, _, _, _, _, ?_, rfl⟩)
    have hb0 : Below w.heap.size w ((w.alloc (Obj.cells #[.pointer (some ⟨S, 0, none⟩)] 71)).alloc (Obj.cells #[.int .i64 0] 3)) := (b1 _ _).alloc (by simp) _
    refine ⟨heap_alloc_keep (heap_new1 _ _) _, ?_, Rows.nil _ _, rfl, hb0, Nat.zero_le _⟩
    have := heap_new1 (w.alloc (Obj.cells #[.pointer (some ⟨S, 0, none⟩)] 71)) (Obj.cells #[.int .i64 0] 3)
    simpa using this
  · rintro a' w' ⟨i, xa, xc, xs, u5, u6, u7, u8, u9, u10, u11, u12, u13, u14, u15, u16, u17, u18, u19, u20, u21, u22, u23, u24, u25, u26, u27, u28, u29, u30, u31, u32, u33, u34, u35, u36, u37, u38, u39, u40, u41, u42, u43, u44, u45, u46, u47, u48, u49, u50, u51, u52, hM, rfl⟩
    obtain ⟨m0, m1, m2, m3⟩ := hM.facts
    have hle := hM.le
    have hSl := HS.out.cells.1
    obtain ⟨_, s0, s1, _⟩ := (HS.out.keep (hM.below.block S hSl)).cells
    have hzs := hM.below.size
    have HM := Lib.hid hM
    have hM0 := hM
    clear hM
    by_cases hlt : i < l.length
    · have n1 : ((i : Int) == (l.length : Int)) = false := by simp; omega
      have hltc : i < ch.length := by have := HL.out; omega
      obtain ⟨y, hy⟩ : ∃ x, ch[i]? = some x := ⟨ch[i], by simp [hltc]⟩
      obtain ⟨b2, o2, rfl, hbl2, hcb⟩ := HR.out.bools.addr (by omega)
      have hcy := (HM.out.below.cell (p := ⟨b2, o2 + i, none⟩) hbl2).trans (hcb i y hy)
      have HY := Lib.hid hy
      have HCB := Lib.hid hcb
      clear hcb hy
      go_wp2_with fail
      go_region
      go_wp2_with fail
      obtain ⟨W1, hW1⟩ : ∃ x, x = w'.drew := ⟨_, rfl⟩
      rw [← hW1]
      have hM1 : RMem w S l ch i i xa xc xs W1 := hW1 ▸ HM.out.dr 1
      clear hW1 HM m0 m1 m2 m3 s0 s1 hcy hzs
      obtain ⟨m0, m1, m2, m3⟩ := hM1.facts
      have hrw := fun (r : List Nat) (h : r ∈ O.ringsTo (O.chB ch) (O.ndB l ch) (O.lt l) i) => O.ringsTo_row h
      have hxl : xs.length ≤ i := by have := O.ringsTo_length (ch := O.chB ch) (nd := O.ndB l ch) (lt := O.lt l) i; rw [← hM1.rs] at this; simpa using this
      (with_reducible refine (oindex_any S w.heap.size (w.heap.size + 1) l.length (w.heap.size + 2) (O.ndB l ch) ra xa rc xc i xs _ (HN.out.below hM1.below) m0 m1 hM1.rows ?_ hlt (by omega)).mono ?_)
      · intro x hx
        have h1 : x.2.2 ∈ O.ringsTo (O.chB ch) (O.ndB l ch) (O.lt l) i := by rw [← hM1.rs]; exact List.mem_map.2 ⟨x, hx, rfl⟩
        exact ⟨(hrw _ h1).1, Nat.lt_trans ((hrw _ h1).2.2 _ (O.hd_mem (hrw _ h1).1)) hlt⟩
      rintro e1 w2 ⟨p, rfl, ⟨q, hw2⟩, hp⟩
      have hM2 : RMem w S l ch i i xa xc xs w2 := hw2 ▸ hM1.dr q
      rw [hM1.rs] at hp
      have HP := Lib.hid hp
      clear hw2 hM1 hp m0 m1 m2 m3
      obtain ⟨m0, m1, m2, m3⟩ := hM2.facts
      obtain ⟨_, s0, s1, _⟩ := (HS.out.keep (hM2.below.block S hSl)).cells
      have hzs := hM2.below.size
      have hcy := (hM2.below.cell (p := ⟨b2, o2 + i, none⟩) hbl2).trans (HCB.out i y HY.out)
      have HM := Lib.hid hM2
      clear hM2
      have HM0 := Lib.hid hM0
      cases y
      · go_wp2_with fail
        go_region
        have hM3 : RMem w S l ch i (i + 1) xa xc xs w2.drew := ⟨HM.out.bx, HM.out.ix, (HM.out.dr 1).rows, by rw [HM.out.rs, O.ringsTo_off (O.chB_get HY.out)], (HM.out.dr 1).below, HM.out.le⟩
        have HM4 := Lib.hid (hM3.step hlt)
        clear hM3 HM
        go_wp2
        go_step3
        exact ⟨rfl, ⟨i + 1, xa, xc, xs, _, _, _, _, _, _, _, _, _, _, _, _, _, _, _, _, _, _, _, _, _, _, _, _, _, _, _, _, _, _, _, _, _, _, _, _, _, _, _, _, _, _, _, _, _, _, _, _, HM4.out, rfl⟩, ringsMu_lt HM0.out HM4.out hlt rfl rfl⟩
      · rcases HP.out with ⟨rfl, hno⟩ | ⟨k, r, rfl, hk, hsm⟩
        · have HNO := Lib.hid hno
          clear hno HP
          go_wp2_with fail
          go_region
          obtain ⟨W3, hW3⟩ : ∃ x, x = w2.drew := ⟨_, rfl⟩
          rw [← hW3]
          have hM3 : RMem w S l ch i i xa xc xs W3 := hW3 ▸ HM.out.dr 1
          clear hW3 HM m0 m1 m2 m3 s0 s1 hcy
          obtain ⟨m0, m1, m2, m3⟩ := hM3.facts
          have HM := Lib.hid hM3
          have hzs := hM3.below.size
          have hxl : xs.length ≤ i := by have := O.ringsTo_length (ch := O.chB ch) (nd := O.ndB l ch) (lt := O.lt l) i; rw [← hM3.rs] at this; simpa using this
          clear hM3
          go_wp2_with (at_builtin; refine wpList_append_flatAt (R := RV) Tryz.infoInts rfl (by decide) rfl (.tmp 46) (.tmp 49) 26 rfl Tryz.underlying26 (w.heap.size + 2) xa xs.length xc (xs.map RowV) rfl ((HM.out.rows.hd.below (b1 _ _)).below (b1 _ _)) _ _ _ [.slice (some ⟨W3.heap.size, 0, none⟩) 1 1] rfl rfl (oneNV (by simp) (.slice (some ⟨W3.heap.size, 0, none⟩) 1 1) rfl _) (RV.ones _) (by omega) (by omega) (by simp; omega) ?_; intro a3 c3 w3 cells1 hO3 hF3 hG3 hB3 hat3; have HM5 := Lib.hid (HM.out.push (O.chB_get HY.out) HNO.out (hF3.rv ▸ hO3) hG3 hB3 hat3); obtain ⟨m0, m1, m2, m3⟩ := HM5.out.facts; clear hO3 hF3 hG3 hB3 hat3)
          have HM4 := Lib.hid (HM5.out.step hlt)
          go_step3
          rw [show xs.length + 1 = (xs ++ [(W3.heap.size, 1, [i])]).length by simp]
          exact ⟨rfl, ⟨i + 1, a3, c3, xs ++ [(W3.heap.size, 1, [i])], _, _, _, _, _, _, _, _, _, _, _, _, _, _, _, _, _, _, _, _, _, _, _, _, _, _, _, _, _, _, _, _, _, _, _, _, _, _, _, _, _, _, _, _, _, _, _, _, HM4.out, rfl⟩, ringsMu_lt HM0.out HM4.out hlt rfl rfl⟩
        · obtain ⟨⟨g, cg, r'⟩, hx, rfl⟩ : ∃ x : Hd, xs[k]? = some x ∧ x.2.2 = r := by
            rw [← HM.out.rs, List.getElem?_map] at hk
            cases hx : xs[k]? with
            | none => rw [hx] at hk; cases hk
            | some x => rw [hx] at hk; exact ⟨x, rfl, Option.some.inj hk⟩
          have HX := Lib.hid hx
          have HK := Lib.hid hk
          have HSM := Lib.hid hsm
          clear hx hk hsm HP
          go_wp2_with fail
          go_region
          obtain ⟨W3, hW3⟩ : ∃ x, x = w2.drew := ⟨_, rfl⟩
          rw [← hW3]
          have hM3 : RMem w S l ch i i xa xc xs W3 := hW3 ▸ HM.out.dr 1
          clear hW3 HM m0 m1 m2 m3 s0 s1 hcy
          obtain ⟨m0, m1, m2, m3⟩ := hM3.facts
          have HM := Lib.hid hM3
          have hzs := hM3.below.size
          have hxl : xs.length ≤ i := by have := O.ringsTo_length (ch := O.chB ch) (nd := O.ndB l ch) (lt := O.lt l) i; rw [← hM3.rs] at this; simpa using this
          obtain ⟨xg, rfl, x1, x2, x3, x4⟩ := hM3.rows.cell HX.out
          unfold RowV at x3
          have hkl : k < xs.length := (List.getElem?_eq_some_iff.1 HX.out).1
          clear hM3
          have n5 : decide ((k : Int) < 0) = false := decide_eq_false (by omega)
          have hne : xg ≠ g := HM.out.rows.off _ (List.mem_of_getElem? HX.out) ⟨xg, 0, none⟩ rfl
          have HROW := Lib.hid (show Own 3 1 W3 (w.heap.size + 2) (some ⟨g, 0, none⟩) cg r'.length (enN r') from HM.out.rows.row _ (List.mem_of_getElem? HX.out))
          have hrl : r'.length ≤ i := by
            have := O.ringsTo_row (ch := O.chB ch) (nd := O.ndB l ch) (lt := O.lt l) (i := i) (r := r') (List.mem_of_getElem? HK.out)
            exact this.2.1
          go_wp2_with fail
          go_region_law
            (refine step_append1At Tryz.infoInt rfl rfl (.tmp 22) (.tmp 24) 31 rfl Tryz.underlying31 (w.heap.size + 2) (some ⟨g, 0, none⟩) r'.length cg (enN r') rfl (HROW.out.below (((Below.refl _ _).alloc (Nat.le_refl _) _).drew)) _ (.int .i64 (i : Int)) rfl ?_ rfl (by omega) (by omega) (by simp; omega) ?_; (focus (simp; done)); intro a3 c3 w4 hO3 hG3 hB3 hat3; have hk3 := grown_keep hG3 x1 hne; have q0 := (World.cell?_of_block (a := ⟨xg, k, none⟩) hk3).trans x3; have q1 := (World.frozen?_of_block (a := ⟨xg, k, none⟩) hk3).trans x4; obtain ⟨g3, rfl, _⟩ := Own.cell hO3 (i := r'.length) (v := .int .i64 (i : Int)) (by simp [enN_length]); have HMID := Lib.hid (HM.out.grow HX.out hO3 hG3 hB3 hat3); clear hO3 hG3 hB3 hat3 hk3)
          all_goals
            generalize w4.setCell _ _ = W5 at HMID
            clear m0 m1 m2 m3 x1 x2 x3 x4 hne q0 q1 HM HROW
            have hse : (r' ++ [i]).length = r'.length + 1 := by simp
            have hxk : (xs.set k (g3, c3, r' ++ [i]))[k]? = some (g3, c3, r' ++ [i]) := by simp [hkl]
            obtain ⟨_, e5, _, _, x3, _⟩ := HMID.out.rows.cell hxk
            cases e5
            unfold RowV at x3
            rw [hse] at x3
            obtain ⟨m0, m1, m2, m3⟩ := HMID.out.facts
            obtain ⟨_, s0, _⟩ := (HS.out.keep (HMID.out.below.block S hSl)).cells
            have hrx : ∀ x ∈ r' ++ [i], x < l.length := fun x hx => by
              have h1 := O.ringsTo_row (ch := O.chB ch) (nd := O.ndB l ch) (lt := O.lt l) (i := i) (r := r') (List.mem_of_getElem? HK.out)
              rcases List.mem_append.1 hx with h2 | h2
              · have := h1.2.2 x h2; omega
              · simp at h2; omega
            have hgl := HMID.out.rows.lt (List.mem_of_getElem? hxk)
            have hgl1 : w.heap.size + 2 ≤ g3 := hgl.1
            have hso := osort_any S c3 a c (w.heap.size + 2) g3 l (r' ++ [i]) w W5.drew hrx (by omega) HR.out.recs HMID.out.below.drew s0 (by omega) (by omega) ((HMID.out.rows.row _ (List.mem_of_getElem? hxk)).below ((Below.refl _ _).drew)) (by rw [hse]; omega)
            rw [hse] at hso
            have HSO := Lib.hid hso
            have HXK := Lib.hid hxk
            have HSE := Lib.hid hse
            clear hso hxk hse hrx hgl
            go_wp2_with fail
            go_region_law
              (go_simp; go_at_call 55; (with_reducible refine HSO.out.mono ?_); rintro e1 w6 ⟨rfl, hso, hsg⟩; have HO6 := Lib.hid hso; have HG6 := Lib.hid hsg; clear hso hsg)
            all_goals
              have hmid6 : RMid w S i (some ⟨xg, 0, none⟩) xc (xs.set k (g3, c3, r' ++ [i])) W5.drew := ⟨HMID.out.bx, HMID.out.ix, HMID.out.rows.below ((Below.refl _ _).drew), HMID.out.below.drew⟩
              have HM5 := Lib.hid (hmid6.sorted HXK.out HO6.out HG6.out (by rw [List.map_set, HM0.out.rs]) (O.ringsTo_set (O.ord l) (O.chB_get HY.out) HK.out HSM.out).symm hle)
              clear hmid6 m0 m1 m2 m3 x3 s0
              obtain ⟨m0, m1, m2, m3⟩ := HM5.out.facts
              have HM4 := Lib.hid (HM5.out.step hlt)
              go_wp2
              go_step3
              rw [show xs.length = ((xs.set k (g3, c3, r' ++ [i])).set k (g3, c3, O.srt (O.lt l) (r' ++ [i]))).length by simp]
              exact ⟨rfl, ⟨i + 1, some ⟨xg, 0, none⟩, xc, _, _, _, _, _, _, _, _, _, _, _, _, _, _, _, _, _, _, _, _, _, _, _, _, _, _, _, _, _, _, _, _, _, _, _, _, _, _, _, _, _, _, _, _, _, _, _, _, _, HM4.out, rfl⟩, ringsMu_lt HM0.out HM4.out hlt rfl rfl⟩
    · obtain rfl : i = l.length := by omega
      go_wp2_with fail
      go_region
      go_wp2
      simp only [Exit.jump]
      go_ret
      exact ⟨xa, xc, xs, rfl, (HM.out.dr 1).rows, (HM.out.dr 1).rs, (HM.out.dr 1).below⟩
end Go.Proofs.YtnmcajinaigcjaaGreatDoor
