/- The walk of haversacklaw16.SumsJoin. -/
import Derived.Test.YtllkeojkejbbeaaDoorSDigLaw
import Derived.Test.YtllkeojkejbbeaaDoorErrs
namespace Go.Proofs.YtllkeojkejbbeaaDoor
open Go.RowKit

theorem Tryd.infoWt : (Tryd.prog.info? 57).map (fun i => (i.zero, i.size, i.bytes)) = some (some (.agg #[.int .i64 0, .int .i64 0]), 2, 16) := by kernel_rfl
def wtCells (ts : List M.Wt) : List Value := ts.flatMap fun t => [.int .i64 t.1, .int .i64 t.2]
theorem wtCells_len (ts : List M.Wt) : (wtCells ts).length = ts.length * 2 := by
  induction ts with
  | nil => rfl
  | cons t ts ih => simp only [wtCells, List.flatMap_cons, List.length_append, List.length_cons, List.length_nil] at ih ⊢; omega
theorem wtCells_append (a b : List M.Wt) : wtCells (a ++ b) = wtCells a ++ wtCells b := by simp [wtCells]
theorem wtCells_get : ∀ {ts : List M.Wt} {i : Nat} {t : M.Wt}, ts[i]? = some t → (wtCells ts)[i * 2]? = some (.int .i64 t.1) ∧ (wtCells ts)[i * 2 + 1]? = some (.int .i64 t.2)
  | [], i, t, h => by simp at h
  | u :: ts, 0, t, h => by
    simp at h; subst h
    exact ⟨rfl, rfl⟩
  | u :: ts, i + 1, t, h => by
    have ih := wtCells_get (ts := ts) (i := i) (t := t) (by simpa using h)
    have e : (i + 1) * 2 = i * 2 + 2 := by omega
    rw [e]
    exact ih
theorem wtCells_at {ts : List M.Wt} {j : Nat} {u : Value} (h : (wtCells ts)[j]? = some u) : ∃ t, ts[j / 2]? = some t ∧ u = if j % 2 = 0 then .int .i64 t.1 else .int .i64 t.2 := by
  have hj : j < (wtCells ts).length := (List.getElem?_eq_some_iff.1 h).1
  rw [wtCells_len] at hj
  obtain ⟨t, ht⟩ : ∃ t, ts[j / 2]? = some t := ⟨_, List.getElem?_eq_getElem (by omega)⟩
  obtain ⟨h0, h1⟩ := wtCells_get ht
  refine ⟨t, ht, ?_⟩
  rcases Nat.mod_two_eq_zero_or_one j with e | e
  · rw [if_pos e]
    rw [show j / 2 * 2 = j by omega, h] at h0
    exact Option.some.inj h0
  · rw [if_neg (by omega)]
    rw [show j / 2 * 2 + 1 = j by omega, h] at h1
    exact Option.some.inj h1
/-- a slice of weighted literals that the call made -/
def OwnW (w : World) (base : Nat) (a : Option Addr) (c : Nat) (ts : List M.Wt) : Prop :=
  w.ownsRow base 57 2 (.slice a ts.length c) ts.length (wtCells ts)
theorem OwnW.made0 (w : World) (base : Nat) (hb : base ≤ w.heap.size) : OwnW (w.alloc (.cells #[] 57)) base (some ⟨w.heap.size, 0, none⟩) 0 [] :=
  World.ownsRow_made w #[] 0 hb (by decide) rfl
theorem OwnW.wts {w : World} {base : Nat} {a : Option Addr} {c : Nat} {ts : List M.Wt} (h : OwnW w base a c ts) (hw : ∀ t ∈ ts, I64 t.1 ∧ I64 t.2) (hl : ts.length ≤ 1000) : Wts w a ts := by
  refine ⟨fun h0 => ?_, hw, by omega⟩
  rcases h.2 with ⟨_, hn⟩ | ⟨g, cap, cur, e, hb, hg, hn, hm, hs, ht⟩
  · omega
  · injection e with e1
    subst e1
    refine ⟨g, 0, rfl, (Array.getElem?_eq_some_iff.1 hg).1, fun i t hi => ?_⟩
    have hil : i < ts.length := (List.getElem?_eq_some_iff.1 hi).1
    obtain ⟨h1, h2⟩ := wtCells_get hi
    have key : ∀ j u, j < ts.length * 2 → (wtCells ts)[j]? = some u → w.cell? ⟨g, 0 + j, none⟩ = some u := fun j u hj hu => by
      rw [Nat.zero_add, cell_of_cells hg]
      have e1 : (cur.toList.take (ts.length * 2))[j]? = (wtCells ts)[j]? := by rw [ht]
      rw [List.getElem?_take, if_pos hj, hu, Array.getElem?_toList] at e1
      exact e1
    exact ⟨key _ _ (by omega) h1, by rw [Nat.add_assoc]; exact key _ _ (by omega) h2⟩
/-- append(ys, zs...) where the call made ys -/
theorem wpList_append_W {w : World} {ops : Array Oper} {rest : List Oper} {o : Oper} {act : Act} {Q : Exit → Act → World → Prop} (hgd : o.guard = none) (s x : Operand)
    (ho : o.op = .call { callee := .builtin .append, args := #[s, x], argTypes := #[55, 55] })
    (base : Nat) (a : Option Addr) (n c : Nat) (ys : List M.Wt) (hs : act.eval s = .slice a n c) (hn : ys.length = n) (hown : OwnW w base a c ys)
    (b : Option Addr) (m d : Nat) (zs : List M.Wt) (hx : act.eval x = .slice b m d) (hm : zs.length = m) (hz : Wts w b zs) (hd : b = none → d = 0)
    (hlen : n + m ≤ 1000) (hbase : base ≤ w.heap.size)
    (h : ∀ a' c' w', OwnW w' base a' c' (ys ++ zs) → Below base w w' → wpList Tryd.prog ops Q rest (act.put o.dst (.slice a' (n + m) c')) w') :
    wpList Tryd.prog ops Q (o :: rest) act w := by
  subst hn hm
  obtain ⟨i0, hi, hz0, hz1, hz2⟩ := info_parts Tryd.infoWt
  have hge : ∀ k, (Value.slice a ys.length c).ownBlock = some k → base ≤ k := by
    intro k hk
    rcases hown.2 with ⟨e, _⟩ | ⟨g, cap, cur, e, hb, _⟩
    · rw [e] at hk; simp [Value.ownBlock] at hk
    · rw [e] at hk; simp [Value.ownBlock] at hk; omega
  have fin : ∀ v' w', w'.ownsRow base 57 2 v' (ys.length + zs.length) (wtCells ys ++ wtCells zs) → w.grownBy w' (Value.slice a ys.length c).ownBlock → wpList Tryd.prog ops Q rest (act.put o.dst v') w' := by
    intro v' w' h1 h2
    have hbel : Below base w w' := (Below.refl base w).grown h2 hbase hge
    rw [← wtCells_append, ← List.length_append] at h1
    have : ∃ a' c', v' = .slice a' (ys ++ zs).length c' := by
      rcases h1.2 with ⟨e, hn⟩ | ⟨g, cap, cur, e, _⟩
      · exact ⟨none, 0, by rw [e, hn]⟩
      · exact ⟨_, _, e⟩
    obtain ⟨a', c', rfl⟩ := this
    rw [show (ys ++ zs).length = ys.length + zs.length from List.length_append]
    exact h a' c' w' h1 hbel
  cases b with
  | some ad =>
    refine wpList_append_own w hgd s x 55 ho base 57 i0 (.agg #[.int .i64 0, .int .i64 0]) 2 16 Tryd.underlying55 hi hz0 hz1 hz2 rfl (by decide) _ _ _ hs hown ad zs.length d (wtCells zs) hx (wtCells_len zs) ?_ ?_ ?_ ?_ hbase ?_
    · intro j u hj
      obtain ⟨t, ht, hu⟩ := wtCells_at hj
      have hjl : j / 2 < zs.length := (List.getElem?_eq_some_iff.1 ht).1
      obtain ⟨b', off, e, _, hc⟩ := hz.addr (by omega)
      cases e
      obtain ⟨c0, c1⟩ := hc _ t ht
      rw [addr_add]
      rcases Nat.mod_two_eq_zero_or_one j with e | e
      · rw [if_pos e] at hu
        rw [show off + j = off + j / 2 * 2 by omega, c0, hu]
      · rw [if_neg (by omega)] at hu
        rw [show off + j = off + j / 2 * 2 + 1 by omega, c1, hu]
    · intro u hu
      obtain ⟨j, hj, rfl⟩ := List.getElem_of_mem hu
      obtain ⟨t, _, e⟩ := wtCells_at (List.getElem?_eq_getElem hj)
      rw [e]; split <;> rfl
    · unfold maxLen; omega
    · omega
    · intro v' w' h1 h2 _
      exact fin v' w' h1 h2
  | none =>
    have e0 : zs = [] := by
      cases zs with
      | nil => rfl
      | cons z l => obtain ⟨_, _, e, _⟩ := hz.addr (by simp); cases e
    subst e0
    obtain rfl := hd rfl
    refine wpList_append_own_none hgd s x 55 ho base 57 i0 2 Tryd.underlying55 hi _ _ _ hs hown hx ?_
    refine fin _ _ ?_ ⟨rfl, rfl, rfl, Nat.le_refl _, fun _ _ _ => rfl⟩
    have h' : w.ownsRow base 57 2 (.slice a ys.length c) ys.length (wtCells ys) := hown
    simpa [wtCells] using h'
theorem join_nums {ts us : List M.Wt} (m : List Bool) (ha : ts.all M.wOk = true) (hb : us.all M.wOk = true) (hl : ts.length ≤ 100) (hl2 : us.length ≤ 100) :
    ((M.wSum (ts ++ us) : Nat) : Int) = (M.wSum ts : Int) + (M.wSum us : Int) ∧ ((M.wCnt (ts ++ us) : Nat) : Int) = (M.wCnt ts : Int) + (M.wCnt us : Int) ∧ ((M.wVal (ts ++ us) m : Nat) : Int) = (M.wVal ts m : Int) + (M.wVal us m : Int) ∧
    wrap64 ((M.wSum ts : Int) + (M.wSum us : Int)) = (M.wSum ts : Int) + (M.wSum us : Int) ∧ wrap64 ((M.wCnt ts : Int) + (M.wCnt us : Int)) = (M.wCnt ts : Int) + (M.wCnt us : Int) ∧ wrap64 ((M.wVal ts m : Int) + (M.wVal us m : Int)) = (M.wVal ts m : Int) + (M.wVal us m : Int) ∧
    (0 : Int) ≤ (M.wVal ts m : Int) + (M.wVal us m : Int) ∧ (M.wVal ts m : Int) + (M.wVal us m : Int) ≤ (M.wSum ts : Int) + (M.wSum us : Int) := by
  have hs1 := M.sum_le ha
  have hs2 := M.sum_le hb
  have hc1 := M.cnt_le ts
  have hc2 := M.cnt_le us
  have hv1 := M.val_le ts m
  have hv2 := M.val_le us m
  refine ⟨by rw [M.wSum_append]; omega, by rw [M.wCnt_append]; omega, by rw [M.wVal_append]; omega, IntWalk.wrap64_in _ ⟨by omega, by omega⟩, IntWalk.wrap64_in _ ⟨by omega, by omega⟩, IntWalk.wrap64_in _ ⟨by omega, by omega⟩, by omega, by omega⟩
theorem M.all_both (ts us : List M.Wt) : (ts ++ us).all M.wOk = (ts.all M.wOk && us.all M.wOk) := List.all_append
set_option maxHeartbeats 4000000 in
set_option maxRecDepth 100000 in
theorem joinLaw (hal : Alive16) (a : Option Addr) (c : Nat) (ts : List M.Wt) (a2 : Option Addr) (c2 : Nat) (us : List M.Wt) (b : Option Addr) (d : Nat) (m : List Bool) (ad : Addr) (w : World) (hz : Wts w a ts) (hna : a = none → c = 0) (hy : Wts w a2 us) (hna2 : a2 = none → c2 = 0) (hm : Bools w b m)
    (hE : w.cell? ⟨9, 0, none⟩ = some (errAt ad)) :
    Calls Tryd.prog 6 #[.slice a ts.length c, .slice a2 us.length c2, .slice b m.length d] w fun e w' => e = .returned (.bool true) ∧ Below w.heap.size w w' := by
  have hlen := hz.len
  have hlen2 := hy.len
  have hlen3 := hm.len
  have HAL := Lib.hid (hal w)
  have HZ := Lib.hid hz
  have HY := Lib.hid hy
  have HM := Lib.hid hm
  have HE := Lib.hid hE
  have HGL : Hid (9 < w.heap.size) := Lib.hid (World.block_lt_of_cell? w _ hE)
  have hneq := neqErr ad
  have heql := eqlErr ad
  have hneqg := neqErrG ad
  have heqlg := eqlErrG ad
  unfold errAt at hneq heql hneqg heqlg
  have HNA := Lib.hid hna
  have HNA2 := Lib.hid hna2
  clear hal hz hy hm hE hna hna2
  go_enter Tryd.func6, Tryd.ntmps6
  go_wp2_with fail
  with_reducible refine HAL.out.mono ?_
  rintro e w0 ⟨rfl, hb0⟩
  have HB0 := Lib.hid hb0
  clear hb0 HAL
  by_cases hl : ts.length ≤ 100
  · by_cases hl2 : us.length ≤ 100
    · by_cases hl3 : m.length ≤ 200
      · cases hka : ts.all M.wOk
        · have HKA := Lib.hid hka
          cases hkb : us.all M.wOk
          · have HKB := Lib.hid hkb
            clear hka hkb
            have hbl1 := HB0.out.size
            have H1 := Lib.hid (bound_bad a c ts (errAt ad) w0 (HZ.out.below HB0.out) HKA.out (by omega) ((HB0.out.cell (p := ⟨9, 0, none⟩) HGL.out).trans HE.out))
            go_wp2_with fail
            with_reducible refine H1.out.mono ?_
            rintro e w1 ⟨rfl, hb1⟩
            have HB1 := Lib.hid (HB0.out.trans (hb1.mono HB0.out.size))
            have H2 := Lib.hid (bound_bad a2 c2 us (errAt ad) w1 (HY.out.below HB1.out) HKB.out (by omega) ((HB1.out.cell (p := ⟨9, 0, none⟩) HGL.out).trans HE.out))
            clear hb1 H1
            go_wp2_with fail
            with_reducible refine H2.out.mono ?_
            rintro e w2 ⟨rfl, hb2⟩
            have HB2 := Lib.hid (HB1.out.trans (hb2.mono HB1.out.size))
            have HZ2 := Lib.hid (HZ.out.below HB2.out)
            have HY2 := Lib.hid (HY.out.below HB2.out)
            clear hb2 H2
            have HQ : Hid (Below w2.heap.size w2 (w2.alloc (.cells #[] 57))) := Lib.hid ((Below.refl _ _).alloc (Nat.le_refl _) _)
            go_wp2_with (first
              | (at_builtin; refine wpList_append_W rfl (.tmp 45) (.tmp 46) rfl w2.heap.size (some ⟨w2.heap.size, 0, none⟩) 0 0 [] rfl rfl (OwnW.made0 _ _ (Nat.le_refl _)) a _ c ts rfl rfl (HZ2.out.below HQ.out) HNA.out (by omega) HQ.out.size ?_; intro a5 c5 w5 hO5 hb5; rw [List.nil_append] at hO5; have HO5 := Lib.hid hO5; have HB5 := Lib.hid (HQ.out.trans hb5); have HS5 := Lib.hid hb5.size; clear hO5 hb5)
              | (at_builtin; refine wpList_append_W rfl (.tmp 47) (.tmp 48) rfl w2.heap.size a5 _ c5 ts rfl (by simp) HO5.out a2 _ c2 us rfl rfl (HY2.out.below HB5.out) HNA2.out (by omega) HB5.out.size ?_; intro a6 c6 w6 hO6 hb6; have HO6 := Lib.hid hO6; have HB6 := Lib.hid (HB5.out.trans hb6); clear hO6 hb6))
            have hboth : (ts ++ us).all M.wOk = false := by rw [M.all_both, HKA.out, HKB.out]; rfl
            have hbl : (ts ++ us).length = ts.length + us.length := by simp
            have hW6 := HO6.out.wts (fun t ht => by rcases List.mem_append.1 ht with h | h; exact HZ.out.wf t h; exact HY.out.wf t h) (by omega)
            have HB7 := Lib.hid (HB2.out.trans (HB6.out.mono HB2.out.size))
            have h8 := bound_bad a6 c6 (ts ++ us) (errAt ad) w6 hW6 hboth (by omega) ((HB7.out.cell (p := ⟨9, 0, none⟩) HGL.out).trans HE.out)
            rw [hbl] at h8
            have H8 := Lib.hid h8
            clear h8 hW6 hboth
            with_reducible refine H8.out.mono ?_
            rintro e w8 ⟨rfl, hb8⟩
            have HB8 := Lib.hid (HB7.out.trans (hb8.mono HB7.out.size))
            clear hb8 H8
            unfold errAt
            go_wp2
            go_ret
            exact ⟨rfl, HB8.out⟩
          · have HKB := Lib.hid hkb
            clear hka hkb
            have hbl1 := HB0.out.size
            have H1 := Lib.hid (bound_bad a c ts (errAt ad) w0 (HZ.out.below HB0.out) HKA.out (by omega) ((HB0.out.cell (p := ⟨9, 0, none⟩) HGL.out).trans HE.out))
            go_wp2_with fail
            with_reducible refine H1.out.mono ?_
            rintro e w1 ⟨rfl, hb1⟩
            have HB1 := Lib.hid (HB0.out.trans (hb1.mono HB0.out.size))
            have H2 := Lib.hid (bound_ok a2 c2 us w1 (HY.out.below HB1.out) HKB.out (by omega))
            clear hb1 H1
            go_wp2_with fail
            with_reducible refine H2.out.mono ?_
            rintro e w2 ⟨rfl, hb2⟩
            have HB2 := Lib.hid (HB1.out.trans (hb2.mono HB1.out.size))
            have HZ2 := Lib.hid (HZ.out.below HB2.out)
            have HY2 := Lib.hid (HY.out.below HB2.out)
            clear hb2 H2
            have HQ : Hid (Below w2.heap.size w2 (w2.alloc (.cells #[] 57))) := Lib.hid ((Below.refl _ _).alloc (Nat.le_refl _) _)
            go_wp2_with (first
              | (at_builtin; refine wpList_append_W rfl (.tmp 45) (.tmp 46) rfl w2.heap.size (some ⟨w2.heap.size, 0, none⟩) 0 0 [] rfl rfl (OwnW.made0 _ _ (Nat.le_refl _)) a _ c ts rfl rfl (HZ2.out.below HQ.out) HNA.out (by omega) HQ.out.size ?_; intro a5 c5 w5 hO5 hb5; rw [List.nil_append] at hO5; have HO5 := Lib.hid hO5; have HB5 := Lib.hid (HQ.out.trans hb5); have HS5 := Lib.hid hb5.size; clear hO5 hb5)
              | (at_builtin; refine wpList_append_W rfl (.tmp 47) (.tmp 48) rfl w2.heap.size a5 _ c5 ts rfl (by simp) HO5.out a2 _ c2 us rfl rfl (HY2.out.below HB5.out) HNA2.out (by omega) HB5.out.size ?_; intro a6 c6 w6 hO6 hb6; have HO6 := Lib.hid hO6; have HB6 := Lib.hid (HB5.out.trans hb6); clear hO6 hb6))
            have hboth : (ts ++ us).all M.wOk = false := by rw [M.all_both, HKA.out, HKB.out]; rfl
            have hbl : (ts ++ us).length = ts.length + us.length := by simp
            have hW6 := HO6.out.wts (fun t ht => by rcases List.mem_append.1 ht with h | h; exact HZ.out.wf t h; exact HY.out.wf t h) (by omega)
            have HB7 := Lib.hid (HB2.out.trans (HB6.out.mono HB2.out.size))
            have h8 := bound_bad a6 c6 (ts ++ us) (errAt ad) w6 hW6 hboth (by omega) ((HB7.out.cell (p := ⟨9, 0, none⟩) HGL.out).trans HE.out)
            rw [hbl] at h8
            have H8 := Lib.hid h8
            clear h8 hW6 hboth
            with_reducible refine H8.out.mono ?_
            rintro e w8 ⟨rfl, hb8⟩
            have HB8 := Lib.hid (HB7.out.trans (hb8.mono HB7.out.size))
            clear hb8 H8
            unfold errAt
            go_wp2
            go_ret
            exact ⟨rfl, HB8.out⟩
        · have HKA := Lib.hid hka
          cases hkb : us.all M.wOk
          · have HKB := Lib.hid hkb
            clear hka hkb
            have hbl1 := HB0.out.size
            have H1 := Lib.hid (bound_ok a c ts w0 (HZ.out.below HB0.out) HKA.out (by omega))
            go_wp2_with fail
            with_reducible refine H1.out.mono ?_
            rintro e w1 ⟨rfl, hb1⟩
            have HB1 := Lib.hid (HB0.out.trans (hb1.mono HB0.out.size))
            have H2 := Lib.hid (bound_bad a2 c2 us (errAt ad) w1 (HY.out.below HB1.out) HKB.out (by omega) ((HB1.out.cell (p := ⟨9, 0, none⟩) HGL.out).trans HE.out))
            clear hb1 H1
            go_wp2_with fail
            with_reducible refine H2.out.mono ?_
            rintro e w2 ⟨rfl, hb2⟩
            have HB2 := Lib.hid (HB1.out.trans (hb2.mono HB1.out.size))
            have HZ2 := Lib.hid (HZ.out.below HB2.out)
            have HY2 := Lib.hid (HY.out.below HB2.out)
            clear hb2 H2
            have HQ : Hid (Below w2.heap.size w2 (w2.alloc (.cells #[] 57))) := Lib.hid ((Below.refl _ _).alloc (Nat.le_refl _) _)
            go_wp2_with (first
              | (at_builtin; refine wpList_append_W rfl (.tmp 45) (.tmp 46) rfl w2.heap.size (some ⟨w2.heap.size, 0, none⟩) 0 0 [] rfl rfl (OwnW.made0 _ _ (Nat.le_refl _)) a _ c ts rfl rfl (HZ2.out.below HQ.out) HNA.out (by omega) HQ.out.size ?_; intro a5 c5 w5 hO5 hb5; rw [List.nil_append] at hO5; have HO5 := Lib.hid hO5; have HB5 := Lib.hid (HQ.out.trans hb5); have HS5 := Lib.hid hb5.size; clear hO5 hb5)
              | (at_builtin; refine wpList_append_W rfl (.tmp 47) (.tmp 48) rfl w2.heap.size a5 _ c5 ts rfl (by simp) HO5.out a2 _ c2 us rfl rfl (HY2.out.below HB5.out) HNA2.out (by omega) HB5.out.size ?_; intro a6 c6 w6 hO6 hb6; have HO6 := Lib.hid hO6; have HB6 := Lib.hid (HB5.out.trans hb6); clear hO6 hb6))
            have hboth : (ts ++ us).all M.wOk = false := by rw [M.all_both, HKA.out, HKB.out]; rfl
            have hbl : (ts ++ us).length = ts.length + us.length := by simp
            have hW6 := HO6.out.wts (fun t ht => by rcases List.mem_append.1 ht with h | h; exact HZ.out.wf t h; exact HY.out.wf t h) (by omega)
            have HB7 := Lib.hid (HB2.out.trans (HB6.out.mono HB2.out.size))
            have h8 := bound_bad a6 c6 (ts ++ us) (errAt ad) w6 hW6 hboth (by omega) ((HB7.out.cell (p := ⟨9, 0, none⟩) HGL.out).trans HE.out)
            rw [hbl] at h8
            have H8 := Lib.hid h8
            clear h8 hW6 hboth
            with_reducible refine H8.out.mono ?_
            rintro e w8 ⟨rfl, hb8⟩
            have HB8 := Lib.hid (HB7.out.trans (hb8.mono HB7.out.size))
            clear hb8 H8
            unfold errAt
            go_wp2
            go_ret
            exact ⟨rfl, HB8.out⟩
          · have HKB := Lib.hid hkb
            clear hka hkb
            have hbl1 := HB0.out.size
            have H1 := Lib.hid (bound_ok a c ts w0 (HZ.out.below HB0.out) HKA.out (by omega))
            go_wp2_with fail
            with_reducible refine H1.out.mono ?_
            rintro e w1 ⟨rfl, hb1⟩
            have HB1 := Lib.hid (HB0.out.trans (hb1.mono HB0.out.size))
            have H2 := Lib.hid (bound_ok a2 c2 us w1 (HY.out.below HB1.out) HKB.out (by omega))
            clear hb1 H1
            go_wp2_with fail
            with_reducible refine H2.out.mono ?_
            rintro e w2 ⟨rfl, hb2⟩
            have HB2 := Lib.hid (HB1.out.trans (hb2.mono HB1.out.size))
            have HZ2 := Lib.hid (HZ.out.below HB2.out)
            have HY2 := Lib.hid (HY.out.below HB2.out)
            clear hb2 H2
            have HQ : Hid (Below w2.heap.size w2 (w2.alloc (.cells #[] 57))) := Lib.hid ((Below.refl _ _).alloc (Nat.le_refl _) _)
            go_wp2_with (first
              | (at_builtin; refine wpList_append_W rfl (.tmp 45) (.tmp 46) rfl w2.heap.size (some ⟨w2.heap.size, 0, none⟩) 0 0 [] rfl rfl (OwnW.made0 _ _ (Nat.le_refl _)) a _ c ts rfl rfl (HZ2.out.below HQ.out) HNA.out (by omega) HQ.out.size ?_; intro a5 c5 w5 hO5 hb5; rw [List.nil_append] at hO5; have HO5 := Lib.hid hO5; have HB5 := Lib.hid (HQ.out.trans hb5); have HS5 := Lib.hid hb5.size; clear hO5 hb5)
              | (at_builtin; refine wpList_append_W rfl (.tmp 47) (.tmp 48) rfl w2.heap.size a5 _ c5 ts rfl (by simp) HO5.out a2 _ c2 us rfl rfl (HY2.out.below HB5.out) HNA2.out (by omega) HB5.out.size ?_; intro a6 c6 w6 hO6 hb6; have HO6 := Lib.hid hO6; have HB6 := Lib.hid (HB5.out.trans hb6); clear hO6 hb6))
            have hboth : (ts ++ us).all M.wOk = true := by rw [M.all_both, HKA.out, HKB.out]; rfl
            have hbl : (ts ++ us).length = ts.length + us.length := by simp
            have hW6 := HO6.out.wts (fun t ht => by rcases List.mem_append.1 ht with h | h; exact HZ.out.wf t h; exact HY.out.wf t h) (by omega)
            have HB7 := Lib.hid (HB2.out.trans (HB6.out.mono HB2.out.size))
            have h8 := bound_ok a6 c6 (ts ++ us) w6 hW6 hboth (by omega)
            rw [hbl] at h8
            have H8 := Lib.hid h8
            have HW6 := Lib.hid hW6
            have HBO := Lib.hid hboth
            clear h8 hW6 hboth
            with_reducible refine H8.out.mono ?_
            rintro e w8 ⟨rfl, hb8⟩
            have HB8 := Lib.hid (HB7.out.trans (hb8.mono HB7.out.size))
            have h9 := value_any a6 c6 (ts ++ us) b d m w8 (HW6.out.below hb8) (HM.out.below HB8.out) HBO.out (by omega)
            rw [hbl] at h9
            have H9 := Lib.hid h9
            clear hb8 H8 h9
            go_wp2_with fail
            with_reducible refine H9.out.mono ?_
            rintro e w9 ⟨rfl, hb9⟩
            have HB9 := Lib.hid (HB8.out.trans (hb9.mono HB8.out.size))
            have HA := Lib.hid (value_any a c ts b d m w9 (HZ.out.below HB9.out) (HM.out.below HB9.out) HKA.out (by omega))
            obtain ⟨es, ec, ev, ws, wc, wv, h0, h00⟩ := join_nums m HKA.out HKB.out hl hl2
            rw [es, ec, ev]
            clear hb9 H9 es ec ev
            go_wp2_with fail
            with_reducible refine HA.out.mono ?_
            rintro e wA ⟨rfl, hbA⟩
            have HBA := Lib.hid (HB9.out.trans (hbA.mono HB9.out.size))
            have HC := Lib.hid (value_any a2 c2 us b d m wA (HY.out.below HBA.out) (HM.out.below HBA.out) HKB.out (by omega))
            clear hbA HA
            go_wp2_with fail
            with_reducible refine HC.out.mono ?_
            rintro e wC ⟨rfl, hbC⟩
            have HBC := Lib.hid (HBA.out.trans (hbC.mono HBA.out.size))
            clear hbC HC
            go_wp2
            go_ret
            exact ⟨rfl, HBC.out⟩
      · go_wp2
        go_ret
        exact ⟨rfl, HB0.out⟩
    · go_wp2
      go_ret
      exact ⟨rfl, HB0.out⟩
  · go_wp2
    go_ret
    exact ⟨rfl, HB0.out⟩
end Go.Proofs.YtllkeojkejbbeaaDoor
