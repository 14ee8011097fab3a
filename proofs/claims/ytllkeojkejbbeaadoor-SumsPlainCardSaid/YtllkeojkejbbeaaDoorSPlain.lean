/- The walk of haversacklaw16.SumsPlain. -/
import Derived.Test.YtllkeojkejbbeaaDoorSDigLaw
import Derived.Test.YtllkeojkejbbeaaDoorSBits
import Derived.Test.YtllkeojkejbbeaaDoorSPlAll
namespace Go.Proofs.YtllkeojkejbbeaaDoor
open Go.RowKit Go.Shelf

theorem Tryd.infoWt : (Tryd.prog.info? 57).map (fun i => (i.zero, i.size, i.bytes)) = some (some (.agg #[.int .i64 0, .int .i64 0]), 2, 16) := by kernel_rfl
def wtCells (ts : List M.Wt) : List Value := ts.flatMap fun t => [.int .i64 t.1, .int .i64 t.2]
theorem wtCells_len (ts : List M.Wt) : (wtCells ts).length = ts.length * 2 := by
  induction ts with
  | nil => rfl
  | cons t ts ih => simp only [wtCells, List.flatMap_cons, List.length_append, List.length_cons, List.length_nil] at ih ⊢; omega
theorem wtCells_append (a b : List M.Wt) : wtCells (a ++ b) = wtCells a ++ wtCells b := by simp [wtCells]
theorem wtCells_get : ∀ {ts : List M.Wt} {i : Nat} {t : M.Wt}, ts[i]? = some t → (wtCells ts)[i * 2]? = some (.int .i64 t.1) ∧ (wtCells ts)[i * 2 + 1]? = some (.int .i64 t.2)
  | [], i, t, h => by simp at h
  | u :: ts, 0, t, h => by
    simp at h; subst h
    exact ⟨rfl, rfl⟩
  | u :: ts, i + 1, t, h => by
    have ih := wtCells_get (ts := ts) (i := i) (t := t) (by simpa using h)
    have e : (i + 1) * 2 = i * 2 + 2 := by omega
    rw [e]
    exact ih
theorem wtCells_at {ts : List M.Wt} {j : Nat} {u : Value} (h : (wtCells ts)[j]? = some u) : ∃ t, ts[j / 2]? = some t ∧ u = if j % 2 = 0 then .int .i64 t.1 else .int .i64 t.2 := by
  have hj : j < (wtCells ts).length := (List.getElem?_eq_some_iff.1 h).1
  rw [wtCells_len] at hj
  obtain ⟨t, ht⟩ : ∃ t, ts[j / 2]? = some t := ⟨_, List.getElem?_eq_getElem (by omega)⟩
  obtain ⟨h0, h1⟩ := wtCells_get ht
  refine ⟨t, ht, ?_⟩
  rcases Nat.mod_two_eq_zero_or_one j with e | e
  · rw [if_pos e]
    rw [show j / 2 * 2 = j by omega, h] at h0
    exact Option.some.inj h0
  · rw [if_neg (by omega)]
    rw [show j / 2 * 2 + 1 = j by omega, h] at h1
    exact Option.some.inj h1
/-- a slice of weighted literals that the call made -/
def OwnW (w : World) (base : Nat) (a : Option Addr) (c : Nat) (ts : List M.Wt) : Prop :=
  w.ownsRow base 57 2 (.slice a ts.length c) ts.length (wtCells ts)
theorem OwnW.made0 (w : World) (base : Nat) (hb : base ≤ w.heap.size) : OwnW (w.alloc (.cells #[] 57)) base (some ⟨w.heap.size, 0, none⟩) 0 [] :=
  World.ownsRow_made w #[] 0 hb (by decide) rfl
theorem OwnW.wts {w : World} {base : Nat} {a : Option Addr} {c : Nat} {ts : List M.Wt} (h : OwnW w base a c ts) (hw : ∀ t ∈ ts, I64 t.1 ∧ I64 t.2) (hl : ts.length ≤ 1000) : Wts w a ts := by
  refine ⟨fun h0 => ?_, hw, by omega⟩
  rcases h.2 with ⟨_, hn⟩ | ⟨g, cap, cur, e, hb, hg, hn, hm, hs, ht⟩
  · omega
  · injection e with e1
    subst e1
    refine ⟨g, 0, rfl, (Array.getElem?_eq_some_iff.1 hg).1, fun i t hi => ?_⟩
    have hil : i < ts.length := (List.getElem?_eq_some_iff.1 hi).1
    obtain ⟨h1, h2⟩ := wtCells_get hi
    have key : ∀ j u, j < ts.length * 2 → (wtCells ts)[j]? = some u → w.cell? ⟨g, 0 + j, none⟩ = some u := fun j u hj hu => by
      rw [Nat.zero_add, cell_of_cells hg]
      have e1 : (cur.toList.take (ts.length * 2))[j]? = (wtCells ts)[j]? := by rw [ht]
      rw [List.getElem?_take, if_pos hj, hu, Array.getElem?_toList] at e1
      exact e1
    exact ⟨key _ _ (by omega) h1, by rw [Nat.add_assoc]; exact key _ _ (by omega) h2⟩
/-- append(ys, zs...) where the call made ys -/
theorem wpList_append_WG {w : World} {ops : Array Oper} {rest : List Oper} {o : Oper} {act : Act} {Q : Exit → Act → World → Prop} (hgd : o.guard = none) (s x : Operand)
    (ho : o.op = .call { callee := .builtin .append, args := #[s, x], argTypes := #[55, 55] })
    (base : Nat) (a : Option Addr) (n c : Nat) (ys : List M.Wt) (hs : act.eval s = .slice a n c) (hn : ys.length = n) (hown : OwnW w base a c ys)
    (b : Option Addr) (m d : Nat) (zs : List M.Wt) (hx : act.eval x = .slice b m d) (hm : zs.length = m) (hz : Wts w b zs) (hd : b = none → d = 0)
    (hlen : n + m ≤ 1000) (hbase : base ≤ w.heap.size)
    (h : ∀ a' c' w', OwnW w' base a' c' (ys ++ zs) → Below base w w' → w.grownBy w' (Value.slice a n c).ownBlock → wpList Tryd.prog ops Q rest (act.put o.dst (.slice a' (n + m) c')) w') :
    wpList Tryd.prog ops Q (o :: rest) act w := by
  subst hn hm
  obtain ⟨i0, hi, hz0, hz1, hz2⟩ := info_parts Tryd.infoWt
  have hge : ∀ k, (Value.slice a ys.length c).ownBlock = some k → base ≤ k := by
    intro k hk
    rcases hown.2 with ⟨e, _⟩ | ⟨g, cap, cur, e, hb, _⟩
    · rw [e] at hk; simp [Value.ownBlock] at hk
    · rw [e] at hk; simp [Value.ownBlock] at hk; omega
  have fin : ∀ v' w', w'.ownsRow base 57 2 v' (ys.length + zs.length) (wtCells ys ++ wtCells zs) → w.grownBy w' (Value.slice a ys.length c).ownBlock → wpList Tryd.prog ops Q rest (act.put o.dst v') w' := by
    intro v' w' h1 h2
    have hbel : Below base w w' := (Below.refl base w).grown h2 hbase hge
    rw [← wtCells_append, ← List.length_append] at h1
    have : ∃ a' c', v' = .slice a' (ys ++ zs).length c' := by
      rcases h1.2 with ⟨e, hn⟩ | ⟨g, cap, cur, e, _⟩
      · exact ⟨none, 0, by rw [e, hn]⟩
      · exact ⟨_, _, e⟩
    obtain ⟨a', c', rfl⟩ := this
    rw [show (ys ++ zs).length = ys.length + zs.length from List.length_append]
    exact h a' c' w' h1 hbel h2
  cases b with
  | some ad =>
    refine wpList_append_own w hgd s x 55 ho base 57 i0 (.agg #[.int .i64 0, .int .i64 0]) 2 16 Tryd.underlying55 hi hz0 hz1 hz2 rfl (by decide) _ _ _ hs hown ad zs.length d (wtCells zs) hx (wtCells_len zs) ?_ ?_ ?_ ?_ hbase ?_
    · intro j u hj
      obtain ⟨t, ht, hu⟩ := wtCells_at hj
      have hjl : j / 2 < zs.length := (List.getElem?_eq_some_iff.1 ht).1
      obtain ⟨b', off, e, _, hc⟩ := hz.addr (by omega)
      cases e
      obtain ⟨c0, c1⟩ := hc _ t ht
      rw [addr_add]
      rcases Nat.mod_two_eq_zero_or_one j with e | e
      · rw [if_pos e] at hu
        rw [show off + j = off + j / 2 * 2 by omega, c0, hu]
      · rw [if_neg (by omega)] at hu
        rw [show off + j = off + j / 2 * 2 + 1 by omega, c1, hu]
    · intro u hu
      obtain ⟨j, hj, rfl⟩ := List.getElem_of_mem hu
      obtain ⟨t, _, e⟩ := wtCells_at (List.getElem?_eq_getElem hj)
      rw [e]; split <;> rfl
    · unfold maxLen; omega
    · omega
    · intro v' w' h1 h2 _
      exact fin v' w' h1 h2
  | none =>
    have e0 : zs = [] := by
      cases zs with
      | nil => rfl
      | cons z l => obtain ⟨_, _, e, _⟩ := hz.addr (by simp); cases e
    subst e0
    obtain rfl := hd rfl
    refine wpList_append_own_none hgd s x 55 ho base 57 i0 2 Tryd.underlying55 hi _ _ _ hs hown hx ?_
    refine fin _ _ ?_ ⟨rfl, rfl, rfl, Nat.le_refl _, fun _ _ _ => rfl⟩
    have h' : w.ownsRow base 57 2 (.slice a ys.length c) ys.length (wtCells ys) := hown
    simpa [wtCells] using h'
theorem OwnW.keptG {w w' : World} {base : Nat} {a : Option Addr} {c : Nat} {ts : List M.Wt} (h : OwnW w base a c ts) (hk : ∀ (g : Nat) (cur : Array Value), w.heap[g]? = some (.cells cur 57 (0, 0)) → w'.heap[g]? = w.heap[g]?) : OwnW w' base a c ts := by
  refine ⟨h.1, ?_⟩
  rcases h.2 with h0 | ⟨g, cap, cur, e, hb, hg, r⟩
  · exact .inl h0
  · exact .inr ⟨g, cap, cur, e, hb, (hk g cur hg).trans hg, r⟩
theorem OwnW.allocG {w : World} {base : Nat} {a : Option Addr} {c : Nat} {ts : List M.Wt} (h : OwnW w base a c ts) (o : Obj) : OwnW (w.alloc o) base a c ts :=
  h.keptG fun g _ hg => Below.heap_alloc _ _ g (Array.getElem?_eq_some_iff.1 hg).1
theorem OwnW.cap {w : World} {base : Nat} {a : Option Addr} {c : Nat} {ts : List M.Wt} (h : OwnW w base a c ts) : ts.length ≤ c ∧ (a = none → c = 0) := by
  rcases h.2 with ⟨e, hn⟩ | ⟨g, cap, cur, e, hb, hg, hn, _⟩
  · injection e with e1 e2 e3; exact ⟨by omega, fun _ => e3⟩
  · injection e with e1 e2 e3; subst e1 e3; exact ⟨hn, fun h => by cases h⟩
theorem OwnW.tag {w : World} {base : Nat} {a : Option Addr} {c : Nat} {ts : List M.Wt} (h : OwnW w base a c ts) : ∀ ad, a = some ad → ∃ cur, w.heap[ad.block]? = some (.cells cur 57 (0, 0)) := by
  intro ad e
  rcases h.2 with ⟨e2, hn⟩ | ⟨g, cap, cur, e2, hb, hg, _⟩
  · injection e2 with e1; rw [e1] at e; cases e
  · injection e2 with e1; rw [e1] at e; cases e; exact ⟨cur, hg⟩
theorem OwnW.other {w w' : World} {base n : Nat} {a : Option Addr} {c : Nat} {ts : List M.Wt} (h : OwnW w base a c ts) (hg : w.grownBy w' (Value.slice a n c).ownBlock) (g : Nat) (cur : Array Value) (e : TypeId) (m : Nat × Nat) (hc : w.heap[g]? = some (.cells cur e m)) (he : e ≠ 57) : w'.heap[g]? = w.heap[g]? := by
  refine hg.block g (Array.getElem?_eq_some_iff.1 hc).1 fun e1 => ?_
  cases a with
  | none => simp [Value.ownBlock] at e1
  | some ad =>
    simp [Value.ownBlock] at e1
    obtain ⟨cur', hcc⟩ := h.tag ad rfl
    rw [← e1, hc] at hcc; cases hcc; exact he rfl
theorem OwnI.other {w w' : World} {base n : Nat} {a : Option Addr} {c : Nat} {ys : List Int} (h : OwnI w base a c ys) (hg : w.grownBy w' (Value.slice a n c).ownBlock) (g : Nat) (cur : Array Value) (e : TypeId) (m : Nat × Nat) (hc : w.heap[g]? = some (.cells cur e m)) (he : e ≠ 3) : w'.heap[g]? = w.heap[g]? := by
  refine hg.block g (Array.getElem?_eq_some_iff.1 hc).1 fun e1 => ?_
  cases a with
  | none => simp [Value.ownBlock] at e1
  | some ad =>
    simp [Value.ownBlock] at e1
    obtain ⟨cur', m', hcc⟩ := h.tag ad rfl
    rw [← e1, hc] at hcc; cases hcc; exact he rfl
theorem Wts.one1 (w : World) (l v : Int) (h1 : I64 l) (h2 : I64 v) (e : TypeId) : Wts (w.alloc (.cells #[.int .i64 l, .int .i64 v] e)) (some ⟨w.heap.size, 0, none⟩) [(l, v)] := by
  refine ⟨fun _ => ⟨_, 0, rfl, by simp, fun i t ht => ?_⟩, fun t ht => ?_, by simp⟩
  · match i, ht with
    | 0, ht => simp at ht; subst ht; simp
  · simp at ht; subst ht; exact ⟨h1, h2⟩
/-- in the first loop -/
structure PL (B : Nat) (W2 : World) (ss m : List Bool) (k : Nat) (af : Option Addr) (cf : Nat) (at' : Option Addr) (ct : Nat) (w : World) : Prop where
  below : Below B W2 w
  frm : OwnI w B af cf ((M.frm (M.plM ss m)).take k)
  trm : OwnW w B at' ct ((M.plT ss).take k)
theorem PL.alloc {B : Nat} {W2 : World} {ss m : List Bool} {k : Nat} {af : Option Addr} {cf : Nat} {at' : Option Addr} {ct : Nat} {w : World} (h : PL B W2 ss m k af cf at' ct w) (hB : B ≤ W2.heap.size) (o : Obj) : PL B W2 ss m k af cf at' ct (w.alloc o) :=
  ⟨h.below.alloc (Nat.le_trans hB h.below.size) o, h.frm.alloc o, h.trm.allocG o⟩
set_option maxHeartbeats 4000000 in
set_option maxRecDepth 100000 in
theorem plainLaw (hal : Alive16) (a : Option Addr) (c : Nat) (ss : List Bool) (b : Option Addr) (d : Nat) (m : List Bool) (w : World) (hs : Bools w a ss) (hm : Bools w b m) :
    Calls Tryd.prog 4 #[.slice a ss.length c, .slice b m.length d] w fun e w' => e = .returned (.bool true) ∧ Below w.heap.size w w' := by
  have hlen := hs.len
  have hlen2 := hm.len
  have HAL := Lib.hid (hal w)
  have HS := Lib.hid hs
  have HM := Lib.hid hm
  clear hal hs hm
  go_enter Tryd.func4, Tryd.ntmps4
  go_wp2_with fail
  refine HAL.out.mono ?_
  rintro e W0 ⟨rfl, hb0⟩
  have HB0 := Lib.hid hb0
  clear hb0 HAL
  by_cases hn1 : 1 ≤ ss.length
  · by_cases hn30 : ss.length ≤ 30
    · by_cases hm40 : m.length ≤ 40
      · go_wp2_with fail
        refine (new_any _).mono ?_
        rintro e W1 ⟨rfl, hW1⟩
        have hF1 : Fm NoX W1 w.heap.size W0.heap.size 0 [] none 0 := by rw [← hW1]; exact Fm.new W0 _ HB0.out.size (NoX.lt _)
        have hb1 : Below w.heap.size w W1 := by rw [← hW1]; exact HB0.out.alloc HB0.out.size _
        have hm := many_ok w.heap.size W0.heap.size 0 ss.length [] none 0 W1 hF1 hn1 (by omega) hb1.size
        have HB1 := Lib.hid hb1
        have HMM := Lib.hid hm
        clear hW1 hF1 hb1 hm
        go_wp2_with fail
        refine HMM.out.mono ?_
        rintro e W2 ⟨rfl, hF2, hO2, hA2⟩
        rw [Nat.zero_add] at hF2
        have hge : w.heap.size ≤ W0.heap.size := HB0.out.size
        have hb2 : Below w.heap.size w W2 := HB1.out.trans ⟨hA2.os, hA2.tape, hA2.output, hA2.size, fun k hk => hA2.block k (by have := HB1.out.size; omega) (by omega)⟩
        have HB2 := Lib.hid hb2
        have HF2 := Lib.hid hF2
        have HIO := Lib.hid (hO2.ints (fun z hz => by
          simp only [M.iota, List.mem_map, List.mem_range] at hz
          obtain ⟨i, hi, rfl⟩ := hz
          exact ⟨by omega, by omega⟩) (by rw [M.iota_length]; omega))
        clear hF2 hO2 hA2 hb2 HMM HB1 HB0
        go_wp2
        go_loopw [8, 9, 10, 49] (fun vt vw vf i wr => ∃ (k : Nat) (af : Option Addr) (cf : Nat) (at' : Option Addr) (ct : Nat), k ≤ ss.length ∧ i = .int .i64 k ∧ vt = .slice at' (((M.plT ss).take k).length) ct ∧ vf = .slice af (((M.frm (M.plM ss m)).take k).length) cf ∧ vw = .int .i64 (M.wVal ((M.plT ss).take k) (M.plM ss m)) ∧ PL W2.heap.size W2 ss m k af cf at' ct wr) (fun _ _ _ i _ => ss.length - (intOf i).toNat)
        case atStart =>
          refine ⟨0, _, 0, _, 0, Nat.zero_le _, rfl, rfl, rfl, rfl, ((Below.refl _ _).alloc (Nat.le_refl _) _).alloc (by simp) _, ?_, ?_⟩
          · have h := OwnI.made0 (W2.alloc (.cells #[] 57)) W2.heap.size (by simp)
            rw [World.size_alloc] at h
            exact h
          · exact (OwnW.made0 W2 _ (Nat.le_refl _)).allocG _
        case round =>
          obtain ⟨k, af, cf, at', ct, hk, rfl, rfl, rfl, rfl, hP⟩ := hrel
          have HP := Lib.hid hP
          clear hP
          obtain ⟨lt, hlt'⟩ : ∃ lt, lt = ((M.plT ss).take k).length := ⟨_, rfl⟩
          obtain ⟨lf, hlf'⟩ : ∃ lf, lf = ((M.frm (M.plM ss m)).take k).length := ⟨_, rfl⟩
          have hltk : lt = k := by rw [hlt', List.length_take, M.plT_length]; omega
          have hlfk : lf = k := by rw [hlf', List.length_take, M.frm_length]; omega
          have HLT : Hid (((M.plT ss).take k).length = k) := Lib.hid (hlt'.symm.trans hltk)
          have HLF : Hid (((M.frm (M.plM ss m)).take k).length = k) := Lib.hid (hlf'.symm.trans hlfk)
          rw [HLT.out, HLF.out]
          clear hlt' hlf' hltk hlfk
          clear lt lf
          by_cases hlt : k < ss.length
          · obtain ⟨gi, oi, ei, hgi, hci⟩ := (HIO.out.below (show Below W2.heap.size W2 wr from HP.out.below)).addr (by rw [M.iota_length]; omega)
            cases ei
            have hv0 := hci k ((0 : Int) + 1 + k) (by simp [M.iota, hlt])
            obtain ⟨v, hv⟩ : ∃ v : Int, v = (k : Int) + 1 := ⟨_, rfl⟩
            rw [show ((0 : Int) + 1 + k) = v by omega, Nat.zero_add] at hv0
            have hvb1 : -100 ≤ v := by omega
            have hvb2 : v ≤ 100 := by omega
            have HVV := Lib.hid hv
            have hw1 : wrap64 (-v) = -v := IntWalk.wrap64_in _ ⟨by omega, by omega⟩
            have hw2 : IntKind.i64.wrap (-v) = -v := by rw [IntKind.wrap_i64]; omega
            clear hv hci
            obtain ⟨ba, oa, rfl, hba, hca⟩ := (HS.out.below (HB2.out.trans (HP.out.below.mono HB2.out.size))).addr (by omega)
            obtain ⟨s, hsk⟩ : ∃ s, ss[k]? = some s := ⟨ss[k], by simp [hlt]⟩
            have hcs := hca k s hsk
            have HSG := Lib.hid hsk
            clear hca hsk
            have hwv : M.wVal ((M.plT ss).take k) (M.plM ss m) ≤ 31457280 := by
              have h1 := M.val_le ((M.plT ss).take k) (M.plM ss m)
              have h2 := M.sum_le (M.all_take k (M.plT_ok ss))
              rw [HLT.out] at h2
              omega
            obtain ⟨wp, hwp⟩ : ∃ wp, wp = wr := ⟨_, rfl⟩
            subst hwp
            by_cases hkm : k < m.length
            · obtain ⟨bm, om, rfl, hbm, hcm⟩ := (HM.out.below (HB2.out.trans (HP.out.below.mono HB2.out.size))).addr (by omega)
              obtain ⟨y, hyk⟩ : ∃ y, m[k]? = some y := ⟨m[k], by simp [hkm]⟩
              have hcy := hcm k y hyk
              have HYS : Hid (m[k]?.getD false = y) := Lib.hid (by rw [hyk]; rfl)
              have hkmi : (k : Int) < (m.length : Int) := by omega
              clear hcm hyk
              cases y
              · cases s
                · have hfr := M.frm_snoc (ss := ss) (m := m) hlt
                  have htr := M.plT_snoc (ss := ss) hlt
                  have hvl := M.plT_val (m := m) hlt hn30 HSG.out
                  rw [M.lit1_pl hlt, HYS.out, if_neg (by simp), ← HVV.out] at hfr
                  have hsg : M.sg1 ss k = v := by unfold M.sg1; rw [HSG.out, HVV.out]; rfl
                  rw [hsg] at htr
                  rw [HYS.out] at hvl
                  have HFR := Lib.hid hfr
                  have HTR := Lib.hid htr
                  have HVL := Lib.hid hvl
                  clear hfr htr hvl hsg
                  go_wp2_with (first
                    | (at_builtin; refine wpList_append_Ints rfl (.tmp 69) (.tmp 72) 30 rfl Tryd.underlying30 W2.heap.size af _ cf _ rfl HLF.out (HP.out.alloc (Nat.le_refl _) _).frm _ 1 1 [(-v)] rfl rfl (Ints.one wp (-v) ⟨by omega, by omega⟩ _) (fun h => by cases h) (by omega) (by have := HP.out.below.size; simp; omega) ?_; intro a5 c5 w5 hO5 hg5 hB5; have hT5 := ((HP.out.alloc (Nat.le_refl _) (.cells #[.int .i64 (-v)] 3)).trm).keptG (fun g cur hg => ((HP.out.alloc (Nat.le_refl _) (.cells #[.int .i64 (-v)] 3)).frm).other hg5 g cur _ _ hg (by decide)); have hP5 : PL W2.heap.size W2 ss m k af cf at' ct (wp.alloc (.cells #[.int .i64 (-v)] 3)) := HP.out.alloc (Nat.le_refl _) _; have HBW5 := Lib.hid (hP5.below.trans hB5); have HO5 := Lib.hid hO5; have HT5 := Lib.hid hT5; clear hO5 hg5 hB5 hT5 hP5; obtain ⟨ba5, oa5, ea5, _, hca5⟩ := (HS.out.below (HB2.out.trans (HBW5.out.mono HB2.out.size))).addr (by omega); cases ea5; have hcs5 := hca5 k _ HSG.out; clear hca5)
                    | (at_builtin; refine wpList_append_WG rfl (.tmp 88) (.tmp 91) rfl W2.heap.size at' _ ct _ rfl HLT.out (HT5.out.allocG _) (some ⟨w5.heap.size, 0, none⟩) 1 1 [(v, 1)] rfl rfl (Wts.one1 w5 v 1 ⟨by omega, by omega⟩ ⟨by omega, by omega⟩ _) (fun h => by cases h) (by omega) (by have := HBW5.out.size; simp; omega) ?_; intro a6 c6 w6 hO6 hB6 hg6; have hF6 := (OwnI.alloc HO5.out (.cells #[.int .i64 v, .int .i64 1] 57)).kept (fun g cur _ hg => (HT5.out.allocG (.cells #[.int .i64 v, .int .i64 1] 57)).other hg6 g cur _ _ hg (by decide)); have HB6 := Lib.hid ((HBW5.out.alloc HBW5.out.size (.cells #[.int .i64 v, .int .i64 1] 57)).trans hB6); have HO6 := Lib.hid hO6; have HF6 := Lib.hid hF6; clear hO6 hB6 hg6 hF6))
                  go_roundw
                  case rel =>
                    refine ⟨k + 1, a5, c5, a6, c6, by omega, by go_num, ?_, ?_, ?_, ⟨HB6.out, by rw [HFR.out]; exact HF6.out, by rw [HTR.out]; exact HO6.out⟩⟩
                    · rw [List.length_take, M.plT_length, Nat.min_eq_left (by omega)]
                    · rw [List.length_take, M.frm_length, Nat.min_eq_left (by omega)]
                    · rw [HVL.out]; first | rfl | (simp; done) | go_num
                  case measure => first | (simp [intOf]; done) | (simp [intOf]; omega)
                · have hfr := M.frm_snoc (ss := ss) (m := m) hlt
                  have htr := M.plT_snoc (ss := ss) hlt
                  have hvl := M.plT_val (m := m) hlt hn30 HSG.out
                  rw [M.lit1_pl hlt, HYS.out, if_neg (by simp), ← HVV.out] at hfr
                  have hsg : M.sg1 ss k = (-v) := by unfold M.sg1; rw [HSG.out, HVV.out]; rfl
                  rw [hsg] at htr
                  rw [HYS.out] at hvl
                  have HFR := Lib.hid hfr
                  have HTR := Lib.hid htr
                  have HVL := Lib.hid hvl
                  clear hfr htr hvl hsg
                  go_wp2_with (first
                    | (at_builtin; refine wpList_append_Ints rfl (.tmp 69) (.tmp 72) 30 rfl Tryd.underlying30 W2.heap.size af _ cf _ rfl HLF.out (HP.out.alloc (Nat.le_refl _) _).frm _ 1 1 [(-v)] rfl rfl (Ints.one wp (-v) ⟨by omega, by omega⟩ _) (fun h => by cases h) (by omega) (by have := HP.out.below.size; simp; omega) ?_; intro a5 c5 w5 hO5 hg5 hB5; have hT5 := ((HP.out.alloc (Nat.le_refl _) (.cells #[.int .i64 (-v)] 3)).trm).keptG (fun g cur hg => ((HP.out.alloc (Nat.le_refl _) (.cells #[.int .i64 (-v)] 3)).frm).other hg5 g cur _ _ hg (by decide)); have hP5 : PL W2.heap.size W2 ss m k af cf at' ct (wp.alloc (.cells #[.int .i64 (-v)] 3)) := HP.out.alloc (Nat.le_refl _) _; have HBW5 := Lib.hid (hP5.below.trans hB5); have HO5 := Lib.hid hO5; have HT5 := Lib.hid hT5; clear hO5 hg5 hB5 hT5 hP5; obtain ⟨ba5, oa5, ea5, _, hca5⟩ := (HS.out.below (HB2.out.trans (HBW5.out.mono HB2.out.size))).addr (by omega); cases ea5; have hcs5 := hca5 k _ HSG.out; clear hca5)
                    | (at_builtin; refine wpList_append_WG rfl (.tmp 88) (.tmp 91) rfl W2.heap.size at' _ ct _ rfl HLT.out (HT5.out.allocG _) (some ⟨w5.heap.size, 0, none⟩) 1 1 [((-v), 1)] rfl rfl (Wts.one1 w5 (-v) 1 ⟨by omega, by omega⟩ ⟨by omega, by omega⟩ _) (fun h => by cases h) (by omega) (by have := HBW5.out.size; simp; omega) ?_; intro a6 c6 w6 hO6 hB6 hg6; have hF6 := (OwnI.alloc HO5.out (.cells #[.int .i64 (-v), .int .i64 1] 57)).kept (fun g cur _ hg => (HT5.out.allocG (.cells #[.int .i64 (-v), .int .i64 1] 57)).other hg6 g cur _ _ hg (by decide)); have HB6 := Lib.hid ((HBW5.out.alloc HBW5.out.size (.cells #[.int .i64 (-v), .int .i64 1] 57)).trans hB6); have HO6 := Lib.hid hO6; have HF6 := Lib.hid hF6; clear hO6 hB6 hg6 hF6))
                  go_roundw
                  case rel =>
                    refine ⟨k + 1, a5, c5, a6, c6, by omega, by go_num, ?_, ?_, ?_, ⟨HB6.out, by rw [HFR.out]; exact HF6.out, by rw [HTR.out]; exact HO6.out⟩⟩
                    · rw [List.length_take, M.plT_length, Nat.min_eq_left (by omega)]
                    · rw [List.length_take, M.frm_length, Nat.min_eq_left (by omega)]
                    · rw [HVL.out]; first | rfl | (simp; done) | go_num
                  case measure => first | (simp [intOf]; done) | (simp [intOf]; omega)
              · cases s
                · have hfr := M.frm_snoc (ss := ss) (m := m) hlt
                  have htr := M.plT_snoc (ss := ss) hlt
                  have hvl := M.plT_val (m := m) hlt hn30 HSG.out
                  rw [M.lit1_pl hlt, HYS.out, if_pos rfl, ← HVV.out] at hfr
                  have hsg : M.sg1 ss k = v := by unfold M.sg1; rw [HSG.out, HVV.out]; rfl
                  rw [hsg] at htr
                  rw [HYS.out] at hvl
                  have HFR := Lib.hid hfr
                  have HTR := Lib.hid htr
                  have HVL := Lib.hid hvl
                  clear hfr htr hvl hsg
                  go_wp2_with (first
                    | (at_builtin; refine wpList_append_Ints rfl (.tmp 65) (.tmp 67) 30 rfl Tryd.underlying30 W2.heap.size af _ cf _ rfl HLF.out (HP.out.alloc (Nat.le_refl _) _).frm _ 1 1 [v] rfl rfl (Ints.one wp v ⟨by omega, by omega⟩ _) (fun h => by cases h) (by omega) (by have := HP.out.below.size; simp; omega) ?_; intro a5 c5 w5 hO5 hg5 hB5; have hT5 := ((HP.out.alloc (Nat.le_refl _) (.cells #[.int .i64 v] 3)).trm).keptG (fun g cur hg => ((HP.out.alloc (Nat.le_refl _) (.cells #[.int .i64 v] 3)).frm).other hg5 g cur _ _ hg (by decide)); have hP5 : PL W2.heap.size W2 ss m k af cf at' ct (wp.alloc (.cells #[.int .i64 v] 3)) := HP.out.alloc (Nat.le_refl _) _; have HBW5 := Lib.hid (hP5.below.trans hB5); have HO5 := Lib.hid hO5; have HT5 := Lib.hid hT5; clear hO5 hg5 hB5 hT5 hP5; obtain ⟨ba5, oa5, ea5, _, hca5⟩ := (HS.out.below (HB2.out.trans (HBW5.out.mono HB2.out.size))).addr (by omega); cases ea5; have hcs5 := hca5 k _ HSG.out; clear hca5)
                    | (at_builtin; refine wpList_append_WG rfl (.tmp 88) (.tmp 91) rfl W2.heap.size at' _ ct _ rfl HLT.out (HT5.out.allocG _) (some ⟨w5.heap.size, 0, none⟩) 1 1 [(v, 1)] rfl rfl (Wts.one1 w5 v 1 ⟨by omega, by omega⟩ ⟨by omega, by omega⟩ _) (fun h => by cases h) (by omega) (by have := HBW5.out.size; simp; omega) ?_; intro a6 c6 w6 hO6 hB6 hg6; have hF6 := (OwnI.alloc HO5.out (.cells #[.int .i64 v, .int .i64 1] 57)).kept (fun g cur _ hg => (HT5.out.allocG (.cells #[.int .i64 v, .int .i64 1] 57)).other hg6 g cur _ _ hg (by decide)); have HB6 := Lib.hid ((HBW5.out.alloc HBW5.out.size (.cells #[.int .i64 v, .int .i64 1] 57)).trans hB6); have HO6 := Lib.hid hO6; have HF6 := Lib.hid hF6; clear hO6 hB6 hg6 hF6))
                  go_roundw
                  case rel =>
                    refine ⟨k + 1, a5, c5, a6, c6, by omega, by go_num, ?_, ?_, ?_, ⟨HB6.out, by rw [HFR.out]; exact HF6.out, by rw [HTR.out]; exact HO6.out⟩⟩
                    · rw [List.length_take, M.plT_length, Nat.min_eq_left (by omega)]
                    · rw [List.length_take, M.frm_length, Nat.min_eq_left (by omega)]
                    · rw [HVL.out]; first | rfl | (simp; done) | go_num
                  case measure => first | (simp [intOf]; done) | (simp [intOf]; omega)
                · have hfr := M.frm_snoc (ss := ss) (m := m) hlt
                  have htr := M.plT_snoc (ss := ss) hlt
                  have hvl := M.plT_val (m := m) hlt hn30 HSG.out
                  rw [M.lit1_pl hlt, HYS.out, if_pos rfl, ← HVV.out] at hfr
                  have hsg : M.sg1 ss k = (-v) := by unfold M.sg1; rw [HSG.out, HVV.out]; rfl
                  rw [hsg] at htr
                  rw [HYS.out] at hvl
                  have HFR := Lib.hid hfr
                  have HTR := Lib.hid htr
                  have HVL := Lib.hid hvl
                  clear hfr htr hvl hsg
                  go_wp2_with (first
                    | (at_builtin; refine wpList_append_Ints rfl (.tmp 65) (.tmp 67) 30 rfl Tryd.underlying30 W2.heap.size af _ cf _ rfl HLF.out (HP.out.alloc (Nat.le_refl _) _).frm _ 1 1 [v] rfl rfl (Ints.one wp v ⟨by omega, by omega⟩ _) (fun h => by cases h) (by omega) (by have := HP.out.below.size; simp; omega) ?_; intro a5 c5 w5 hO5 hg5 hB5; have hT5 := ((HP.out.alloc (Nat.le_refl _) (.cells #[.int .i64 v] 3)).trm).keptG (fun g cur hg => ((HP.out.alloc (Nat.le_refl _) (.cells #[.int .i64 v] 3)).frm).other hg5 g cur _ _ hg (by decide)); have hP5 : PL W2.heap.size W2 ss m k af cf at' ct (wp.alloc (.cells #[.int .i64 v] 3)) := HP.out.alloc (Nat.le_refl _) _; have HBW5 := Lib.hid (hP5.below.trans hB5); have HO5 := Lib.hid hO5; have HT5 := Lib.hid hT5; clear hO5 hg5 hB5 hT5 hP5; obtain ⟨ba5, oa5, ea5, _, hca5⟩ := (HS.out.below (HB2.out.trans (HBW5.out.mono HB2.out.size))).addr (by omega); cases ea5; have hcs5 := hca5 k _ HSG.out; clear hca5)
                    | (at_builtin; refine wpList_append_WG rfl (.tmp 88) (.tmp 91) rfl W2.heap.size at' _ ct _ rfl HLT.out (HT5.out.allocG _) (some ⟨w5.heap.size, 0, none⟩) 1 1 [((-v), 1)] rfl rfl (Wts.one1 w5 (-v) 1 ⟨by omega, by omega⟩ ⟨by omega, by omega⟩ _) (fun h => by cases h) (by omega) (by have := HBW5.out.size; simp; omega) ?_; intro a6 c6 w6 hO6 hB6 hg6; have hF6 := (OwnI.alloc HO5.out (.cells #[.int .i64 (-v), .int .i64 1] 57)).kept (fun g cur _ hg => (HT5.out.allocG (.cells #[.int .i64 (-v), .int .i64 1] 57)).other hg6 g cur _ _ hg (by decide)); have HB6 := Lib.hid ((HBW5.out.alloc HBW5.out.size (.cells #[.int .i64 (-v), .int .i64 1] 57)).trans hB6); have HO6 := Lib.hid hO6; have HF6 := Lib.hid hF6; clear hO6 hB6 hg6 hF6))
                  go_roundw
                  case rel =>
                    refine ⟨k + 1, a5, c5, a6, c6, by omega, by go_num, ?_, ?_, ?_, ⟨HB6.out, by rw [HFR.out]; exact HF6.out, by rw [HTR.out]; exact HO6.out⟩⟩
                    · rw [List.length_take, M.plT_length, Nat.min_eq_left (by omega)]
                    · rw [List.length_take, M.frm_length, Nat.min_eq_left (by omega)]
                    · rw [HVL.out]; first | rfl | (simp; done) | go_num
                  case measure => first | (simp [intOf]; done) | (simp [intOf]; omega)
            · have HYS : Hid (m[k]?.getD false = false) := Lib.hid (by rw [List.getElem?_eq_none (by omega)]; rfl)
              have hkmi : ¬ (k : Int) < (m.length : Int) := by omega
              cases s
              · have hfr := M.frm_snoc (ss := ss) (m := m) hlt
                have htr := M.plT_snoc (ss := ss) hlt
                have hvl := M.plT_val (m := m) hlt hn30 HSG.out
                rw [M.lit1_pl hlt, HYS.out, if_neg (by simp), ← HVV.out] at hfr
                have hsg : M.sg1 ss k = v := by unfold M.sg1; rw [HSG.out, HVV.out]; rfl
                rw [hsg] at htr
                rw [HYS.out] at hvl
                have HFR := Lib.hid hfr
                have HTR := Lib.hid htr
                have HVL := Lib.hid hvl
                clear hfr htr hvl hsg
                go_wp2_with (first
                  | (at_builtin; refine wpList_append_Ints rfl (.tmp 69) (.tmp 72) 30 rfl Tryd.underlying30 W2.heap.size af _ cf _ rfl HLF.out (HP.out.alloc (Nat.le_refl _) _).frm _ 1 1 [(-v)] rfl rfl (Ints.one wp (-v) ⟨by omega, by omega⟩ _) (fun h => by cases h) (by omega) (by have := HP.out.below.size; simp; omega) ?_; intro a5 c5 w5 hO5 hg5 hB5; have hT5 := ((HP.out.alloc (Nat.le_refl _) (.cells #[.int .i64 (-v)] 3)).trm).keptG (fun g cur hg => ((HP.out.alloc (Nat.le_refl _) (.cells #[.int .i64 (-v)] 3)).frm).other hg5 g cur _ _ hg (by decide)); have hP5 : PL W2.heap.size W2 ss m k af cf at' ct (wp.alloc (.cells #[.int .i64 (-v)] 3)) := HP.out.alloc (Nat.le_refl _) _; have HBW5 := Lib.hid (hP5.below.trans hB5); have HO5 := Lib.hid hO5; have HT5 := Lib.hid hT5; clear hO5 hg5 hB5 hT5 hP5; obtain ⟨ba5, oa5, ea5, _, hca5⟩ := (HS.out.below (HB2.out.trans (HBW5.out.mono HB2.out.size))).addr (by omega); cases ea5; have hcs5 := hca5 k _ HSG.out; clear hca5)
                  | (at_builtin; refine wpList_append_WG rfl (.tmp 88) (.tmp 91) rfl W2.heap.size at' _ ct _ rfl HLT.out (HT5.out.allocG _) (some ⟨w5.heap.size, 0, none⟩) 1 1 [(v, 1)] rfl rfl (Wts.one1 w5 v 1 ⟨by omega, by omega⟩ ⟨by omega, by omega⟩ _) (fun h => by cases h) (by omega) (by have := HBW5.out.size; simp; omega) ?_; intro a6 c6 w6 hO6 hB6 hg6; have hF6 := (OwnI.alloc HO5.out (.cells #[.int .i64 v, .int .i64 1] 57)).kept (fun g cur _ hg => (HT5.out.allocG (.cells #[.int .i64 v, .int .i64 1] 57)).other hg6 g cur _ _ hg (by decide)); have HB6 := Lib.hid ((HBW5.out.alloc HBW5.out.size (.cells #[.int .i64 v, .int .i64 1] 57)).trans hB6); have HO6 := Lib.hid hO6; have HF6 := Lib.hid hF6; clear hO6 hB6 hg6 hF6))
                go_roundw
                case rel =>
                  refine ⟨k + 1, a5, c5, a6, c6, by omega, by go_num, ?_, ?_, ?_, ⟨HB6.out, by rw [HFR.out]; exact HF6.out, by rw [HTR.out]; exact HO6.out⟩⟩
                  · rw [List.length_take, M.plT_length, Nat.min_eq_left (by omega)]
                  · rw [List.length_take, M.frm_length, Nat.min_eq_left (by omega)]
                  · rw [HVL.out]; first | rfl | (simp; done) | go_num
                case measure => first | (simp [intOf]; done) | (simp [intOf]; omega)
              · have hfr := M.frm_snoc (ss := ss) (m := m) hlt
                have htr := M.plT_snoc (ss := ss) hlt
                have hvl := M.plT_val (m := m) hlt hn30 HSG.out
                rw [M.lit1_pl hlt, HYS.out, if_neg (by simp), ← HVV.out] at hfr
                have hsg : M.sg1 ss k = (-v) := by unfold M.sg1; rw [HSG.out, HVV.out]; rfl
                rw [hsg] at htr
                rw [HYS.out] at hvl
                have HFR := Lib.hid hfr
                have HTR := Lib.hid htr
                have HVL := Lib.hid hvl
                clear hfr htr hvl hsg
                go_wp2_with (first
                  | (at_builtin; refine wpList_append_Ints rfl (.tmp 69) (.tmp 72) 30 rfl Tryd.underlying30 W2.heap.size af _ cf _ rfl HLF.out (HP.out.alloc (Nat.le_refl _) _).frm _ 1 1 [(-v)] rfl rfl (Ints.one wp (-v) ⟨by omega, by omega⟩ _) (fun h => by cases h) (by omega) (by have := HP.out.below.size; simp; omega) ?_; intro a5 c5 w5 hO5 hg5 hB5; have hT5 := ((HP.out.alloc (Nat.le_refl _) (.cells #[.int .i64 (-v)] 3)).trm).keptG (fun g cur hg => ((HP.out.alloc (Nat.le_refl _) (.cells #[.int .i64 (-v)] 3)).frm).other hg5 g cur _ _ hg (by decide)); have hP5 : PL W2.heap.size W2 ss m k af cf at' ct (wp.alloc (.cells #[.int .i64 (-v)] 3)) := HP.out.alloc (Nat.le_refl _) _; have HBW5 := Lib.hid (hP5.below.trans hB5); have HO5 := Lib.hid hO5; have HT5 := Lib.hid hT5; clear hO5 hg5 hB5 hT5 hP5; obtain ⟨ba5, oa5, ea5, _, hca5⟩ := (HS.out.below (HB2.out.trans (HBW5.out.mono HB2.out.size))).addr (by omega); cases ea5; have hcs5 := hca5 k _ HSG.out; clear hca5)
                  | (at_builtin; refine wpList_append_WG rfl (.tmp 88) (.tmp 91) rfl W2.heap.size at' _ ct _ rfl HLT.out (HT5.out.allocG _) (some ⟨w5.heap.size, 0, none⟩) 1 1 [((-v), 1)] rfl rfl (Wts.one1 w5 (-v) 1 ⟨by omega, by omega⟩ ⟨by omega, by omega⟩ _) (fun h => by cases h) (by omega) (by have := HBW5.out.size; simp; omega) ?_; intro a6 c6 w6 hO6 hB6 hg6; have hF6 := (OwnI.alloc HO5.out (.cells #[.int .i64 (-v), .int .i64 1] 57)).kept (fun g cur _ hg => (HT5.out.allocG (.cells #[.int .i64 (-v), .int .i64 1] 57)).other hg6 g cur _ _ hg (by decide)); have HB6 := Lib.hid ((HBW5.out.alloc HBW5.out.size (.cells #[.int .i64 (-v), .int .i64 1] 57)).trans hB6); have HO6 := Lib.hid hO6; have HF6 := Lib.hid hF6; clear hO6 hB6 hg6 hF6))
                go_roundw
                case rel =>
                  refine ⟨k + 1, a5, c5, a6, c6, by omega, by go_num, ?_, ?_, ?_, ⟨HB6.out, by rw [HFR.out]; exact HF6.out, by rw [HTR.out]; exact HO6.out⟩⟩
                  · rw [List.length_take, M.plT_length, Nat.min_eq_left (by omega)]
                  · rw [List.length_take, M.frm_length, Nat.min_eq_left (by omega)]
                  · rw [HVL.out]; first | rfl | (simp; done) | go_num
                case measure => first | (simp [intOf]; done) | (simp [intOf]; omega)
          · obtain rfl : k = ss.length := by omega
            have hT := HP.out.trm
            have hFr := HP.out.frm
            rw [List.take_of_length_le (by rw [M.plT_length]; omega)] at hT ⊢
            rw [List.take_of_length_le (by rw [M.frm_length]; omega)] at hFr
            have hbr := HP.out.below
            have hsr := hbr.size
            obtain ⟨T, hTT⟩ : ∃ T, T = M.plT ss := ⟨_, rfl⟩
            obtain ⟨FR, hFR⟩ : ∃ FR, FR = M.frm (M.plM ss m) := ⟨_, rfl⟩
            have hwl : 3 * M.wLen (M.plT ss) + (M.dig (M.wSum (M.plT ss))).length ≤ 3 * ss.length + 5 := by
              have h5 : (M.dig ss.length).length ≤ 5 := M.dig_len (by omega)
              rw [M.plT_len, M.plT_sum]; omega
            have hbt := bits_tight w.heap.size W0.heap.size ss.length (3 * ss.length + 5) none 0 at' ct (M.plT ss) wr (HF2.out.below hbr) (by have := HB2.out.size; omega) (hT.wts (fun t ht => by
                simp only [M.plT, List.mem_map, List.mem_range] at ht
                obtain ⟨i, hi, rfl⟩ := ht
                have := M.sg1_own hi
                exact ⟨⟨by omega, by omega⟩, ⟨by omega, by omega⟩⟩) (by rw [M.plT_length]; omega)) (fun _ ad e _ => by
                obtain ⟨cur, hcc⟩ := hT.tag ad e
                exact .inr (.inr ⟨cur, _, _, hcc, by decide, by decide⟩)) (M.plT_ok ss) (by rw [M.plT_length]; omega) (M.plT_own ss) hwl (by omega)
            rw [M.plT_length] at hbt
            have HBT := Lib.hid hbt
            have HFr := Lib.hid hFr
            have HBR := Lib.hid (HB2.out.trans (hbr.mono HB2.out.size))
            have hwv : M.wVal (M.plT ss) (M.plM ss m) ≤ 31457280 := by
              have h1 := M.val_le (M.plT ss) (M.plM ss m)
              rw [M.plT_sum] at h1; omega
            clear hbt hFr hT hbr hwl hTT hFR HP HLT HLF hlt
            clear T FR
            go_wp2_with fail
            refine HBT.out.mono ?_
            rintro e w8 ⟨gs, bits, a8, c8, rfl, hO8, ⟨a9, c9, hF9, hk9⟩, hS8⟩
            have hfi := hk9.ints (HFr.out.ints (fun z hz => by have := M.frm_bd ss m hn30 z hz; exact ⟨by omega, by omega⟩) (by rw [M.frm_length]; omega)) HFr.out.tag
            have hgl : gs.length ≤ 95 := by have := hS8.gates; omega
            have hbl : bits.length ≤ 5 := by
              rw [hS8.bl, M.plT_sum]; exact M.dig_len (by omega)
            have hcl := M.gatesC_length (V := ss.length) hS8.small
            have hcl2 : (M.gatesC ss.length gs).length ≤ 1000 := by omega
            have HB8 := Lib.hid (HBR.out.trans ((hk9.below (by have := HBR.out.size; omega)).mono (Nat.le_refl _)))
            have hca := clauses_any (Y := NoX) w.heap.size W0.heap.size (ss.length + gs.length) (M.gatesC ss.length gs) a9 c9 w8 hF9 (NoX.lt _)
            have HCA := Lib.hid hca
            have HFI := Lib.hid hfi.1
            have HS8 := Lib.hid hS8
            have HBI := Lib.hid (hO8.ints (fun z hz => by
              have := (M.own_iff _ _).1 hS8.ownb z hz
              exact ⟨by omega, by omega⟩) (by omega))
            clear hO8 hF9 hk9 hS8 hfi hca HBT HFr hcl
            go_wp2_with fail
            refine HCA.out.mono ?_
            rintro e w9 ⟨rfl, hO9, hb9⟩
            have hCls := hO9.cls (by omega)
            have hfl : (M.frm (M.plM ss m)).length = ss.length := M.frm_length ss m
            have hpr := rprop_any (some ⟨w8.heap.size, 0, none⟩) (M.gatesC ss.length gs).length (M.gatesC ss.length gs) af cf (M.frm (M.plM ss m)) w9 hCls hcl2 (fun x hx => by have := M.gatesC_clause HS8.out.small x hx; omega) (HFI.out.below hb9) (by omega)
            rw [hfl] at hpr
            have HPR := Lib.hid hpr
            have HB9 := Lib.hid (HB8.out.trans (hb9.mono HB8.out.size))
            have HBI9 := Lib.hid (HBI.out.below hb9)
            clear hO9 hb9 hCls hpr HCA hfl
            go_wp2_with fail
            refine HPR.out.mono ?_
            rintro e w10 ⟨l, ok, a10, c10, rfl, hres, hI10, hb10⟩
            obtain ⟨rfl, hin⟩ := M.prop_gates HS8.out.ok (by omega) (M.plM_length ss m) hres
            have HB10 := Lib.hid (HB9.out.trans (hb10.mono HB9.out.size))
            have HBI10 := Lib.hid (HBI9.out.below hb10)
            have HIN := Lib.hid hin
            have HI10 := Lib.hid hI10
            have hval := HS8.out.val (M.plM ss m) (M.plM_length ss m)
            have hval2 : M.num (bits.map (M.holds · (M.ext (M.plM ss m) gs))) = M.wVal (M.plT ss) (M.plM ss m) := by simpa [M.ld] using hval
            have HVAL := Lib.hid hval2
            clear hres hI10 hb10 hin hval hval2 HPR HBI HBI9
            obtain ⟨E, hE⟩ : ∃ E, E = M.ext (M.plM ss m) gs := ⟨_, rfl⟩
            rw [← hE] at HVAL HIN
            have HOB := Lib.hid HS8.out.ownb
            clear hE HS8
            go_wp2
            go_loop [17, 18, 19, 113] (fun v _ _ i => ∃ k : Nat, k ≤ bits.length ∧ i = .int .i64 k ∧ v = .int .i64 (M.num ((bits.map (M.holds · E)).take k))) (fun _ _ _ i => bits.length - (intOf i).toNat)
            case atStart => exact ⟨0, Nat.zero_le _, rfl, rfl⟩
            case round =>
              obtain ⟨k, hk, rfl, rfl⟩ := hrel
              by_cases hlt : k < bits.length
              · obtain ⟨bb, off, rfl, hbl8, hc8⟩ := HBI10.out.addr (by omega)
                obtain ⟨z, hzk⟩ : ∃ z, bits[k]? = some z := ⟨bits[k], by simp [hlt]⟩
                have hcell := hc8 k z hzk
                have hzo := (M.own_iff _ _).1 HOB.out z (List.mem_of_getElem? hzk)
                have hown1 : M.own (ss.length + gs.length) [z] = true := (M.own_iff _ _).2 fun y hy => by simp at hy; subst hy; exact hzo
                have hown2 : M.own (ss.length + gs.length) [-z] = true := (M.own_iff _ _).2 fun y hy => by simp at hy; subst hy; omega
                have hzl : M.isLit z = true := by rw [M.isLit_iff]; omega
                have hn := M.num_snoc (ds := bits.map (M.holds · E)) (k := k) (b := M.holds z E) (by rw [List.getElem?_map, hzk]; rfl)
                have hnl : M.num ((bits.map (M.holds · E)).take k) < 2 ^ k := by
                  have := M.num_lt ((bits.map (M.holds · E)).take k)
                  rwa [List.length_take, Nat.min_eq_left (by rw [List.length_map]; exact hk)] at this
                have hi1 : M.inn l z = M.holds z E := by
                  rw [Bool.eq_iff_iff]; unfold M.inn; rw [decide_eq_true_iff]; exact HIN.out z hown1
                have hi2 : M.inn l (-z) = !(M.holds z E) := by
                  rw [← M.holds_neg _ hzl, Bool.eq_iff_iff]; unfold M.inn; rw [decide_eq_true_iff]; exact HIN.out (-z) hown2
                have h1 := in_any a10 c10 l z w10 HI10.out
                have h2 := in_any a10 c10 l (-z) w10 HI10.out
                rw [hi1] at h1
                rw [hi2] at h2
                have H1 := Lib.hid h1
                have H2 := Lib.hid h2
                have hz1 : -1000 ≤ z := by omega
                have hz2 : z ≤ 1000 := by omega
                have hwz : wrap64 (-z) = -z := IntWalk.wrap64_in _ ⟨by omega, by omega⟩
                have hwz2 : IntKind.i64.wrap (-z) = -z := by rw [IntKind.wrap_i64]; omega
                have hp := pow_small (k := k) (by omega)
                have hw : wrap64 ((2 : Int) ^ k) = (2 : Int) ^ k := by
                  have e : ((2 : Int) ^ k) = ((2 ^ k : Nat) : Int) := by simp
                  rw [e]; exact IntWalk.wrap64_in _ ⟨by omega, by omega⟩
                have hw3 : wrap64 ((M.num ((bits.map (M.holds · E)).take k) : Int) + (2 : Int) ^ k) = (M.num ((bits.map (M.holds · E)).take k) : Int) + (2 : Int) ^ k := by
                  have e : ((2 : Int) ^ k) = ((2 ^ k : Nat) : Int) := by simp
                  rw [e]; exact IntWalk.wrap64_in _ ⟨by omega, by omega⟩
                have HNN := Lib.hid hn
                clear hc8 hzk hzo hown1 hown2 hzl hn hi1 hi2 h1 h2
                cases hh : M.holds z E
                · rw [hh] at H1 H2 HNN
                  clear hh
                  go_wp2_with (go_at_call 33; first | ((with_reducible refine H1.out.mono ?_); rintro e w' ⟨rfl, rfl⟩) | ((with_reducible refine H2.out.mono ?_); rintro e w' ⟨rfl, rfl⟩))
                  go_round
                  case rel => exact ⟨k + 1, by omega, by go_num, by rw [HNN.out]; rfl⟩
                  case measure => simp [intOf]; omega
                · rw [hh] at H1 H2 HNN
                  clear hh
                  go_wp2_with (go_at_call 33; first | ((with_reducible refine H1.out.mono ?_); rintro e w' ⟨rfl, rfl⟩) | ((with_reducible refine H2.out.mono ?_); rintro e w' ⟨rfl, rfl⟩))
                  go_round
                  case rel => exact ⟨k + 1, by omega, by go_num, by rw [HNN.out]; simp [hw3]⟩
                  case measure => simp [intOf]; omega
              · obtain rfl : k = bits.length := by omega
                rw [List.take_of_length_le (by rw [List.length_map]; omega), HVAL.out]
                go_wp2
                go_ret
                exact ⟨rfl, HB10.out⟩
      · go_wp2
        go_ret
        exact ⟨rfl, HB0.out⟩
    · go_wp2
      go_ret
      exact ⟨rfl, HB0.out⟩
  · go_wp2
    go_ret
    exact ⟨rfl, HB0.out⟩
end Go.Proofs.YtllkeojkejbbeaaDoor
