/- (As XSX, for up to four unset variables and an empty model.) haversackref16.extended, Extended: all models with which literals and clauses are true. -/
import Derived.Test.YtnmcajinaigcjaaGreatDoorSPlAll
import Derived.Test.YtnmcajinaigcjaaGreatDoorSXMath
import Derived.Test.YtnmcajinaigcjaaGreatDoorJMem
namespace Go.Proofs.YtnmcajinaigcjaaGreatDoor.C
open Go.RowKit

theorem OwnR.weaken {w : World} {base b2 : Nat} {a : Option Addr} {c : Nat} {ms : List (List Bool)} (h : OwnR w base a c ms) (hb : b2 ≤ base) : OwnR w b2 a c ms := by
  obtain ⟨vals, ho, hv⟩ := h
  refine ⟨vals, ⟨ho.1, ?_⟩, fun i m hm => ?_⟩
  · rcases ho.2 with h0 | ⟨g, cap, cur, e, hbg, r⟩
    · exact .inl h0
    · exact .inr ⟨g, cap, cur, e, by omega, r⟩
  · obtain ⟨a', h1, h2⟩ := hv i m hm
    exact ⟨a', h1, h2.weaken hb⟩
/-- append(rows, rows...) -/
theorem wpList_append_RowsS {w : World} {ops : Array Oper} {rest : List Oper} {o : Oper} {act : Act} {Q : Exit → Act → World → Prop} (hgd : o.guard = none) (s x : Operand)
    (ho : o.op = .call { callee := .builtin .append, args := #[s, x], argTypes := #[85, 85] })
    (base : Nat) (a : Option Addr) (n c : Nat) (ms : List (List Bool)) (hs : act.eval s = .slice a n c) (hn : ms.length = n) (hown : OwnR w base a c ms)
    (b2 : Nat) (b : Option Addr) (m d : Nat) (ks : List (List Bool)) (hx : act.eval x = .slice b m d) (hm : ks.length = m) (hb : OwnR w b2 b d ks) (hb2 : base ≤ b2) (hlen : n + m ≤ 1000000) (hbase : base ≤ w.heap.size)
    (h : ∀ a' c' w', OwnR w' base a' c' (ms ++ ks) → Below base w w' → wpList Tryz.prog ops Q rest (act.put o.dst (.slice a' (n + m) c')) w') :
    wpList Tryz.prog ops Q (o :: rest) act w := by
  subst hn hm
  obtain ⟨i0, hi, hz0, hz1, hz2⟩ := info_parts Tryz.infoBools
  have hrow := hown.row
  obtain ⟨vals, hr, hvals⟩ := hown
  obtain ⟨vals2, hr2, hvals2⟩ := hb
  have hvl : vals.length = ms.length := by simpa using hr.1
  have hvl2 : vals2.length = ks.length := by simpa using hr2.1
  have fin : ∀ v' w', w'.ownsRow base 23 1 v' (ms.length + ks.length) (vals ++ vals2) → w.grownBy w' (Value.slice a ms.length c).ownBlock → wpList Tryz.prog ops Q rest (act.put o.dst v') w' := by
    intro v' w' h1 h2
    have hob : ∀ k, (Value.slice a ms.length c).ownBlock = some k → base ≤ k ∧ ∃ cur, w.heap[k]? = some (.cells cur 23 (0, 0)) := by
      intro k hk
      cases a with
      | none => simp [Value.ownBlock] at hk
      | some ad => simp [Value.ownBlock] at hk; subst hk; exact hrow ad rfl
    have hkp : ∀ {b' : Option Addr} {d' : Nat} {m' : List Bool}, OwnB w base b' d' m' → OwnB w' base b' d' m' := by
      intro b' d' m' h3
      refine h3.kept fun g cur hlt hg => h2.block g hlt fun e => ?_
      obtain ⟨_, cur', hc⟩ := hob g e.symm
      rw [hg] at hc; cases hc
    have hbel : Below base w w' := (Below.refl base w).grown h2 hbase (fun k hk => (hob k hk).1)
    have : ∃ a' c', v' = .slice a' (ms.length + ks.length) c' := by
      rcases h1.2 with ⟨e, hn⟩ | ⟨g, cap, cur, e, _⟩
      · exact ⟨none, 0, by rw [e, hn]⟩
      · exact ⟨_, _, e⟩
    obtain ⟨a', c', rfl⟩ := this
    refine h a' c' w' ⟨vals ++ vals2, by simpa using h1, fun i y hy => ?_⟩ hbel
    by_cases hil : i < ms.length
    · rw [List.getElem?_append_left hil] at hy
      obtain ⟨a1, e1, e2⟩ := hvals i y hy
      exact ⟨a1, by rw [List.getElem?_append_left (by omega)]; exact e1, hkp e2⟩
    · rw [List.getElem?_append_right (by omega)] at hy
      obtain ⟨a1, e1, e2⟩ := hvals2 _ y hy
      exact ⟨a1, by rw [List.getElem?_append_right (by omega), hvl]; exact e1, hkp (e2.weaken hb2)⟩
  have hcase : (b = none ∧ d = 0 ∧ ks = []) ∨ ∃ g, b = some ⟨g, 0, none⟩ := by
    rcases hr2.2 with ⟨e, hn⟩ | ⟨g, cap, cur, e, _⟩
    · injection e with e1 e2 e3
      exact .inl ⟨e1, e3, List.eq_nil_of_length_eq_zero hn⟩
    · injection e with e1
      exact .inr ⟨g, e1⟩
  rcases hcase with ⟨rfl, rfl, rfl⟩ | ⟨g, rfl⟩
  · have e0 : vals2 = [] := List.eq_nil_of_length_eq_zero hvl2
    subst e0
    refine wpList_append_own_none hgd s x 85 ho base 23 i0 1 Tryz.underlying85 hi _ _ _ hs hr hx ?_
    exact fin _ _ (by simpa using hr) ⟨rfl, rfl, rfl, Nat.le_refl _, fun _ _ _ => rfl⟩
  · refine wpList_append_own w hgd s x 85 ho base 23 i0 (.slice none 0 0) 1 24 Tryz.underlying85 hi hz0 hz1 hz2 rfl (by decide) _ _ _ hs hr ⟨g, 0, none⟩ ks.length d vals2 hx (by omega) ?_ ?_ ?_ ?_ hbase ?_
    · intro j u hj
      exact hr2.cells (g := g) rfl j u hj
    · intro u hu
      obtain ⟨j, hj, rfl⟩ := List.getElem_of_mem hu
      obtain ⟨a1, e1, _⟩ := hvals2 j _ (List.getElem?_eq_getElem (by omega))
      rw [List.getElem?_eq_getElem hj] at e1
      rw [Option.some.inj e1]; rfl
    · unfold maxLen; omega
    · omega
    · intro v' w' h1 h2 _
      exact fin v' w' h1 h2
theorem OwnR.one (w : World) (base : Nat) (hb : base ≤ w.heap.size) (a : Option Addr) (m : List Bool) (hm : OwnB w base a m.length m) : OwnR (w.alloc (.cells #[.slice a m.length m.length] 23)) base (some ⟨w.heap.size, 0, none⟩) 1 [m] :=
  ⟨[.slice a m.length m.length], ⟨rfl, .inr ⟨w.heap.size, 1, #[.slice a m.length m.length], rfl, hb, by show (w.heap.push _)[w.heap.size]? = _; simp, Nat.le_refl _, by decide, rfl, rfl⟩⟩, fun i y hy => by
    match i, hy with
    | 0, hy => simp at hy; subst hy; exact ⟨a, rfl, hm.alloc _⟩⟩
theorem OwnR.nil (w : World) (base : Nat) : OwnR w base none 0 [] := ⟨[], World.ownsRow_nil _ _ _ _, fun i m h => by simp at h⟩
/-- the literals so far as a model -/
theorem M.setM_pos {V q : Nat} {l : List Int} {k : Nat} (h : l[k]? = some ((q : Int) + 1)) (hq : q < V) : (M.setM V (l.take k)).set q true = M.setM V (l.take (k + 1)) := by
  refine List.ext_getElem? fun i => ?_
  rw [List.getElem?_set]
  unfold M.setM
  rw [List.length_map, List.length_range, if_pos hq]
  by_cases hi : i < V
  · rw [List.getElem?_map, List.getElem?_map, List.getElem?_range hi]
    by_cases e : q = i
    · subst e
      rw [if_pos rfl]
      simp [M.inn_snoc h]
    · rw [if_neg e]
      simp [M.inn_snoc h]
      intro h2; omega
  · rw [if_neg (by omega), List.getElem?_eq_none (by simp; omega), List.getElem?_eq_none (by simp; omega)]
theorem M.setM_neg {V : Nat} {z : Int} {l : List Int} {k : Nat} (h : l[k]? = some z) (hz : z ≤ 0) : M.setM V (l.take (k + 1)) = M.setM V (l.take k) := by
  unfold M.setM
  refine List.map_congr_left fun i _ => ?_
  rw [M.inn_snoc h]
  have : (z == (i : Int) + 1) = false := by rw [beq_eq_false_iff_ne]; omega
  rw [this, Bool.or_false]
theorem M.setM_nil (V : Nat) : M.setM V [] = List.replicate V false := by
  unfold M.setM
  refine List.ext_getElem? fun i => ?_
  by_cases hi : i < V
  · simp [hi, M.inn]
  · rw [List.getElem?_eq_none (by simp; omega), List.getElem?_eq_none (by simp; omega)]
def XPost (w : World) (cs : List (List Int)) (V : Nat) (fr : List Int) (n : Nat) (e : Ending) (w' : World) : Prop :=
  ∃ xs a c, e = .returned (.slice a xs.length c) ∧ xs.length ≤ 2 ^ n ∧ M.XR cs V fr xs ∧ OwnR w' w.heap.size a c xs ∧ Below w.heap.size w w'
set_option maxHeartbeats 4000000 in
set_option maxRecDepth 100000 in
theorem extended_step (a : Option Addr) (c : Nat) (cs : List (List Int)) (V : Nat) (hV : V ≤ 400) (hco : ∀ x ∈ cs, M.own V x = true) (hl : cs.length ≤ 1000) (hcl : ∀ x ∈ cs, x.length ≤ 1000)
    (n : Nat) (b : Option Addr) (d : Nat) (fr : List Int) (w : World) (hn : n ≤ 4) (hz : Cls w a cs) (hf : Ints w b fr) (hfo : M.own V fr = true) (hfl : fr.length ≤ 1000)
    (hrec : ∀ (l : List Int) (k : Nat) (z : Int) (b : Option Addr) (d : Nat) (w : World), M.PropRes cs fr l true → k < V → M.isUn l k = true → (z = (k : Int) + 1 ∨ z = -((k : Int) + 1)) → l.length ≤ 900 → (∀ y ∈ l, I64 y) → Cls w a cs → Ints w b (l ++ [z]) →
      ∃ n', n = n' + 1 ∧ Calls Tryz.prog 76 #[.slice a cs.length c, .int .i64 V, .slice b (l.length + 1) d] w (XPost w cs V (l ++ [z]) n')) :
    Calls Tryz.prog 76 #[.slice a cs.length c, .int .i64 V, .slice b fr.length d] w (XPost w cs V fr n) := by
  have HCO := Lib.hid hco
  have HCLL := Lib.hid hcl
  have HPR := Lib.hid (rprop_any a c cs b d fr w hz hl hcl hf hfl)
  have HZ := Lib.hid hz
  have HREC := Lib.hid hrec
  have HFO := Lib.hid hfo
  clear hco hcl hz hf hrec hfo
  go_enter Tryz.func76, Tryz.ntmps76
  go_wp2_with fail
  refine HPR.out.mono ?_
  rintro e w1 ⟨l, ok, a1, c1, rfl, hres, hI1, hb1, hcz⟩
  have HRES := Lib.hid hres
  have HI1 := Lib.hid hI1
  have HB1 := Lib.hid hb1
  have HCZ := Lib.hid hcz
  clear hres hI1 hb1 hcz HPR
  cases ok
  · go_wp2
    go_ret
    exact ⟨[], none, 0, rfl, Nat.zero_le _, M.leaf_no HRES.out.noC, OwnR.nil _ _, HB1.out⟩
  · have hlo : M.own V l = true := HRES.out.own HCO.out HFO.out
    have hll : l.length ≤ 2 * V := M.own_room HRES.out.yes.1 hlo
    have HLO := Lib.hid hlo
    clear hlo
    go_wp2
    go_loop [9] (fun i => ∃ k : Nat, k ≤ V ∧ i = .int .i64 ((k : Int) + 1) ∧ ∀ j, j < k → M.isUn l j = false) (fun i => V + 1 - (intOf i).toNat)
    case atStart => exact ⟨0, Nat.zero_le _, rfl, fun j h => absurd h (Nat.not_lt_zero _)⟩
    case round =>
      obtain ⟨k, hk, rfl, hset⟩ := hrel
      have HSET := Lib.hid hset
      clear hset
      by_cases hlt : k < V
      · have hw1 : wrap64 (-((k : Int) + 1)) = -((k : Int) + 1) := IntWalk.wrap64_in _ ⟨by omega, by omega⟩
        have hw2 : IntKind.i64.wrap (-((k : Int) + 1)) = -((k : Int) + 1) := by rw [IntKind.wrap_i64]; omega
        have h1 := in_any a1 c1 l ((k : Int) + 1) w1 HI1.out
        have h2 := in_any a1 c1 l (-((k : Int) + 1)) w1 HI1.out
        have hun : M.isUn l k = (!(M.inn l ((k : Int) + 1)) && !(M.inn l (-((k : Int) + 1)))) := rfl
        have hle1 : (k : Int) + 1 ≤ (V : Int) := by omega
        cases hh1 : M.inn l ((k : Int) + 1)
        · cases hh2 : M.inn l (-((k : Int) + 1))
          · rw [hh1] at h1
            rw [hh2] at h2
            rw [hh1, hh2] at hun
            have HUN := Lib.hid (show M.isUn l k = true from hun)
            have H1 := Lib.hid h1
            have H2 := Lib.hid h2
            clear h1 h2 hun hh1 hh2 HSET
            have hwf : ∀ y ∈ l, I64 y := HI1.out.wf
            have HWF := Lib.hid hwf
            have hvo : M.own V [(k : Int) + 1] = true := (M.own_iff _ _).2 fun y hy => by simp at hy; subst hy; omega
            have HVO := Lib.hid hvo
            clear hwf hvo
            go_wp2_with (first
              | (go_at_call 111; first | ((with_reducible refine H1.out.mono ?_); rintro e w' ⟨rfl, rfl⟩) | ((with_reducible refine H2.out.mono ?_); rintro e w' ⟨rfl, rfl⟩))
              | (at_builtin; refine wpList_append_Ints rfl (.tmp 41) (.tmp 42) 31 rfl Tryz.underlying31 w1.heap.size _ 0 0 [] rfl rfl (OwnI.made0 w1 _ (Nat.le_refl _)) a1 l.length c1 l rfl rfl (HI1.out.alloc _) HCZ.out (by omega) (by simp) ?_; intro a3 c3 w3 hO3 _ hB3; have HO3 := Lib.hid hO3; have HB3 := Lib.hid (put_below1 hB3); clear hO3 hB3)
              | (at_builtin; refine wpList_append_Ints rfl (.tmp 43) (.tmp 45) 31 rfl Tryz.underlying31 w1.heap.size a3 _ c3 ([] ++ l) rfl (by simp) (HO3.out.alloc _) _ 1 1 [(k : Int) + 1] rfl rfl (Ints.one w3 ((k : Int) + 1) ⟨by omega, by omega⟩ _) (fun h => by cases h) (by omega) (by have := HB3.out.size; simp; omega) ?_; intro a4 c4 w4 hO4 _ hB4; have HO4 := Lib.hid hO4; have HB4 := Lib.hid (put_below2 HB3.out hB4); clear hO4 hB4))
            obtain ⟨n1, hn1, hc1⟩ := HREC.out l k ((k : Int) + 1) a4 c4 w4 HRES.out hlt HUN.out (.inl rfl) (by omega) HWF.out ((HZ.out.below HB1.out).below HB4.out) (HO4.out.ints (fun y hy => by
              rcases List.mem_append.1 hy with h | h
              · exact HWF.out y (by simpa using h)
              · simp at h; subst h; exact ⟨by omega, by omega⟩) (by simp; omega))
            have HC1 := Lib.hid hc1
            have HN1 := Lib.hid hn1
            have HB14 := Lib.hid (HB1.out.trans (HB4.out.mono HB1.out.size))
            clear hc1 hn1 HO3 HB3 HO4 H1 H2
            refine HC1.out.mono ?_
            rintro e w5 ⟨xa, a5, c5, rfl, hxl, hxr, hxo, hxb⟩
            have HXL := Lib.hid hxl
            have HXR := Lib.hid hxr
            have HXO := Lib.hid (hxo.weaken HB14.out.size)
            have HB5 := Lib.hid (HB14.out.trans (hxb.mono HB14.out.size))
            have HI5 := Lib.hid ((HI1.out.below HB4.out).below hxb)
            clear hxl hxr hxo hxb HC1 HB14 HB4
            go_wp2_with (first
              | (at_builtin; refine wpList_append_Ints rfl (.tmp 50) (.tmp 51) 31 rfl Tryz.underlying31 w5.heap.size _ 0 0 [] rfl rfl (OwnI.made0 w5 _ (Nat.le_refl _)) a1 l.length c1 l rfl rfl (HI5.out.alloc _) HCZ.out (by omega) (by simp) ?_; intro a6 c6 w6 hO6 _ hB6; have HO6 := Lib.hid hO6; have HB6 := Lib.hid (put_below1 hB6); clear hO6 hB6)
              | (at_builtin; refine wpList_append_Ints rfl (.tmp 52) (.tmp 55) 31 rfl Tryz.underlying31 w5.heap.size a6 _ c6 ([] ++ l) rfl (by simp) (HO6.out.alloc _) _ 1 1 [-((k : Int) + 1)] rfl rfl (Ints.one w6 (-((k : Int) + 1)) ⟨by omega, by omega⟩ _) (fun h => by cases h) (by omega) (by have := HB6.out.size; simp; omega) ?_; intro a7 c7 w7 hO7 _ hB7; have HO7 := Lib.hid hO7; have HB7 := Lib.hid (put_below2 HB6.out hB7); clear hO7 hB7))
            obtain ⟨n2, hn2, hc2⟩ := HREC.out l k (-((k : Int) + 1)) a7 c7 w7 HRES.out hlt HUN.out (.inr rfl) (by omega) HWF.out ((HZ.out.below HB5.out).below HB7.out) (HO7.out.ints (fun y hy => by
              rcases List.mem_append.1 hy with h | h
              · exact HWF.out y (by simpa using h)
              · simp at h; subst h; exact ⟨by omega, by omega⟩) (by simp; omega))
            obtain rfl : n2 = n1 := by have := HN1.out; omega
            have HC2 := Lib.hid hc2
            have HB57 := Lib.hid (HB5.out.trans (HB7.out.mono HB5.out.size))
            have HXO7 := Lib.hid (HXO.out.below HB7.out)
            clear hc2 hn2 HO6 HB6 HO7 HXO HB5 HB7
            refine HC2.out.mono ?_
            rintro e w8 ⟨xb, a8, c8, rfl, hxl, hxr, hxo, hxb⟩
            have HXL2 := Lib.hid hxl
            have HXR2 := Lib.hid hxr
            have HXO2 := Lib.hid (hxo.weaken HB57.out.size)
            have HXO8 := Lib.hid (HXO7.out.below hxb)
            have HB8 := Lib.hid (HB57.out.trans (hxb.mono HB57.out.size))
            have hp2 : 2 ^ n2 ≤ 16 := Nat.pow_le_pow_right (n := 2) (by omega) (show n2 ≤ 4 by have := HN1.out; omega)
            have hx1 : xa.length + xb.length ≤ 1000000 := by have := HXL.out; have := HXL2.out; omega
            clear hxl hxr hxo hxb HC2 HB57 HXO7 HI5
            go_wp2_with (at_builtin; refine wpList_append_RowsS rfl (.tmp 58) (.tmp 59) rfl w.heap.size a5 _ c5 xa rfl rfl HXO8.out w.heap.size a8 _ c8 xb rfl rfl HXO2.out (Nat.le_refl _) hx1 HB8.out.size ?_; intro a9 c9 w9 hO9 hB9; have HO9 := Lib.hid hO9; have HB9 := Lib.hid (HB8.out.trans hB9); clear hO9 hB9)
            go_ret
            refine ⟨xa ++ xb, a9, c9, by simp, ?_, M.node (by omega) HFO.out HRES.out HVO.out HXR.out HXR2.out, HO9.out, HB9.out⟩
            have h1 := HXL.out
            have h2 := HXL2.out
            rw [HN1.out, List.length_append, Nat.pow_succ]
            omega
          · rw [hh1] at h1
            rw [hh2] at h2
            have H1 := Lib.hid h1
            have H2 := Lib.hid h2
            rw [hh1, hh2] at hun
            have HUN := Lib.hid (show M.isUn l k = false from hun)
            clear h1 h2 hun hh1 hh2
            go_wp2_with (go_at_call 111; first | ((with_reducible refine H1.out.mono ?_); rintro e w' ⟨rfl, rfl⟩) | ((with_reducible refine H2.out.mono ?_); rintro e w' ⟨rfl, rfl⟩))
            go_round
            case rel => exact ⟨k + 1, by omega, by go_num, fun j hj => by
              rcases Nat.lt_or_ge j k with h | h
              · exact HSET.out j h
              · obtain rfl : j = k := by omega
                exact HUN.out⟩
            case measure => simp [intOf]; omega
        · rw [hh1] at h1
          have H1 := Lib.hid h1
          rw [hh1] at hun
          have HUN := Lib.hid (show M.isUn l k = false by rw [hun]; rfl)
          clear h1 h2 hun hh1
          go_wp2_with (go_at_call 111; (with_reducible refine H1.out.mono ?_); rintro e w' ⟨rfl, rfl⟩)
          go_round
          case rel => exact ⟨k + 1, by omega, by go_num, fun j hj => by
            rcases Nat.lt_or_ge j k with h | h
            · exact HSET.out j h
            · obtain rfl : j = k := by omega
              exact HUN.out⟩
          case measure => simp [intOf]; omega
      · obtain rfl : k = V := by omega
        clear HREC
        have hle1 : ¬ ((k : Int) + 1 ≤ (k : Int)) := by omega
        obtain ⟨wp, hwp⟩ : ∃ wp, wp = w1 := ⟨_, rfl⟩
        subst hwp
        go_wp2_with (at_make; refine wpList_make_Bools rfl (.tmp 61) (.tmp 61) rfl w.heap.size k rfl rfl (by omega) HB1.out.size ?_; intro w2 hown hb2 hlt2; have HO2 := Lib.hid hown; have HB2 := Lib.hid hb2; clear hown hb2 hlt2)
        go_loopw [14, 65] (fun _ i wr => ∃ j : Nat, j ≤ l.length ∧ i = .int .i64 j ∧ OwnB wr w.heap.size (some ⟨wp.heap.size, 0, none⟩) k (M.setM k (l.take j)) ∧ Below wp.heap.size wp wr) (fun _ i _ => l.length - (intOf i).toNat)
        case atStart => exact ⟨0, Nat.zero_le _, rfl, by rw [List.take_zero, M.setM_nil]; exact HO2.out, HB2.out⟩
        case round =>
          clear HO2 HB2
          obtain ⟨j, hj, rfl, ho, hb⟩ := hrel
          have HO := Lib.hid ho
          have HB := Lib.hid hb
          clear ho hb
          by_cases hjl : j < l.length
          · obtain ⟨b3, o3, rfl, hb3, hc3⟩ := (HI1.out.below HB.out).addr (by omega)
            obtain ⟨z, hzk⟩ : ∃ z, l[j]? = some z := ⟨l[j], by simp [hjl]⟩
            have hcell := hc3 j z hzk
            have hzo := (M.own_iff _ _).1 HLO.out z (List.mem_of_getElem? hzk)
            have HZK := Lib.hid hzk
            clear hc3 hzk
            by_cases hz0 : 0 < z
            · obtain ⟨q, rfl⟩ : ∃ q : Nat, z = (q : Int) + 1 := ⟨(z - 1).toNat, by omega⟩
              have hqk : q < k := by omega
              have hqk2 : (q : Int) < (k : Int) := by omega
              have hle : (q : Int) + 1 ≤ (k : Int) := by omega
              have hw1 : wrap64 ((q : Int) + 1 - 1) = (q : Int) := by rw [IntWalk.wrap64_in _ ⟨by omega, by omega⟩]; omega
              have hfz := HO.out.frozen q
              obtain ⟨y, hy⟩ : ∃ y, (M.setM k (l.take j))[q]? = some y := ⟨_, List.getElem?_eq_getElem (by rw [M.setM_length]; exact hqk)⟩
              have hcy := HO.out.cell hy
              clear hy hzo
              go_wp2
              go_roundw
              case rel => exact ⟨j + 1, by omega, by go_num, by rw [← M.setM_pos HZK.out hqk]; exact HO.out.stored q true, HB.out.setCell (Nat.le_refl _) _⟩
              case measure => simp [intOf]; omega
            · go_wp2
              go_roundw
              case rel => exact ⟨j + 1, by omega, by go_num, by rw [M.setM_neg HZK.out (by omega)]; exact HO.out, HB.out⟩
              case measure => simp [intOf]; omega
          · obtain rfl : j = l.length := by omega
            have ho := HO.out
            rw [List.take_length] at ho
            have HO3 := Lib.hid ho
            have HB3 := Lib.hid (HB1.out.trans (HB.out.mono HB1.out.size))
            clear ho HO
            go_wp2
            go_ret
            have hk := M.setM_length k l
            refine ⟨[M.setM k l], some ⟨wr.heap.size, 0, none⟩, 1, rfl, Nat.one_le_two_pow, M.leaf_yes (by omega) HCO.out HFO.out HRES.out HSET.out, ?_, HB3.out.alloc HB3.out.size _⟩
            have h9 := OwnR.one wr w.heap.size HB3.out.size (some ⟨wp.heap.size, 0, none⟩) (M.setM k l) (by rw [hk]; exact HO3.out)
            rw [hk] at h9
            exact h9
theorem extended_any (a : Option Addr) (c : Nat) (cs : List (List Int)) (V : Nat) (hV : V ≤ 400) (hco : ∀ x ∈ cs, M.own V x = true) (hl : cs.length ≤ 1000) (hcl : ∀ x ∈ cs, x.length ≤ 1000) :
    ∀ (n : Nat) (b : Option Addr) (d : Nat) (fr : List Int) (w : World), n ≤ 4 → Cls w a cs → Ints w b fr → M.own V fr = true → fr.length ≤ 1000 → (∀ l, M.PropRes cs fr l true → M.un V l ≤ n) →
    Calls Tryz.prog 76 #[.slice a cs.length c, .int .i64 V, .slice b fr.length d] w (XPost w cs V fr n) := by
  intro n
  induction n with
  | zero =>
    intro b d fr w hn hz hf hfo hfl hun
    refine extended_step a c cs V hV hco hl hcl 0 b d fr w hn hz hf hfo hfl fun l k z b d w hp hk hu _ _ _ _ _ => ?_
    have h1 := hun l hp
    have h2 : 0 < M.un V l := List.countP_pos_iff.2 ⟨k, List.mem_range.2 hk, hu⟩
    omega
  | succ n ih =>
    intro b d fr w hn hz hf hfo hfl hun
    refine extended_step a c cs V hV hco hl hcl (n + 1) b d fr w hn hz hf hfo hfl fun l k z b d w hp hk hu hz2 hl9 _ hz3 hi => ⟨n, rfl, ?_⟩
    have hlo := hp.own hco hfo
    have hzo : M.own V [z] = true := (M.own_iff _ _).2 fun y hy => by simp at hy; subst hy; omega
    have e : l.length + 1 = (l ++ [z]).length := by simp
    rw [e]
    refine ih b d (l ++ [z]) w (by omega) hz3 hi (M.own_append.2 ⟨hlo, hzo⟩) (by simp; omega) fun l' hp' => ?_
    have h1 := hun l hp
    have h2 := M.un_next hp' (M.own_isLit (vars := V) (by omega) hlo) hk hu hz2 (M.own_isLit (vars := V) (by omega) hzo z (by simp))
    omega
set_option maxHeartbeats 4000000 in
set_option maxRecDepth 100000 in
theorem Extended_any (a : Option Addr) (c : Nat) (cs : List (List Int)) (V : Nat) (b : Option Addr) (d : Nat) (m : List Bool) (n : Nat) (w : World) (hV : V ≤ 400) (hco : ∀ x ∈ cs, M.own V x = true) (hl : cs.length ≤ 1000) (hcl : ∀ x ∈ cs, x.length ≤ 1000) (hn : n ≤ 4)
    (hz : Cls w a cs) (hb : Bools w b m) (hm : m.length ≤ V) (hun : ∀ l, M.PropRes cs (M.frm m) l true → M.un V l ≤ n) :
    Calls Tryz.prog 46 #[.slice a cs.length c, .int .i64 V, .slice b m.length d] w (XPost w cs V (M.frm m) n) := by
  have HZ := Lib.hid hz
  have HB := Lib.hid hb
  have hex := fun b d fr w => extended_any a c cs V hV hco hl hcl n b d fr w hn
  have HEX := Lib.hid hex
  have HUN := Lib.hid hun
  have hfl : (M.frm m).length = m.length := M.frm_len m
  clear hz hb hex hun hco hcl
  go_enter Tryz.func46, Tryz.ntmps46
  go_wp2
  go_loopw [7, 8, 9, 13] (fun vf _ _ i wr => ∃ (k : Nat) (af : Option Addr) (cf : Nat), k ≤ m.length ∧ i = .int .i64 k ∧ vf = .slice af k cf ∧ OwnI wr w.heap.size af cf ((M.frm m).take k) ∧ Below w.heap.size w wr) (fun _ _ _ i _ => m.length - (intOf i).toNat)
  case atStart => exact ⟨0, _, 0, Nat.zero_le _, rfl, rfl, OwnI.made0 w _ (Nat.le_refl _), (Below.refl _ _).alloc (Nat.le_refl _) _⟩
  case round =>
    obtain ⟨k, af, cf, hk, rfl, rfl, ho, hbr⟩ := hrel
    have HO := Lib.hid ho
    have HBR := Lib.hid hbr
    clear ho hbr
    by_cases hlt : k < m.length
    · obtain ⟨bm, om, rfl, hbm, hcm⟩ := (HB.out.below HBR.out).addr (by omega)
      obtain ⟨y, hy⟩ : ∃ y, m[k]? = some y := ⟨m[k], by simp [hlt]⟩
      have hcy := hcm k y hy
      have hkl : ((M.frm m).take k).length = k := by rw [List.length_take]; omega
      have hsn : (M.frm m).take (k + 1) = (M.frm m).take k ++ [if y then (k : Int) + 1 else -(k : Int) - 1] := by
        rw [List.take_add_one]
        congr 1
        have : (M.frm m)[k]? = some (M.lit1 m k) := by simp [M.frm, hlt]
        rw [this]
        unfold M.lit1
        rw [hy]
        cases y
        · simp; omega
        · simp
      have HSN := Lib.hid hsn
      have HKL := Lib.hid hkl
      have hw1 : wrap64 (-(k : Int)) = -(k : Int) := IntWalk.wrap64_in _ ⟨by omega, by omega⟩
      have hw2 : IntKind.i64.wrap (-(k : Int)) = -(k : Int) := by rw [IntKind.wrap_i64]; omega
      have hw3 : wrap64 (-(k : Int) - 1) = -(k : Int) - 1 := IntWalk.wrap64_in _ ⟨by omega, by omega⟩
      clear hcm hy hsn hkl
      obtain ⟨wp, hwp⟩ : ∃ wp, wp = wr := ⟨_, rfl⟩
      subst hwp
      cases y
      · rw [if_neg (by simp)] at HSN
        go_wp2_with (at_builtin; refine wpList_append_Ints rfl (.tmp 24) (.tmp 28) 31 rfl Tryz.underlying31 w.heap.size af _ cf _ rfl HKL.out (HO.out.alloc _) _ 1 1 [-(k : Int) - 1] rfl rfl (Ints.one wp (-(k : Int) - 1) ⟨by omega, by omega⟩ _) (fun h => by cases h) (by omega) (by have := HBR.out.size; simp; omega) ?_; intro a5 c5 w5 hO5 _ hB5; have HO5 := Lib.hid hO5; have HB5 := Lib.hid (put_below2 HBR.out hB5); clear hO5 hB5)
        go_roundw
        case rel => exact ⟨k + 1, a5, c5, by omega, by go_num, by go_num, by rw [HSN.out]; exact HO5.out, HB5.out⟩
        case measure => first | (simp [intOf]; done) | (simp [intOf]; omega)
      · rw [if_pos rfl] at HSN
        go_wp2_with (at_builtin; refine wpList_append_Ints rfl (.tmp 19) (.tmp 22) 31 rfl Tryz.underlying31 w.heap.size af _ cf _ rfl HKL.out (HO.out.alloc _) _ 1 1 [(k : Int) + 1] rfl rfl (Ints.one wp ((k : Int) + 1) ⟨by omega, by omega⟩ _) (fun h => by cases h) (by omega) (by have := HBR.out.size; simp; omega) ?_; intro a5 c5 w5 hO5 _ hB5; have HO5 := Lib.hid hO5; have HB5 := Lib.hid (put_below2 HBR.out hB5); clear hO5 hB5)
        go_roundw
        case rel => exact ⟨k + 1, a5, c5, by omega, by go_num, by go_num, by rw [HSN.out]; exact HO5.out, HB5.out⟩
        case measure => first | (simp [intOf]; done) | (simp [intOf]; omega)
    · obtain rfl : k = m.length := by omega
      have ho := HO.out
      rw [List.take_of_length_le (by omega)] at ho
      have hfo : M.own V (M.frm m) = true := M.own_mono hm M.frm_own
      have hi : Ints wr af (M.frm m) := ho.ints (fun z hz => by
        have := (M.own_iff _ _).1 hfo z hz
        exact ⟨by omega, by omega⟩) (by omega)
      have hx := HEX.out af cf (M.frm m) wr (HZ.out.below HBR.out) hi hfo (by omega) HUN.out
      rw [hfl] at hx
      have HX := Lib.hid hx
      clear hx ho hi
      go_wp2_with fail
      refine HX.out.mono ?_
      rintro e w2 ⟨xs, a2, c2, rfl, h1, h2, h3, h4⟩
      have H3 := Lib.hid (h3.weaken HBR.out.size)
      have H4 := Lib.hid (HBR.out.trans (h4.mono HBR.out.size))
      have H2 := Lib.hid h2
      clear h3 h4 h2
      go_wp2
      go_ret
      exact ⟨xs, a2, c2, rfl, h1, H2.out, H3.out, H4.out⟩
end Go.Proofs.YtnmcajinaigcjaaGreatDoor.C
