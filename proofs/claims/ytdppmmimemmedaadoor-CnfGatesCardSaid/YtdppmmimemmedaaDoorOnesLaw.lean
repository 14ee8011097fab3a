/- The walk of haversacklaw15.CnfOnes. -/
import Derived.Test.YtdppmmimemmedaaDoorAlive15
namespace Go.Proofs.YtdppmmimemmedaaDoor
open Go.RowKit Go.Shelf
variable {X : Nat → Prop}

theorem M.pairs_true {a : Int} {l : List Int} (ha : M.isLit a = true) (hl : ∀ x ∈ l, M.isLit x = true) (hd : ∀ x ∈ l, a ≠ -x) (m : List Bool) : M.allTrue (M.pairs a l) m = (!(M.holds a m) || decide (M.count l m = 0)) := by
  have e : l.filter (fun b => !(a == -b)) = l := List.filter_eq_self.2 fun x hx => by simp [hd x hx]
  rw [M.pairs, e, M.allTrue, List.all_map]
  have h2 : (l.all ((fun c => M.tru c m) ∘ fun b => M.norm [-a, -b])) = l.all fun b => (!(M.holds a m) || !(M.holds b m)) := by
    rw [Bool.eq_iff_iff]; simp only [List.all_eq_true]
    refine forall_congr' fun x => forall_congr' fun hx => ?_
    show M.tru (M.norm [-a, -x]) m = true ↔ _
    rw [M.tru_norm]
    simp [M.tru, M.holds_neg m ha, M.holds_neg m (hl x hx)]
  rw [h2, M.all_pair]
  congr 1
  rw [Bool.eq_iff_iff, List.all_eq_true, decide_eq_true_iff, M.count, List.countP_eq_zero]
  refine forall_congr' fun x => forall_congr' fun _ => ?_
  simp
theorem M.oneC_true (m : List Bool) : ∀ (l : List Int), (∀ x ∈ l, M.isLit x = true) → l.Pairwise (fun a b => a ≠ -b) → M.allTrue (M.oneC l) m = decide (M.count l m ≤ 1)
  | [], _, _ => by simp [M.oneC, M.allTrue, M.count]
  | a :: l, hl, hd => by
    have hd' := List.pairwise_cons.1 hd
    have ih := M.oneC_true m l (fun x hx => hl x (List.mem_cons_of_mem _ hx)) hd'.2
    rw [M.oneC_pairs, M.allTrue, List.all_append]
    rw [show (M.pairs a l).all (fun c => M.tru c m) = M.allTrue (M.pairs a l) m from rfl, show (M.oneC l).all (fun c => M.tru c m) = M.allTrue (M.oneC l) m from rfl]
    rw [M.pairs_true (hl a (by simp)) (fun x hx => hl x (List.mem_cons_of_mem _ hx)) hd'.1 m, ih]
    have hc : M.count (a :: l) m = M.count l m + (if M.holds a m = true then 1 else 0) := by simp [M.count, List.countP_cons]
    rw [hc]
    cases M.holds a m
    · simp
    · rw [Bool.eq_iff_iff]; simp; omega
/-- the literals with their signs, the first k -/
def M.sg (ss : List Bool) (i : Nat) (z : Int) : Int := if ss[i]?.getD false then -z else z
def M.sgTo (V : Nat) (ss : List Bool) (k : Nat) : List Int := (List.range V).map fun (i : Nat) => if i < k then M.sg ss i ((i : Int) + 1) else (i : Int) + 1
theorem M.sgTo_length (V : Nat) (ss : List Bool) (k : Nat) : (M.sgTo V ss k).length = V := by simp [M.sgTo]
theorem M.sgTo_zero (V : Nat) (ss : List Bool) : M.sgTo V ss 0 = M.iota 0 V := by
  simp [M.sgTo, M.iota]; intro a _; omega
theorem M.sgTo_get {V : Nat} {ss : List Bool} {k i : Nat} (h : i < V) : (M.sgTo V ss k)[i]? = some (if i < k then M.sg ss i ((i : Int) + 1) else (i : Int) + 1) := by
  simp [M.sgTo, h]
theorem M.sgTo_neg {V : Nat} {ss : List Bool} {k : Nat} (h : k < V) (hs : ss[k]?.getD false = true) : (M.sgTo V ss k).set k (-((k : Int) + 1)) = M.sgTo V ss (k + 1) := by
  apply List.ext_getElem?
  intro i
  by_cases hi : i < V
  · rw [M.sgTo_get hi]
    by_cases hik : i = k
    · subst hik; rw [List.getElem?_set_self (by rw [M.sgTo_length]; exact hi), if_pos (by omega)]; simp [M.sg, hs]
    · rw [List.getElem?_set_ne (fun e => hik e.symm), M.sgTo_get hi]
      by_cases h2 : i < k
      · rw [if_pos h2, if_pos (by omega)]
      · rw [if_neg h2, if_neg (by omega)]
  · rw [List.getElem?_eq_none (by rw [List.length_set, M.sgTo_length]; omega), List.getElem?_eq_none (by rw [M.sgTo_length]; omega)]
theorem M.sgTo_keep {V : Nat} {ss : List Bool} {k : Nat} (hs : ss[k]?.getD false = false) : M.sgTo V ss k = M.sgTo V ss (k + 1) := by
  apply List.ext_getElem?
  intro i
  by_cases hi : i < V
  · rw [M.sgTo_get hi, M.sgTo_get hi]
    by_cases hik : i = k
    · subst hik; rw [if_neg (by omega), if_pos (by omega)]; simp [M.sg, hs]
    · by_cases h2 : i < k
      · rw [if_pos h2, if_pos (by omega)]
      · rw [if_neg h2, if_neg (by omega)]
  · rw [List.getElem?_eq_none (by rw [M.sgTo_length]; omega), List.getElem?_eq_none (by rw [M.sgTo_length]; omega)]
theorem M.sg_cases (ss : List Bool) (i : Nat) (z : Int) : M.sg ss i z = z ∨ M.sg ss i z = -z := by
  unfold M.sg; split
  · exact .inr rfl
  · exact .inl rfl
theorem M.sgTo_own (V : Nat) (ss : List Bool) (k : Nat) : M.own V (M.sgTo V ss k) = true := by
  rw [M.own_iff]
  intro x hx
  simp only [M.sgTo, List.mem_map, List.mem_range] at hx
  obtain ⟨i, hi, rfl⟩ := hx
  split
  · rcases M.sg_cases ss i ((i : Int) + 1) with e | e <;> rw [e] <;> omega
  · omega
theorem M.sgTo_apart (V : Nat) (ss : List Bool) (k : Nat) : (M.sgTo V ss k).Pairwise (fun a b => a ≠ -b) := by
  rw [M.sgTo, List.pairwise_map]
  refine List.Pairwise.imp_of_mem ?_ List.pairwise_lt_range
  intro i j hi hj hij
  have h1 : ∀ n : Nat, (if n < k then M.sg ss n ((n : Int) + 1) else (n : Int) + 1) = (n : Int) + 1 ∨ (if n < k then M.sg ss n ((n : Int) + 1) else (n : Int) + 1) = -((n : Int) + 1) := by
    intro n; split
    · exact M.sg_cases ss n _
    · exact .inl rfl
  rcases h1 i with e | e <;> rcases h1 j with e' | e' <;> rw [e, e'] <;> omega
theorem M.count_snoc {L : List Int} {t : Nat} {z : Int} (h : L[t]? = some z) (m : List Bool) : M.count (L.take (t + 1)) m = M.count (L.take t) m + (if M.holds z m = true then 1 else 0) := by
  rw [List.take_add_one, h]; simp [M.count, List.countP_append, List.countP_cons]
theorem OwnI.cell {w : World} {base g c : Nat} {ys : List Int} (h : OwnI w base (some ⟨g, 0, none⟩) c ys) {i : Nat} {z : Int} (hz : ys[i]? = some z) : w.cell? ⟨g, i, none⟩ = some (.int .i64 z) := by
  rcases h.parts with ⟨e, _⟩ | ⟨g', cur, e, hb, hlt, hg, hn, hm, hs, ht⟩
  · cases e
  · cases e
    rw [cell_of_cells hg]
    have hi : i < ys.length := by
      rcases Nat.lt_or_ge i ys.length with h' | h'
      · exact h'
      · rw [List.getElem?_eq_none h'] at hz; cases hz
    have e1 : (cur.toList.take ys.length)[i]? = (ys.map (Value.int .i64))[i]? := by rw [ht]
    rw [List.getElem?_take, if_pos hi, List.getElem?_map, hz, Array.getElem?_toList] at e1
    exact e1
theorem Fm.set0 {w : World} {base p vars : Nat} {c : Nat} (h : Fm X w base p vars [] none c) (g i : Nat) (v : Value) (hg : g ≠ p) : Fm X (w.setCell ⟨g, i, none⟩ v) base p vars [] none c := by
  refine ⟨h.le, (Below.heap_setCell _ _ _ _ (fun e => hg e.symm)).trans h.blk, ⟨OffX.none X, [], ?_, fun j x hx => by simp at hx⟩, h.vars, h.len, h.xlt.mono (by simp [World.setCell]), h.xp⟩
  obtain ⟨_, vals, hr, _⟩ := h.own
  rcases hr.2 with ⟨e, hn⟩ | ⟨g, cap, cur, e, _⟩
  · exact ⟨rfl, .inl ⟨e, hn⟩⟩
  · injection e with e1; cases e1
theorem mod_val (x : Int) (n : Int) (hn : 1 ≤ n) (hn2 : n ≤ 100000) : ∃ V : Nat, wrap64 (1 + wrap64 ((IntKind.u64.wrap x).tmod n)) = (V : Int) ∧ 1 ≤ V ∧ (V : Int) ≤ n := by
  have h0 : 0 ≤ IntKind.u64.wrap x := by rw [IntKind.wrap_u64]; omega
  rw [Int.tmod_eq_emod_of_nonneg h0]
  have h1 := Int.emod_nonneg (IntKind.u64.wrap x) (by omega : n ≠ 0)
  have h2 := Int.emod_lt_of_pos (IntKind.u64.wrap x) (by omega : 0 < n)
  generalize IntKind.u64.wrap x % n = r at *
  rw [IntWalk.wrap64_in r ⟨by omega, by omega⟩, IntWalk.wrap64_in (1 + r) ⟨by omega, by omega⟩]
  exact ⟨(1 + r).toNat, by omega, by omega, by omega⟩
set_option maxHeartbeats 4000000 in
theorem onesLaw (x : Int) (b : Option Addr) (d : Nat) (ss : List Bool) (w : World) (hx : I64 x) (hs : Bools w b ss) :
    Calls Tryd.prog 4 #[.int .i64 x, .slice b ss.length d] w fun e w' => e = .returned (.bool true) ∧ Below w.heap.size w w' := by
  have hsl := hs.len
  have hx1 := hx.lo
  have hx2 := hx.hi
  have HX := Lib.hid hx
  clear hx
  go_enter Tryd.func4, Tryd.ntmps4
  go_wp2_with fail
  refine (alive15 w).mono ?_
  rintro e W0 ⟨rfl, hb0⟩
  have HB0 := Lib.hid hb0
  clear hb0
  obtain ⟨V, hV, hV1, hV8⟩ := mod_val x 8 (by omega) (by omega)
  have HV := Lib.hid hV
  clear hV
  go_wp2_with fail
  rw [HV.out]
  have HBS := Lib.hid hs
  clear hs HV HX hx1 hx2
  refine (new_any _).mono ?_
  rintro e W1 ⟨rfl, hW1⟩
  have hF1 : Fm NoX W1 w.heap.size W0.heap.size 0 [] none 0 := by rw [← hW1]; exact Fm.new W0 _ HB0.out.size (NoX.lt _)
  have hb1 : Below w.heap.size w W1 := by rw [← hW1]; exact below_alloc HB0.out _
  have HB1 := Lib.hid hb1
  have hne : W1.heap.size ≠ W0.heap.size := by rw [← hW1]; simp
  have hm := many_ok w.heap.size W0.heap.size 0 V [] none 0 W1 hF1 (by omega) (by omega) hb1.size
  have HM := Lib.hid hm
  clear hW1 hb1 hF1 hm
  go_wp2_with fail
  refine HM.out.mono ?_
  rintro e W2 ⟨rfl, hF2, hO2, hA2⟩
  have hge : w.heap.size ≤ W0.heap.size := HB0.out.size
  have hb2 : Below w.heap.size w W2 := HB1.out.trans (hA2.below hge HB1.out.size)
  rw [Nat.zero_add] at hF2
  have HF2 := Lib.hid hF2
  have HO2 := Lib.hid hO2
  have HB2 := Lib.hid hb2
  have hgW : w.heap.size ≤ W1.heap.size := HB1.out.size
  clear hF2 hO2 hA2 hb2 HM
  have hvb : (((V : Nat) : Int) != ((V : Nat) : Int)) = false := by simp
  go_wp2
  go_loopw [8, 39] (fun _ i wr => ∃ k : Nat, k ≤ V ∧ i = .int .i64 k ∧ Fm NoX wr w.heap.size W0.heap.size V [] none 0 ∧ OwnI wr w.heap.size (some ⟨W1.heap.size, 0, none⟩) V (M.sgTo V ss k) ∧ Below w.heap.size w wr) (fun _ i _ => V - (intOf i).toNat)
  case atStart => exact ⟨0, Nat.zero_le _, rfl, HF2.out, by rw [M.sgTo_zero]; exact HO2.out, HB2.out⟩
  case round =>
    obtain ⟨k, hk, rfl, hF, hO, hb⟩ := hrel
    have HF := Lib.hid hF
    have HO := Lib.hid hO
    have HB := Lib.hid hb
    clear hF hO hb
    by_cases hlt : k < V
    · have hcell := HO.out.cell (M.sgTo_get (k := k) (ss := ss) hlt)
      rw [if_neg (by omega)] at hcell
      have hfz := HO.out.frozen k
      have hsr := HBS.out.below HB.out
      by_cases hks : k < ss.length
      · obtain ⟨bb, off, rfl, hbl, hcl⟩ := hsr.addr (by omega)
        obtain ⟨y, hy⟩ : ∃ y, ss[k]? = some y := ⟨ss[k], by simp [hks]⟩
        have hcs := hcl k y hy
        have HY := Lib.hid hy
        clear hcl hy
        cases y
        · go_wp2
          go_roundw
          case rel => exact ⟨k + 1, by omega, by go_num, HF.out, by rw [← M.sgTo_keep (by rw [HY.out]; rfl)]; exact HO.out, HB.out⟩
          case measure => simp [intOf]; omega
        · go_wp2
          go_roundw
          case rel =>
            refine ⟨k + 1, by omega, by go_num, HF.out.set0 _ _ _ hne, ?_, HB.out.setCell hgW _⟩
            rw [← M.sgTo_neg hlt (by rw [HY.out]; rfl)]
            exact HO.out.stored k _
          case measure => simp [intOf]; omega
      · have hd : decide ((k : Int) < (ss.length : Int)) = false := by simp; omega
        go_wp2
        go_roundw
        case rel => exact ⟨k + 1, by omega, by go_num, HF.out, by rw [← M.sgTo_keep (by rw [List.getElem?_eq_none (by omega)]; rfl)]; exact HO.out, HB.out⟩
        case measure => simp [intOf]; omega
    · obtain rfl : k = V := by omega
      have hown := M.sgTo_own k ss k
      have hlits := M.own_isLit (vars := k) (by omega) hown
      have hI := HO.out.ints (fun z hz => I64.of_lit (hlits z hz)) (by rw [M.sgTo_length]; omega)
      have htg := HO.out.tag
      have hsgl := M.sgTo_length k ss k
      have h1 := one_ok w.heap.size W0.heap.size k [] none 0 (some ⟨W1.heap.size, 0, none⟩) k (M.sgTo k ss k) wr HF.out hI (by omega) (fun h => by cases h) hown (by omega) (by rw [hsgl]; simp; have : k * k ≤ 8 * 8 := Nat.mul_le_mul (by omega) (by omega); omega)
      rw [hsgl] at h1
      have hsem := fun m => M.oneC_true m (M.sgTo k ss k) hlits (M.sgTo_apart k ss k)
      rw [List.nil_append] at h1
      generalize M.oneC (M.sgTo k ss k) = cs at *
      generalize M.sgTo k ss k = L at *
      have H1 := Lib.hid h1
      have HSEM := Lib.hid hsem
      have HI := Lib.hid hI
      have HTG := Lib.hid htg
      have HSGL := Lib.hid hsgl
      clear h1 hsem hI htg hsgl hown hlits HO HF HF2 HO2
      go_wp2_with fail
      refine H1.out.mono ?_
      rintro e W3 ⟨rfl, a3, c3, hF3, hk3⟩
      have hI3 := hk3.ints HI.out HTG.out
      have hb3 : Below w.heap.size w W3 := HB.out.trans (hk3.below HB.out.size)
      have hcl := clauses_any _ _ _ _ a3 c3 W3 hF3 (NoX.lt W3)
      have HLEN := Lib.hid hF3.len
      have HCL := Lib.hid hcl
      have HI3 := Lib.hid hI3
      have HB3 := Lib.hid hb3
      clear hcl hI3 hb3 hF3 hk3 H1 HI HTG
      go_wp2_with fail
      refine HCL.out.mono ?_
      rintro e W4 ⟨rfl, hO4, hb4⟩
      have HB4 := Lib.hid (below_next HB3.out hb4)
      obtain ⟨N, hN⟩ : ∃ N, N = 2 ^ k := ⟨_, rfl⟩
      have hmod := models_any k N W4 (by omega) hN
      have HCLS := Lib.hid (hO4.cls HLEN.out)
      have HI4 := Lib.hid (HI3.out.1.below hb4)
      have HMOD := Lib.hid hmod
      have hNle : N ≤ 256 := by rw [hN]; exact Nat.le_trans (Nat.pow_le_pow_right (by omega) (show k ≤ 8 by omega)) (by decide)
      clear hO4 hb4 hmod hN HCL
      go_wp2_with fail
      refine HMOD.out.mono ?_
      rintro e W5 ⟨am, cm, rfl, hR5, hb5⟩
      have HB5 := Lib.hid (below_next HB4.out hb5)
      have HC5 := Lib.hid (HCLS.out.below hb5)
      have hI5 := HI4.out.below hb5
      have HI5 := Lib.hid hI5
      have HR5 := Lib.hid hR5
      have hcl5 := HC5.out.len
      clear hb5 hR5 HMOD hI5 HB0 HB1 HB2 HB HB3 HB4 HCLS HI3 HI4
      go_wp2
      go_loop [70] (fun i => ∃ j : Nat, j ≤ N ∧ i = .int .i64 j) (fun i => N - (intOf i).toNat)
      case atStart => exact ⟨0, Nat.zero_le _, rfl⟩
      case round =>
        obtain ⟨j, hj, rfl⟩ := hrel
        by_cases hjl : j < N
        · obtain ⟨m, hm⟩ : ∃ m, (M.models k N)[j]? = some m := ⟨_, List.getElem?_eq_getElem (by rw [M.models_length]; exact hjl)⟩
          have hml : m.length ≤ 140737488351232 := by
            have : m = M.model k j := by simpa [M.models, hjl] using hm.symm
            rw [this, M.model_length]; omega
          obtain ⟨g, a', c', rfl, hcm, hBm⟩ := HR5.out.cell hm
          have HBM := Lib.hid (hBm.bools hml)
          clear hm hBm hml
          go_wp2
          go_loop [12, 76] (fun n i => ∃ t : Nat, t ≤ k ∧ i = .int .i64 t ∧ n = .int .i64 (M.count (L.take t) m)) (fun _ i => k - (intOf i).toNat)
          case atStart => exact ⟨0, Nat.zero_le _, rfl, rfl⟩
          case round =>
            obtain ⟨t, ht, rfl, rfl⟩ := hrel
            have hct : M.count (L.take t) m ≤ t := by
              have h1 := List.countP_le_length (p := (M.holds · m)) (l := L.take t)
              have h2 := List.length_take_le t L
              unfold M.count; omega
            by_cases htl : t < k
            · obtain ⟨bb, off, e, hbl, hcl⟩ := HI5.out.addr (by rw [HSGL.out]; omega)
              cases e
              obtain ⟨z, hz⟩ : ∃ z, L[t]? = some z := ⟨_, List.getElem?_eq_getElem (by rw [HSGL.out]; exact htl)⟩
              have hcell := hcl t z hz
              rw [Nat.zero_add] at hcell
              have HZ := Lib.hid hz
              clear hcl hz
              cases hh : M.holds z m
              · go_wp2_with (go_at_call 25; refine (rholds_any _ _ _ _ _ HBM.out).mono ?_; rintro e w' ⟨rfl, rfl⟩)
                go_round
                case rel => exact ⟨t + 1, by omega, by go_num, by rw [M.count_snoc HZ.out, hh]; simp⟩
                case measure => simp [intOf]; omega
              · go_wp2_with (go_at_call 25; refine (rholds_any _ _ _ _ _ HBM.out).mono ?_; rintro e w' ⟨rfl, rfl⟩)
                go_round
                case rel => exact ⟨t + 1, by omega, by go_num, by rw [M.count_snoc HZ.out, hh]; simp⟩
                case measure => simp [intOf]; omega
            · have hfull : L.take t = L := List.take_of_length_le (by rw [HSGL.out]; omega)
              have hall := HSEM.out m
              rw [← hfull] at hall
              by_cases hc1 : M.count (L.take t) m ≤ 1
              · have hat : M.allTrue cs m = true := by rw [hall]; simpa using hc1
                have hd1 : decide ((M.count (L.take t) m : Int) ≤ 1) = true := by simp; omega
                clear hfull hall
                go_wp2_with (go_at_call 22; refine (rall_any _ _ _ _ _ _ _ HC5.out HBM.out).mono ?_; rintro e w' ⟨rfl, rfl⟩)
                go_round
                case rel => exact ⟨j + 1, by omega, by go_num⟩
                case measure => simp [intOf]; omega
              · have hat : M.allTrue cs m = false := by rw [hall]; simpa using hc1
                have hd1 : decide ((M.count (L.take t) m : Int) ≤ 1) = false := by simp; omega
                clear hfull hall
                go_wp2_with (go_at_call 22; refine (rall_any _ _ _ _ _ _ _ HC5.out HBM.out).mono ?_; rintro e w' ⟨rfl, rfl⟩)
                go_round
                case rel => exact ⟨j + 1, by omega, by go_num⟩
                case measure => simp [intOf]; omega
        · go_wp2
          go_ret
          exact ⟨rfl, HB5.out⟩
end Go.Proofs.YtdppmmimemmedaaDoor
