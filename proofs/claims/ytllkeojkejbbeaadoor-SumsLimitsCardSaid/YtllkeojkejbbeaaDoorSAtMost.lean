/- sums.AtMost(f, bits, 3) where all bits are literals of the formula. -/
import Derived.Test.YtllkeojkejbbeaaDoorSLim
namespace Go.Proofs.YtllkeojkejbbeaaDoor
open Go.RowKit Go.Shelf

theorem three_div {j : Nat} (h : 2 ≤ j) : (3 : Int) / 2 ^ j = 0 := by
  have h4 : (2 : Nat) ^ 2 ≤ 2 ^ j := Nat.pow_le_pow_right (by decide) h
  have e : ((2 : Int) ^ j) = ((2 ^ j : Nat) : Int) := by simp
  rw [e]
  generalize (2 ^ j : Nat) = q at h4
  exact Int.ediv_eq_zero_of_lt (by omega) (by omega)
theorem and_zero : bits BinOp.and IntKind.i64 0 1 = 0 := by decide
theorem and_three : bits BinOp.and IntKind.i64 3 1 = 1 := by decide
theorem and_one1 : bits BinOp.and IntKind.i64 1 1 = 1 := by decide
theorem low_bit {j : Nat} (h : j < 2) : ∃ q : Int, (3 : Int) / 2 ^ j = q ∧ bits BinOp.and IntKind.i64 q 1 = 1 := by
  match j, h with
  | 0, _ => exact ⟨3, by decide, and_three⟩
  | 1, _ => exact ⟨1, by decide, and_one1⟩
/-- between the rounds: m bits are left -/
structure AM (w0 : World) (base p V m : Nat) (s : Int) (av : Option Addr) (ac : Nat) (ys : List Int) (w : World) : Prop where
  below : Below base w0 w
  size : base ≤ w.heap.size
  own : OwnI w base av ac ys
  lit : ∀ y ∈ ys, I64 y
  len : ys.length + m ≤ 70
  fm : 3 ≤ m → ys = [s] ∧ ∃ cs a c, Fm NoX w base p V cs a c ∧ cs.length + m ≤ 70
set_option maxHeartbeats 4000000 in
set_option maxRecDepth 100000 in
theorem atmost_ok (base p V : Nat) (a : Option Addr) (c : Nat) (b : Option Addr) (d : Nat) (zs : List Int) (w : World) (hF : Fm NoX w base p V [] a c) (hb : base ≤ w.heap.size) (hV : V ≤ 100) (hz : Ints w b zs) (hzb : ∀ ad, eff b zs = some ad → ad.block < base) (hl : zs.length ≤ 62) (ho : M.own V zs = true) :
    Calls Tryd.prog 42 #[.pointer (some ⟨p, 0, none⟩), .slice b zs.length d, .int .i64 3] w fun e w' => ∃ s, e = .returned (.tuple #[s, .nilIface]) ∧ Below base w w' := by
  have hlen := hz.len
  have HLI := Lib.hid (literals_any p V b d zs w hF.cell0 (by omega) hz)
  rw [ho] at HLI
  have HVR := Lib.hid (var_ok base p V [] a c w hF (by omega))
  have HZ := Lib.hid hz
  have HZB := Lib.hid hzb
  have HOW := Lib.hid ho
  obtain ⟨n, hn⟩ : ∃ n, n = zs.length := ⟨_, rfl⟩
  have HN := Lib.hid hn
  rw [← hn] at HLI hl hlen ⊢
  clear hF hz hzb ho hn
  by_cases hn0 : n = 0
  · subst hn0
    go_enter Tryd.func42, Tryd.ntmps42
    go_wp2_with fail
    refine HLI.out.mono ?_
    rintro e w1 ⟨rfl, rfl⟩
    go_wp2_with fail
    refine HVR.out.mono ?_
    rintro e w2 ⟨rfl, _, hk⟩
    have HK := Lib.hid hk
    clear hk
    go_wp2
    go_ret2
    exact ⟨_, rfl, HK.out.below hb⟩
  · by_cases hn1 : n = 1
    · subst hn1
      go_enter Tryd.func42, Tryd.ntmps42
      go_wp2_with fail
      refine HLI.out.mono ?_
      rintro e w1 ⟨rfl, rfl⟩
      go_wp2_with fail
      refine HVR.out.mono ?_
      rintro e w2 ⟨rfl, _, hk⟩
      have HK := Lib.hid hk
      clear hk
      go_wp2
      go_ret2
      exact ⟨_, rfl, HK.out.below hb⟩
    · have hsh := three_div (j := n) (by omega)
      go_enter Tryd.func42, Tryd.ntmps42
      go_wp2_with fail
      refine HLI.out.mono ?_
      rintro e w1 ⟨rfl, rfl⟩
      go_wp2_with fail
      refine HVR.out.mono ?_
      rintro e w2 ⟨rfl, hF2, hk⟩
      have HK := Lib.hid (hk.below hb)
      have HF2 := Lib.hid hF2
      have hs2 := hk.size
      have hneg : wrap64 (-((V : Int) + 1)) = -((V : Int) + 1) := IntWalk.wrap64_in _ ⟨by omega, by omega⟩
      have hneg2 : IntKind.i64.wrap (-((V : Int) + 1)) = -((V : Int) + 1) := by rw [IntKind.wrap_i64]; omega
      clear hk hF2 HLI HVR
      go_wp2
      go_loopw [11, 12] (fun v i wr => ∃ (m : Nat) (av : Option Addr) (ac : Nat) (ys : List Int), m ≤ n ∧ i = .int .i64 ((m : Int) - 1) ∧ v = .slice av ys.length ac ∧ AM w base p (V + 1) m (-((V : Int) + 1)) av ac ys wr) (fun _ i _ => (intOf i + 1).toNat)
      case atStart =>
        refine ⟨n, _, 1, [-((V : Int) + 1)], Nat.le_refl _, rfl, rfl, (HK.out).alloc (Nat.le_trans hb hs2) _, by simp; omega, OwnI.one _ _ (Nat.le_trans hb hs2) _, fun y hy => by simp at hy; subst hy; exact ⟨by omega, by omega⟩, by simp; omega, fun _ => ⟨rfl, [], a, c, HF2.out.below ((Below.refl _ _).alloc (Nat.le_refl _) _), by simp; omega⟩⟩
      case round =>
        clear HK HF2 hs2 hsh hneg hneg2
        obtain ⟨m, av, ac, ys, hm, hi, rfl, hA⟩ := hrel
        have HA := Lib.hid hA
        clear hA
        cases m with
        | zero =>
          have e0 : (((0 : Nat) : Int) - 1) = -1 := by omega
          rw [e0] at hi
          subst hi
          clear e0
          go_wp2
          go_ret2
          exact ⟨_, rfl, HA.out.below⟩
        | succ j =>
          have e0 : (((j + 1 : Nat) : Int) - 1) = (j : Int) := by omega
          rw [e0] at hi
          subst hi
          have hIz : Ints wr b zs := HZ.out.sameE (Nat.le_trans (by have := HA.out.below.size; omega) (Nat.le_refl _)) (fun ad e => HA.out.below.block ad.block (HZB.out ad e))
          have hjz : j < zs.length := by rw [← HN.out]; omega
          obtain ⟨bb, off, rfl, hbl, hc⟩ := hIz.addr (by omega)
          obtain ⟨z, hzk⟩ : ∃ z, zs[j]? = some z := ⟨zs[j], by simp [hjz]⟩
          have hcell := hc j z hzk
          have hzo := (M.own_iff V zs).1 HOW.out z (List.mem_of_getElem? hzk)
          have hz1 : -100 ≤ z := by omega
          have hz2 : z ≤ 100 := by omega
          have hw1 : wrap64 (-z) = -z := IntWalk.wrap64_in _ ⟨by omega, by omega⟩
          have hw2 : IntKind.i64.wrap (-z) = -z := by rw [IntKind.wrap_i64]; omega
          have HZO := Lib.hid hzo
          have hjn : (j : Int) < (n : Int) := by omega
          have hys := HA.out.len
          have hsz := HA.out.size
          clear hIz hc hzk hzo e0
          by_cases hj2 : 2 ≤ j
          · have hsh := three_div hj2
            have haz := and_zero
            obtain ⟨rfl, cs, a3, c3, hF3, hcl⟩ := HA.out.fm (by omega)
            have HF3 := Lib.hid hF3
            clear hF3
            obtain ⟨wp, hwp⟩ : ∃ wp, wp = wr := ⟨_, rfl⟩
            subst hwp
            go_wp2_with (at_builtin; refine wpList_append_Ints rfl (.tmp 78) (.tmp 79) 30 rfl Tryd.underlying30 wp.heap.size _ 1 1 [-z] rfl rfl (OwnI.one wp _ (Nat.le_refl _) (-z)) av _ ac [-((V : Int) + 1)] rfl rfl ((HA.out.own.ints HA.out.lit (by simp)).alloc _) HA.out.own.cap.2 (by simp) (by simp) ?_; intro a5 c5 w5 hown5 hg5 hB5; have HO5 := Lib.hid hown5; have HB5 : Hid (Below wp.heap.size wp w5) := Lib.hid (((Below.refl _ _).alloc (Nat.le_refl _) _).trans hB5); clear hown5 hg5 hB5)
            have hF5 := HF3.out.below HB5.out
            have hI5 := HO5.out.ints (fun y hy => by simp at hy; rcases hy with rfl | rfl; exact ⟨by omega, by omega⟩; exact ⟨by omega, by omega⟩) (by simp)
            have hadd := add_ok base p (V + 1) cs a3 c3 a5 c5 ([-z] ++ [-((V : Int) + 1)]) w5 hF5 hI5 ((M.own_iff _ _).2 fun y hy => by have := HZO.out; simp at hy; rcases hy with rfl | rfl <;> omega) (by omega)
            have HAD := Lib.hid hadd
            clear hF5 hI5 hadd
            refine HAD.out.mono ?_
            rintro e w6 ⟨rfl, a7, c7, hF7, hk7⟩
            have hA7 : AM w base p (V + 1) j (-((V : Int) + 1)) av ac [-((V : Int) + 1)] w6 := by
              have hb5 : Below base w w5 := HA.out.below.trans (HB5.out.mono hsz)
              have hs5 := HB5.out.size
              refine ⟨hb5.trans (hk7.below (by omega)), by have := hk7.size; omega, ?_, HA.out.lit, by simp; omega, fun h3 => ⟨rfl, _, a7, c7, hF7, ?_⟩⟩
              · exact ((HA.out.own.below HB5.out)).kept fun g cur hlt hg => hk7.block g hlt (.inr (.inr ⟨cur, _, _, hg, by decide, by decide⟩))
              · have := M.addC_length cs ([-z] ++ [-((V : Int) + 1)]); omega
            have HA7 := Lib.hid hA7
            clear hF7 hk7 hA7 HAD
            go_wp2
            go_roundw
            case rel => exact ⟨j, av, ac, _, by omega, by go_num, rfl, HA7.out⟩
            case measure => first | (simp [intOf]; done) | (simp [intOf]; omega)
          · obtain ⟨q, hq1, hq2⟩ := low_bit (j := j) (by omega)
            obtain ⟨wp, hwp⟩ : ∃ wp, wp = wr := ⟨_, rfl⟩
            subst hwp
            go_wp2_with (at_builtin; refine wpList_append_Ints rfl (.tmp 64) (.tmp 70) 30 rfl Tryd.underlying30 base av _ ac ys rfl rfl (HA.out.own.alloc _) _ 1 1 [-z] rfl rfl (Ints.one wp (-z) ⟨by omega, by omega⟩ _) (fun h => by cases h) (by omega) (by simp; omega) ?_; intro a5 c5 w5 hown5 hg5 hB5; have HO5 := Lib.hid hown5; have HB5 := Lib.hid ((HA.out.below.alloc hsz _).trans hB5); have HS5 := Lib.hid hB5.size; clear hown5 hg5 hB5)
            have hA7 : AM w base p (V + 1) j (-((V : Int) + 1)) a5 c5 (ys ++ [-z]) w5 := by
              have h9 := HS5.out
              simp at h9
              refine ⟨HB5.out, by omega, HO5.out, fun y hy => ?_, by simp; omega, fun h => by omega⟩
              rcases List.mem_append.1 hy with h | h
              · exact HA.out.lit y h
              · simp at h; subst h; exact ⟨by omega, by omega⟩
            have HA7 := Lib.hid hA7
            clear hA7
            go_roundw
            case rel => exact ⟨j, a5, c5, _, by omega, by go_num, by simp, HA7.out⟩
            case measure => first | (simp [intOf]; done) | (simp [intOf]; omega)
end Go.Proofs.YtllkeojkejbbeaaDoor
