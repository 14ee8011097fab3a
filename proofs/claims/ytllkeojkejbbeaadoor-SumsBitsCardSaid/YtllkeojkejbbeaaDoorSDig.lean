/- sums.Digits, sums.Number, haversackref16.Digits. -/
import Derived.Test.YtllkeojkejbbeaaDoorSBound
import Derived.Test.YtllkeojkejbbeaaDoorBoolsA
import Derived.Lib.RabinKarpLaws
namespace Go.Proofs.YtllkeojkejbbeaaDoor
open Go.RowKit

theorem and_bit (k : Nat) (hk : k ≤ 9223372036854775807) : (bits BinOp.and IntKind.i64 (k : Int) 1 == 1) = decide (k % 2 = 1) := by
  rw [Go.Proofs.and_one _ (by omega), Bool.eq_iff_iff]
  simp only [beq_iff_eq, decide_eq_true_eq]
  omega
/-- a new list of bools -/
def NewB (w : World) (ys : List Bool) (e : Ending) (w' : World) : Prop :=
  ∃ a' c', e = .returned (.slice a' ys.length c') ∧ OwnB w' w.heap.size a' c' ys ∧ Below w.heap.size w w'
theorem bcell1 (w : World) (z : Bool) (t : TypeId) : Bools (w.alloc (.cells #[.bool z] t)) (some ⟨w.heap.size, 0, none⟩) [z] := by
  refine ⟨fun _ => ⟨_, 0, rfl, by simp, fun i u hu => ?_⟩, by simp⟩
  match i, hu with
  | 0, hu => simp at hu; subst hu; simp
theorem M.dig_step {z : Int} (h : 0 < z) (done : List Bool) {n : Int} (hd : done ++ M.dig z.toNat = M.dig n.toNat) : (done ++ [decide (z.toNat % 2 = 1)]) ++ M.dig (z / 2).toNat = M.dig n.toNat := by
  rw [← hd, M.dig_pos (n := z.toNat) (by omega), List.append_assoc, List.singleton_append]
  have : (z / 2).toNat = z.toNat / 2 := by omega
  rw [this]
theorem M.dig_room {z n : Int} {done : List Bool} (hn : n ≤ 9223372036854775807) (hd : done ++ M.dig z.toNat = M.dig n.toNat) : done.length ≤ 63 := by
  have h1 := congrArg List.length hd
  have h2 := M.dig_len (n := n.toNat) (k := 63) (by omega)
  rw [List.length_append] at h1
  omega
set_option maxHeartbeats 1000000 in
theorem digits_any (n : Int) (w : World) (hn : I64 n) : Calls Tryd.prog 34 #[.int .i64 n] w (NewB w (M.dig n.toNat)) := by
  have hn1 := hn.lo
  have hn2 := hn.hi
  go_enter Tryd.func34, Tryd.ntmps34
  go_wp2
  go_loopw [0, 3] (fun v0 v3 wr => ∃ (z : Int) (done : List Bool) (a : Option Addr) (c : Nat), v0 = .int .i64 z ∧ z ≤ n ∧ I64 z ∧ v3 = .slice a done.length c ∧ OwnB wr w.heap.size a c done ∧ done ++ M.dig z.toNat = M.dig n.toNat ∧ Below w.heap.size w wr) (fun v0 _ _ => (intOf v0).toNat)
  case atStart => exact ⟨n, [], none, 0, rfl, Int.le_refl _, hn, rfl, World.ownsRow_nil _ _ _ _, rfl, Below.refl _ _⟩
  case round =>
    obtain ⟨z, done, a, c, rfl, hz, hi, rfl, ho, hd, hb⟩ := hrel
    have HB := Lib.hid hb
    have HO := Lib.hid ho
    have HD := Lib.hid hd
    have hz1 := hi.lo
    have hz2 := hi.hi
    have hroom := M.dig_room hn2 hd
    clear hb ho hd hi
    by_cases hp : 0 < z
    · have ha : (bits BinOp.and IntKind.i64 z 1 == 1) = decide (z.toNat % 2 = 1) := by
        have := and_bit z.toNat (by omega)
        rwa [Int.toNat_of_nonneg (by omega)] at this
      go_wp2_with (at_builtin; refine wpList_append_Bools rfl (.tmp 8) (.tmp 12) rfl w.heap.size a _ c done rfl rfl (HO.out.alloc _) _ 1 1 [decide (z.toNat % 2 = 1)] rfl rfl (bcell1 wr _ _) (by omega) (put_size1 HB.out) ?_; intro a2 c2 w2 hown2 hB2; have HB2 := Lib.hid (put_below2 HB.out hB2); have HO2 := Lib.hid hown2; clear hown2 hB2)
      go_roundw
      case rel =>
        exact ⟨z / 2, done ++ [decide (z.toNat % 2 = 1)], a2, c2, by go_num, by omega, ⟨by omega, by omega⟩, by simp, HO2.out, M.dig_step hp done HD.out, HB2.out⟩
      case measure => simp [intOf]; omega
    · have e0 : z.toNat = 0 := by omega
      have hd := HD.out
      rw [e0, M.dig_zero, List.append_nil] at hd
      subst hd
      go_wp2
      go_ret
      exact ⟨a, c, rfl, HO.out, HB.out⟩
set_option maxHeartbeats 1000000 in
theorem rdigits_any (n : Int) (w : World) (hn : I64 n) : Calls Tryd.prog 35 #[.int .i64 n] w (NewB w (M.dig n.toNat)) := by
  have hn1 := hn.lo
  have hn2 := hn.hi
  go_enter Tryd.func35, Tryd.ntmps35
  go_wp2
  go_loopw [0, 3] (fun v0 v3 wr => ∃ (z : Int) (done : List Bool) (a : Option Addr) (c : Nat), v0 = .int .i64 z ∧ z ≤ n ∧ I64 z ∧ v3 = .slice a done.length c ∧ OwnB wr w.heap.size a c done ∧ done ++ M.dig z.toNat = M.dig n.toNat ∧ Below w.heap.size w wr) (fun v0 _ _ => (intOf v0).toNat)
  case atStart => exact ⟨n, [], _, 0, rfl, Int.le_refl _, hn, rfl, OwnB.made0 _ _ (Nat.le_refl _), rfl, (Below.refl _ _).alloc (Nat.le_refl _) _⟩
  case round =>
    obtain ⟨z, done, a, c, rfl, hz, hi, rfl, ho, hd, hb⟩ := hrel
    have HB := Lib.hid hb
    have HO := Lib.hid ho
    have HD := Lib.hid hd
    have hz1 := hi.lo
    have hz2 := hi.hi
    have hroom := M.dig_room hn2 hd
    clear hb ho hd hi
    by_cases hp : 0 < z
    · go_wp2_with (at_builtin; refine wpList_append_Bools rfl (.tmp 7) (.tmp 11) rfl w.heap.size a _ c done rfl rfl (HO.out.alloc _) _ 1 1 [z % 2 == 1] rfl rfl (bcell1 wr _ _) (by omega) (put_size1 HB.out) ?_; intro a2 c2 w2 hown2 hB2; have HB2 := Lib.hid (put_below2 HB.out hB2); have HO2 := Lib.hid hown2; clear hown2 hB2)
      go_roundw
      case rel =>
        have HO3 := HO2.out
        have ha : (z % 2 == 1) = decide (z.toNat % 2 = 1) := by
          rw [Bool.eq_iff_iff, beq_iff_eq, decide_eq_true_iff]; omega
        rw [ha] at HO3
        exact ⟨z / 2, done ++ [decide (z.toNat % 2 = 1)], a2, c2, by go_num, by omega, ⟨by omega, by omega⟩, by simp, HO3, M.dig_step hp done HD.out, HB2.out⟩
      case measure => simp [intOf]; omega
    · have e0 : z.toNat = 0 := by omega
      have hd := HD.out
      rw [e0, M.dig_zero, List.append_nil] at hd
      subst hd
      go_wp2
      go_ret
      exact ⟨a, c, rfl, HO.out, HB.out⟩
theorem pow_small {k : Nat} (h : k < 62) : (2 : Nat) ^ k ≤ 2305843009213693952 := Nat.pow_le_pow_right (by omega) (show k ≤ 61 by omega)
theorem ofInt_nat (i : Nat) (h : i < 9223372036854775808) : (BitVec.ofInt 64 (i : Int)).toNat = i := by
  rw [BitVec.toNat_ofInt]; omega
theorem or_pow {n k : Nat} (hk : k < 62) (hn : n < 2 ^ k) : bits .or .i64 (n : Int) ((2 : Int) ^ k) = ((n + 2 ^ k : Nat) : Int) := by
  have hp := pow_small hk
  have e : ((2 : Int) ^ k) = ((2 ^ k : Nat) : Int) := by simp
  rw [e]
  show IntKind.i64.wrap ((BitVec.ofInt 64 (n : Int) ||| BitVec.ofInt 64 ((2 ^ k : Nat) : Int)).toNat : Int) = _
  rw [BitVec.toNat_or, ofInt_nat n (by omega), ofInt_nat (2 ^ k) (by omega)]
  have h2 : n ||| 2 ^ k = n + 2 ^ k := by
    have := Nat.two_pow_add_eq_or_of_lt hn 1
    rw [Nat.mul_one] at this
    rw [Nat.or_comm, ← this, Nat.add_comm]
  rw [h2, IntKind.wrap_i64]
  omega
set_option maxHeartbeats 1000000 in
/-- sums.Number -/
theorem number_any (a : Option Addr) (c : Nat) (ds : List Bool) (w : World) (hz : Bools w a ds) :
    Calls Tryd.prog 36 #[.slice a ds.length c] w fun e w' => e = .returned (.int .i64 (if ds.length ≤ 62 then (M.num ds : Int) else 0)) ∧ w = w' := by
  have hlen := hz.len
  by_cases hl : ds.length ≤ 62
  · rw [if_pos hl]
    go_enter Tryd.func36, Tryd.ntmps36
    go_wp2
    go_loop [3, 4, 5, 11] (fun v _ _ i => ∃ k : Nat, k ≤ ds.length ∧ i = .int .i64 k ∧ v = .int .i64 (M.num (ds.take k))) (fun _ _ _ i => ds.length - (intOf i).toNat)
    case atStart => exact ⟨0, Nat.zero_le _, rfl, rfl⟩
    case round =>
      obtain ⟨k, hk, rfl, rfl⟩ := hrel
      by_cases hlt : k < ds.length
      · obtain ⟨b, off, rfl, hbl, hc⟩ := hz.addr (by omega)
        obtain ⟨z, hzk⟩ : ∃ z, ds[k]? = some z := ⟨ds[k], by simp [hlt]⟩
        have hcell := hc k z hzk
        have hn := M.num_snoc hzk
        have hnl : M.num (ds.take k) < 2 ^ k := by
          have := M.num_lt (ds.take k)
          rwa [List.length_take, Nat.min_eq_left hk] at this
        have hp := pow_small (k := k) (by omega)
        have hor := or_pow (k := k) (by omega) hnl
        have hw : wrap64 ((2 : Int) ^ k) = (2 : Int) ^ k := by
          have e : ((2 : Int) ^ k) = ((2 ^ k : Nat) : Int) := by simp
          rw [e]; exact IntWalk.wrap64_in _ ⟨by omega, by omega⟩
        clear hc hzk
        cases z
        · go_wp2
          go_round
          case rel => exact ⟨k + 1, by omega, by go_num, by rw [hn]; rfl⟩
          case measure => simp [intOf]; omega
        · go_wp2
          go_round
          case rel => exact ⟨k + 1, by omega, by go_num, by rw [hn, if_pos rfl]; simp⟩
          case measure => simp [intOf]; omega
      · obtain rfl : k = ds.length := by omega
        rw [List.take_length]
        go_wp2
        go_ret
        exact ⟨rfl, rfl⟩
  · rw [if_neg hl]
    go_enter Tryd.func36, Tryd.ntmps36
    go_wp2
    go_ret
    exact ⟨rfl, rfl⟩
end Go.Proofs.YtllkeojkejbbeaaDoor
