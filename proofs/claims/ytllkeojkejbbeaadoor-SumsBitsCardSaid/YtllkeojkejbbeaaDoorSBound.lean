/- sums.Bound: its sum and count by complex128. -/
import Derived.Test.YtllkeojkejbbeaaDoorOwn
import Derived.Test.YtllkeojkejbbeaaDoorSMath
import Derived.Test.YtllkeojkejbbeaaDoorFloat
import Derived.Laws.ComplexArith
import Derived.Deep.RegionLaw
namespace Go.Proofs.YtllkeojkejbbeaaDoor
open Go.RowKit

/-- a slice of weighted literals reads as ts -/
structure Wts (w : World) (a : Option Addr) (ts : List M.Wt) : Prop where
  addr : 0 < ts.length → ∃ b off, a = some ⟨b, off, none⟩ ∧ b < w.heap.size ∧ ∀ i t, ts[i]? = some t → w.cell? ⟨b, off + i * 2, none⟩ = some (.int .i64 t.1) ∧ w.cell? ⟨b, off + i * 2 + 1, none⟩ = some (.int .i64 t.2)
  wf : ∀ t ∈ ts, I64 t.1 ∧ I64 t.2
  len : ts.length ≤ 8796093022207
theorem Wts.below {w w' : World} {a : Option Addr} {ts : List M.Wt} (h : Wts w a ts) (hb : Below w.heap.size w w') : Wts w' a ts := by
  refine ⟨fun h0 => ?_, h.wf, h.len⟩
  obtain ⟨b, off, rfl, hlt, hc⟩ := h.addr h0
  exact ⟨b, off, rfl, Nat.lt_of_lt_of_le hlt hb.size, fun i t ht => ⟨(hb.cell (p := ⟨b, off + i * 2, none⟩) hlt).trans (hc i t ht).1, (hb.cell (p := ⟨b, off + i * 2 + 1, none⟩) hlt).trans (hc i t ht).2⟩⟩
/-- complex(float64(z), 1) added -/
theorem addW (t : TypeId) (s n : Nat) (z : Int) (h0 : 0 ≤ z) (hs : s + z.toNat < 2 ^ 53) (hn : n + 1 < 2 ^ 53) (w : World) :
    (binOp .add t (.complex .f64 (Fl.W s) (Fl.W n)) (.complex .f64 (floatOfInt .f64 z) 4607182418800017408)).run Tryd.prog w = .ok (.complex .f64 (Fl.W (s + z.toNat)) (Fl.W (n + 1))) w := by
  refine run_complex_sum w .add (.inl rfl) t .f64 _ _ _ _ _ _ ?_
  rw [Fl.ofInt_W z h0 (by omega), ← Fl.W_one]
  unfold cSumBits
  rw [Fl.addBits _ _ hs, Fl.addBits _ _ hn]
  rfl
theorem gtrW (n : Nat) (hn : n < 2 ^ 53) (h : n ≤ 2 ^ 40) (t : TypeId) : binOp .gtr t (.float .f64 (Fl.W n)) (.float .f64 4787326403894837248) = pure (.bool false) := by
  rw [binOp_float_cmp_gtr, ← Fl.W_max, Fl.orderBits _ _ hn (by omega)]
  have : (compare n (2 ^ 40) == Ordering.gt) = false := by
    rcases Nat.lt_or_ge n (2 ^ 40) with h' | h'
    · rw [Nat.compare_eq_lt.2 h']; rfl
    · rw [Nat.compare_eq_eq.2 (by omega)]; rfl
  show pure (Value.bool (compare n (2 ^ 40) == Ordering.gt)) = _
  rw [this]
theorem intW (s : TypeId) (n : Nat) (hs : (Tryd.prog.underlying s).isSome = true) (hn : n < 2 ^ 53) (w : World) :
    (convert s 3 (.float .f64 (Fl.W n))).run Tryd.prog w = .ok (.int .i64 n) w :=
  run_convert_float_int w s 3 .f64 .i64 _ _ hs Tryd.underlying3 (Fl.toIntBits n hn)
set_option maxHeartbeats 1000000 in
theorem bound_ok (a : Option Addr) (c : Nat) (ts : List M.Wt) (w : World) (hz : Wts w a ts) (hok : ts.all M.wOk = true) (hl : ts.length ≤ 1000) :
    Calls Tryd.prog 37 #[.slice a ts.length c] w fun e w' => e = .returned (.tuple #[.int .i64 (M.wSum ts), .int .i64 (M.wCnt ts), .nilIface]) ∧ Below w.heap.size w w' := by
  have hsum := M.sum_le hok
  have hcnt := M.cnt_le ts
  go_enter Tryd.func37, Tryd.ntmps37
  go_wp2
  go_loopw [5, 7, 10] (fun b _ i wr => ∃ k : Nat, k ≤ ts.length ∧ i = .int .i64 k ∧ b = .complex .f64 (Fl.W (M.wSum (ts.take k))) (Fl.W (M.wCnt (ts.take k))) ∧ Below w.heap.size w wr) (fun _ _ i _ => ts.length - (intOf i).toNat)
  case atStart => exact ⟨0, Nat.zero_le _, rfl, rfl, Below.refl _ _⟩
  case round =>
    obtain ⟨k, hk, rfl, rfl, hb⟩ := hrel
    have HB := Lib.hid hb
    clear hb
    by_cases hlt : k < ts.length
    · obtain ⟨b, off, rfl, hbl, hc⟩ := (hz.below HB.out).addr (by omega)
      obtain ⟨t, htk⟩ : ∃ t, ts[k]? = some t := ⟨ts[k], by simp [hlt]⟩
      obtain ⟨hc0, hc1⟩ := hc k t htk
      obtain ⟨ht0, ht1⟩ := (M.wOk_iff t).1 (List.all_eq_true.1 hok t (List.mem_of_getElem? htk))
      have hs1 := M.wSum_snoc htk
      have hn1 := M.wCnt_snoc htk
      have hle1 : M.wSum (ts.take k) ≤ k * 1048576 := by
        have := M.sum_le (ts := ts.take k) (by rw [List.all_eq_true] at hok ⊢; exact fun x hx => hok x (List.mem_of_mem_take hx))
        rw [List.length_take, Nat.min_eq_left hk] at this; exact this
      have hle2 : M.wCnt (ts.take k) ≤ k := by
        have := M.cnt_le (ts.take k)
        rw [List.length_take, Nat.min_eq_left hk] at this; exact this
      clear hc
      by_cases hp : 0 < t.2
      · have hadd := fun w' => addW 106 (M.wSum (ts.take k)) (M.wCnt (ts.take k)) t.2 ht0 (by omega) (by omega) w'
        rw [if_pos hp] at hn1
        go_wp2
        go_roundw
        case rel => exact ⟨k + 1, by omega, by go_num, by rw [hs1, hn1], HB.out.alloc HB.out.size _⟩
        case measure => simp [intOf]; omega
      · rw [if_neg hp, Nat.add_zero] at hn1
        have : t.2.toNat = 0 := by omega
        rw [this, Nat.add_zero] at hs1
        go_wp2
        go_roundw
        case rel => exact ⟨k + 1, by omega, by go_num, by rw [hs1, hn1]; rfl, HB.out.alloc HB.out.size _⟩
        case measure => simp [intOf]; omega
    · obtain rfl : k = ts.length := by omega
      rw [List.take_length]
      have hg := gtrW (M.wSum ts) (by omega) (by omega) 107
      have hi := fun w' => intW 107 (M.wSum ts) (by kernel_rfl) (by omega) w'
      have hj := fun w' => intW 107 (M.wCnt ts) (by kernel_rfl) (by omega) w'
      go_wp2
      go_ret3
      exact ⟨rfl, HB.out⟩
theorem M.all_take {p : M.Wt → Bool} {ts : List M.Wt} (k : Nat) (h : ts.all p = true) : (ts.take k).all p = true := by
  rw [List.all_eq_true] at h ⊢; exact fun x hx => h x (List.mem_of_mem_take hx)
theorem M.all_snoc {p : M.Wt → Bool} {ts : List M.Wt} {k : Nat} {t : M.Wt} (h : ts[k]? = some t) (h1 : (ts.take k).all p = true) (h2 : p t = true) : (ts.take (k + 1)).all p = true := by
  rw [List.take_add_one, h, List.all_append, h1]; simp [h2]
theorem M.all_stop {p : M.Wt → Bool} {ts : List M.Wt} {k : Nat} {t : M.Wt} (h : ts[k]? = some t) (h2 : p t = false) : ts.all p = false := by
  rw [← Bool.not_eq_true, List.all_eq_true]; intro h'; have := h' t (List.mem_of_getElem? h); rw [h2] at this; cases this
set_option maxHeartbeats 1000000 in
theorem bound_bad (a : Option Addr) (c : Nat) (ts : List M.Wt) (v : Value) (w : World) (hz : Wts w a ts) (hbad : ts.all M.wOk = false) (hl : ts.length ≤ 1000) (hg : w.cell? ⟨9, 0, none⟩ = some v) :
    Calls Tryd.prog 37 #[.slice a ts.length c] w fun e w' => e = .returned (.tuple #[.int .i64 0, .int .i64 0, v]) ∧ Below w.heap.size w w' := by
  have hglt : 9 < w.heap.size := World.block_lt_of_cell? w _ hg
  go_enter Tryd.func37, Tryd.ntmps37
  go_wp2
  go_loopw [5, 7, 10] (fun b _ i wr => ∃ k : Nat, k ≤ ts.length ∧ i = .int .i64 k ∧ b = .complex .f64 (Fl.W (M.wSum (ts.take k))) (Fl.W (M.wCnt (ts.take k))) ∧ (ts.take k).all M.wOk = true ∧ Below w.heap.size w wr) (fun _ _ i _ => ts.length - (intOf i).toNat)
  case atStart => exact ⟨0, Nat.zero_le _, rfl, rfl, rfl, Below.refl _ _⟩
  case round =>
    obtain ⟨k, hk, rfl, rfl, hok, hb⟩ := hrel
    have HB := Lib.hid hb
    have hg' : wr.cell? ⟨9, 0, none⟩ = some v := (hb.cell (p := ⟨9, 0, none⟩) hglt).trans hg
    have hgl2 : 9 < wr.heap.size := Nat.lt_of_lt_of_le hglt hb.size
    clear hb
    by_cases hlt : k < ts.length
    · obtain ⟨b, off, rfl, hbl, hc⟩ := (hz.below HB.out).addr (by omega)
      obtain ⟨t, htk⟩ : ∃ t, ts[k]? = some t := ⟨ts[k], by simp [hlt]⟩
      obtain ⟨hc0, hc1⟩ := hc k t htk
      have hs1 := M.wSum_snoc htk
      have hn1 := M.wCnt_snoc htk
      have hle1 : M.wSum (ts.take k) ≤ k * 1048576 := by
        have := M.sum_le hok
        rw [List.length_take, Nat.min_eq_left hk] at this; exact this
      have hle2 : M.wCnt (ts.take k) ≤ k := by
        have := M.cnt_le (ts.take k)
        rw [List.length_take, Nat.min_eq_left hk] at this; exact this
      have HOK := Lib.hid hok
      have HTK := Lib.hid htk
      clear hc hg hok htk
      by_cases hw : M.wOk t = true
      · obtain ⟨ht0, ht1⟩ := (M.wOk_iff t).1 hw
        have HW := Lib.hid hw
        clear hg' hw
        by_cases hp : 0 < t.2
        · have hadd := fun w' => addW 106 (M.wSum (ts.take k)) (M.wCnt (ts.take k)) t.2 ht0 (by omega) (by omega) w'
          rw [if_pos hp] at hn1
          go_wp2
          go_roundw
          case rel => exact ⟨k + 1, by omega, by go_num, by rw [hs1, hn1], M.all_snoc HTK.out HOK.out HW.out, HB.out.alloc HB.out.size _⟩
          case measure => simp [intOf]; omega
        · rw [if_neg hp, Nat.add_zero] at hn1
          have : t.2.toNat = 0 := by omega
          rw [this, Nat.add_zero] at hs1
          go_wp2
          go_roundw
          case rel => exact ⟨k + 1, by omega, by go_num, by rw [hs1, hn1]; rfl, M.all_snoc HTK.out HOK.out HW.out, HB.out.alloc HB.out.size _⟩
          case measure => simp [intOf]; omega
      · have hw2 : t.2 < 0 ∨ 1048576 < t.2 := by
          have := mt (M.wOk_iff t).2 hw
          omega
        clear hw hs1 hn1 hle1 hle2
        rcases hw2 with hw2 | hw2
        · go_wp2
          go_quiet (fail)
          go_wp2
          go_ret3
          exact ⟨rfl, (HB.out.alloc HB.out.size _).trans ⟨rfl, rfl, rfl, Nat.le_refl _, fun _ _ => rfl⟩⟩
        · by_cases hneg : t.2 < 0
          · omega
          · go_wp2
            go_quiet (fail)
            go_wp2
            go_ret3
            exact ⟨rfl, (HB.out.alloc HB.out.size _).trans ⟨rfl, rfl, rfl, Nat.le_refl _, fun _ _ => rfl⟩⟩
    · obtain rfl : k = ts.length := by omega
      rw [List.take_length, hbad] at hok
      cases hok
set_option maxHeartbeats 1000000 in
/-- sums.Value -/
theorem value_any (a : Option Addr) (c : Nat) (ts : List M.Wt) (b : Option Addr) (d : Nat) (m : List Bool) (w : World) (hz : Wts w a ts) (hm : Bools w b m) (hok : ts.all M.wOk = true) (hl : ts.length ≤ 1000) :
    Calls Tryd.prog 38 #[.slice a ts.length c, .slice b m.length d] w fun e w' => e = .returned (.int .i64 (M.wVal ts m)) ∧ Below w.heap.size w w' := by
  go_enter Tryd.func38, Tryd.ntmps38
  go_wp2
  go_loopw [5, 7, 10] (fun s _ i wr => ∃ k : Nat, k ≤ ts.length ∧ i = .int .i64 k ∧ s = .int .i64 (M.wVal (ts.take k) m) ∧ Below w.heap.size w wr) (fun _ _ i _ => ts.length - (intOf i).toNat)
  case atStart => exact ⟨0, Nat.zero_le _, rfl, rfl, Below.refl _ _⟩
  case round =>
    obtain ⟨k, hk, rfl, rfl, hb⟩ := hrel
    have HB := Lib.hid hb
    clear hb
    by_cases hlt : k < ts.length
    · obtain ⟨b1, off, rfl, hbl, hc⟩ := (hz.below HB.out).addr (by omega)
      obtain ⟨t, htk⟩ : ∃ t, ts[k]? = some t := ⟨ts[k], by simp [hlt]⟩
      obtain ⟨hc0, hc1⟩ := hc k t htk
      obtain ⟨ht0, ht1⟩ := (M.wOk_iff t).1 (List.all_eq_true.1 hok t (List.mem_of_getElem? htk))
      have hv1 := M.wVal_snoc m htk
      have hle : M.wVal (ts.take k) m ≤ k * 1048576 := by
        have h1 := M.sum_le (M.all_take k hok)
        have h2 := M.val_le (ts.take k) m
        rw [List.length_take, Nat.min_eq_left hk] at h1; omega
      have ht := true_any (some ⟨wr.heap.size + 1, 0, none⟩) 1 [t.1] b d m ((wr.alloc (.cells #[.int .i64 t.1, .int .i64 t.2] 57)).alloc (.cells #[.int .i64 t.1] 3))
        (by have := Ints.one (wr.alloc (.cells #[.int .i64 t.1, .int .i64 t.2] 57)) t.1 (hz.wf t (List.mem_of_getElem? htk)).1 3; simpa using this)
        ((hm.below HB.out).below (((Below.refl _ _).alloc (Nat.le_refl _) _).alloc (by simp) _))
      have e1 : M.tru [t.1] m = M.holds t.1 m := by simp [M.tru]
      rw [e1] at ht
      have HT := Lib.hid ht
      clear hc ht
      cases hh : M.holds t.1 m
      · rw [hh, if_neg (by simp), Nat.add_zero] at hv1
        rw [hh] at HT
        go_wp2_with (go_at_call 64; refine HT.out.mono ?_; rintro e w' ⟨rfl, rfl⟩)
        go_roundw
        case rel => exact ⟨k + 1, by omega, by go_num, by rw [hv1]; rfl, (HB.out.alloc HB.out.size _).alloc (by have := HB.out.size; simp; omega) _⟩
        case measure => simp [intOf]; omega
      · rw [hh, if_pos rfl] at hv1
        rw [hh] at HT
        go_wp2_with (go_at_call 64; refine HT.out.mono ?_; rintro e w' ⟨rfl, rfl⟩)
        go_roundw
        case rel => exact ⟨k + 1, by omega, by go_num, by rw [hv1]; go_num, (HB.out.alloc HB.out.size _).alloc (by have := HB.out.size; simp; omega) _⟩
        case measure => simp [intOf]; omega
    · obtain rfl : k = ts.length := by omega
      rw [List.take_length]
      go_wp2
      go_ret
      exact ⟨rfl, HB.out⟩
end Go.Proofs.YtllkeojkejbbeaaDoor
