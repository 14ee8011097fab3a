/- lits.Vars; slices.Contains; haversacknum.Ints, KeptInts. -/
import Derived.Test.YtdppmmimemmedaaDoorRef14
namespace Go.Proofs.YtdppmmimemmedaaDoor
open Go.RowKit

/-- the greatest variable of a clause, from g on -/
def M.varsC (g : Int) (c : List Int) : Int := c.foldl (fun g l => if M.isLit l then max g (M.vr l) else g) g
theorem M.vars_take {cs : List (List Int)} {k : Nat} {c : List Int} (h : cs[k]? = some c) : M.vars (cs.take (k + 1)) = M.varsC (M.vars (cs.take k)) c := by
  unfold M.vars M.varsC
  rw [List.take_add_one, h]
  simp [List.foldl_append]
theorem M.varsC_snoc {g : Int} {c : List Int} {k : Nat} {z : Int} (h : c[k]? = some z) : M.varsC g (c.take (k + 1)) = if M.isLit z then max (M.varsC g (c.take k)) (M.vr z) else M.varsC g (c.take k) := by
  unfold M.varsC
  rw [List.take_add_one, h]
  simp [List.foldl_append]
theorem M.varsC_bd {g : Int} (h : 0 ≤ g ∧ g ≤ 20000) (c : List Int) : 0 ≤ M.varsC g c ∧ M.varsC g c ≤ 20000 := by
  unfold M.varsC
  induction c generalizing g with
  | nil => exact h
  | cons z c ih =>
    rw [List.foldl_cons]
    refine ih ?_
    split
    · rename_i hl
      have h1 := (M.isLit_iff z).1 hl
      have h2 : M.vr z ≤ 20000 := by
        by_cases hn : z < 0
        · rw [M.vr_of_neg hn]; omega
        · rw [M.vr_of_pos hn]; omega
      have h3 := M.vr_nonneg z
      omega
    · exact h
theorem M.vars_bd (cs : List (List Int)) : 0 ≤ M.vars cs ∧ M.vars cs ≤ 20000 := by
  have : ∀ (cs : List (List Int)) (g : Int), 0 ≤ g ∧ g ≤ 20000 → 0 ≤ cs.foldl M.varsC g ∧ cs.foldl M.varsC g ≤ 20000 := by
    intro cs
    induction cs with
    | nil => intro g h; exact h
    | cons c cs ih => intro g h; exact ih _ (M.varsC_bd h c)
  exact this cs 0 (by omega)
set_option maxHeartbeats 1000000 in
theorem lvars_any (a : Option Addr) (c : Nat) (cs : List (List Int)) (w : World) (hz : Cls w a cs) :
    Calls Tryd.prog 40 #[.slice a cs.length c] w fun e w' => e = .returned (.int .i64 (M.vars cs)) ∧ w = w' := by
  have hlen := hz.len
  go_enter Tryd.func40, Tryd.ntmps40
  go_wp2
  go_loop [3, 5, 7, 10] (fun g _ _ i => ∃ k : Nat, k ≤ cs.length ∧ i = .int .i64 k ∧ g = .int .i64 (M.vars (cs.take k))) (fun _ _ _ i => cs.length - (intOf i).toNat)
  case atStart => exact ⟨0, Nat.zero_le _, rfl, rfl⟩
  case round =>
    obtain ⟨k, hk, rfl, rfl⟩ := hrel
    by_cases hlt : k < cs.length
    · obtain ⟨b, off, rfl, hbl, hc⟩ := hz.addr (by omega)
      obtain ⟨x, hxk⟩ : ∃ x, cs[k]? = some x := ⟨cs[k], by simp [hlt]⟩
      obtain ⟨a', c', hcell, hin⟩ := hc k x hxk
      have hxl := hin.len
      have HX := Lib.hid hxk
      have hbd := M.vars_bd (cs.take k)
      have HBD := Lib.hid hbd
      clear hc hxk hbd
      go_wp2
      go_loop [3, 7, 16] (fun g _ i => ∃ t : Nat, t ≤ x.length ∧ i = .int .i64 t ∧ g = .int .i64 (M.varsC (M.vars (cs.take k)) (x.take t))) (fun _ _ i => x.length - (intOf i).toNat)
      case atStart => exact ⟨0, Nat.zero_le _, rfl, rfl⟩
      case round =>
        obtain ⟨t, ht, rfl, rfl⟩ := hrel
        by_cases htl : t < x.length
        · obtain ⟨b2, off2, rfl, hbl2, hc2⟩ := hin.addr (by omega)
          obtain ⟨z, hzt⟩ : ∃ z, x[t]? = some z := ⟨x[t], by simp [htl]⟩
          have hcell2 := hc2 t z hzt
          have HZ := Lib.hid hzt
          have hb2 := M.varsC_bd HBD.out (x.take t)
          have hb3 := hb2.1
          have hb4 := hb2.2
          clear hc2 hzt hb2
          cases hl : M.isLit z
          · go_wp2_with (go_at_call 64; refine (literal_any _ _).mono ?_; rintro e w' ⟨rfl, rfl⟩)
            go_round
            case rel => exact ⟨t + 1, by omega, by go_num, by rw [M.varsC_snoc HZ.out, hl]; rfl⟩
            case measure => simp [intOf]; omega
          · obtain ⟨v, hv⟩ := M.vr_succ hl
            have HV := Lib.hid hv
            clear hv
            by_cases hle : M.varsC (M.vars (cs.take k)) (x.take t) ≤ (v : Int) + 1
            · go_wp2_with (first | (go_at_call 64; refine (literal_any _ _).mono ?_; rintro e w' ⟨rfl, rfl⟩) | (go_at_call 77; refine (variable_any _ _ hl v HV.out).mono ?_; rintro e w' ⟨rfl, rfl⟩))
              go_round
              case rel =>
                refine ⟨t + 1, by omega, by go_num, ?_⟩
                rw [M.varsC_snoc HZ.out, hl, if_pos rfl, HV.out]
                first | done | (congr 1; omega)
              case measure => simp [intOf]; omega
            · go_wp2_with (first | (go_at_call 64; refine (literal_any _ _).mono ?_; rintro e w' ⟨rfl, rfl⟩) | (go_at_call 77; refine (variable_any _ _ hl v HV.out).mono ?_; rintro e w' ⟨rfl, rfl⟩))
              go_round
              case rel =>
                refine ⟨t + 1, by omega, by go_num, ?_⟩
                rw [M.varsC_snoc HZ.out, hl, if_pos rfl, HV.out]
                first | done | (congr 1; omega)
              case measure => simp [intOf]; omega
        · go_wp2
          go_round
          case rel => exact ⟨k + 1, by omega, by go_num, by rw [M.vars_take HX.out, List.take_of_length_le (show x.length ≤ t by omega)]⟩
          case measure => simp [intOf]; omega
    · go_wp2
      go_ret
      exact ⟨ret_int (by rw [List.take_of_length_le (by omega)]), rfl⟩
/-- slices.Index, slices.Contains at api.Clause -/
theorem index_no (a : Option Addr) (c : Nat) (zs : List Int) (v : Int) (w : World) (hz : Ints w a zs) (hv : v ∉ zs) :
    Calls Tryd.prog 94 #[.slice a zs.length c, .int .i64 v] w fun e w' => e = .returned (.int .i64 (-1)) ∧ w = w' := by
  have hlen := hz.len
  have HV := Lib.hid hv
  clear hv
  go_enter Tryd.func94, Tryd.ntmps94
  go_wp2
  go_loop [5, 8] (fun _ i => ∃ k : Nat, k ≤ zs.length ∧ i = .int .i64 k) (fun _ i => zs.length - (intOf i).toNat)
  case atStart => exact ⟨0, Nat.zero_le _, rfl⟩
  case round =>
    obtain ⟨k, hk, rfl⟩ := hrel
    by_cases hlt : k < zs.length
    · obtain ⟨b, off, rfl, hbl, hc⟩ := hz.addr (by omega)
      obtain ⟨z, hzk⟩ : ∃ z, zs[k]? = some z := ⟨zs[k], by simp [hlt]⟩
      have hcell := hc k z hzk
      have hb : (v == z) = false := by
        rw [beq_eq_false_iff_ne]; rintro rfl; exact HV.out (List.mem_of_getElem? hzk)
      clear hc hzk
      go_wp2
      go_round
      case rel => exact ⟨k + 1, by omega, by go_num⟩
      case measure => simp [intOf]; omega
    · go_wp2
      go_ret
      exact ⟨rfl, rfl⟩
theorem index_yes (a : Option Addr) (c : Nat) (zs : List Int) (v : Int) (w : World) (hz : Ints w a zs) (hv : v ∈ zs) :
    Calls Tryd.prog 94 #[.slice a zs.length c, .int .i64 v] w fun e w' => (∃ k : Nat, k ≤ zs.length ∧ e = .returned (.int .i64 k)) ∧ w = w' := by
  have hlen := hz.len
  have HV := Lib.hid hv
  clear hv
  go_enter Tryd.func94, Tryd.ntmps94
  go_wp2
  go_loop [5, 8] (fun _ i => ∃ k : Nat, k ≤ zs.length ∧ i = .int .i64 k ∧ v ∉ zs.take k) (fun _ i => zs.length - (intOf i).toNat)
  case atStart => exact ⟨0, Nat.zero_le _, rfl, by simp⟩
  case round =>
    obtain ⟨k, hk, rfl, hf⟩ := hrel
    have HF := Lib.hid hf
    clear hf
    by_cases hlt : k < zs.length
    · obtain ⟨b, off, rfl, hbl, hc⟩ := hz.addr (by omega)
      obtain ⟨z, hzk⟩ : ∃ z, zs[k]? = some z := ⟨zs[k], by simp [hlt]⟩
      have hcell := hc k z hzk
      have HZ := Lib.hid hzk
      clear hc hzk
      cases hb : (v == z)
      · go_wp2
        go_round
        case rel =>
          refine ⟨k + 1, by omega, by go_num, fun hm => ?_⟩
          rw [List.take_add_one, HZ.out] at hm
          rcases List.mem_append.1 hm with hm | hm
          · exact HF.out hm
          · simp at hm; rw [hm] at hb; simp at hb
        case measure => simp [intOf]; omega
      · go_wp2
        go_ret
        exact ⟨⟨k, hk, rfl⟩, rfl⟩
    · exfalso
      have hf := HF.out
      rw [List.take_of_length_le (by omega)] at hf
      exact hf HV.out
theorem contains_any (a : Option Addr) (c : Nat) (zs : List Int) (v : Int) (w : World) (hz : Ints w a zs) :
    Calls Tryd.prog 79 #[.slice a zs.length c, .int .i64 v] w fun e w' => e = .returned (.bool (M.inn zs v)) ∧ w = w' := by
  by_cases hv : v ∈ zs
  · have hi := (M.inn_iff zs v).2 hv
    have HI := Lib.hid hi
    have H := Lib.hid (index_yes a c zs v w hz hv)
    have hlen := hz.len
    clear hi hv hz
    go_enter Tryd.func79, Tryd.ntmps79
    go_wp2_with fail
    refine H.out.mono ?_
    rintro e w' ⟨⟨k, hk, rfl⟩, rfl⟩
    go_wp2
    go_ret
    refine ⟨ret_bool ?_, rfl⟩
    rw [HI.out]
  · have hi := (M.inn_false zs v).2 hv
    have HI := Lib.hid hi
    have H := Lib.hid (index_no a c zs v w hz hv)
    clear hi hv hz
    go_enter Tryd.func79, Tryd.ntmps79
    go_wp2_with fail
    refine H.out.mono ?_
    rintro e w' ⟨rfl, rfl⟩
    go_wp2
    go_ret
    exact ⟨ret_bool (by rw [HI.out]), rfl⟩
end Go.Proofs.YtdppmmimemmedaaDoor
