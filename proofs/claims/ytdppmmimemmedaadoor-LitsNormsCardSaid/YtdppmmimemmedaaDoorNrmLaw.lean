/- The walk of haversacklaw14.LitsNorms. -/
import Derived.Test.YtdppmmimemmedaaDoorAlive14
import Derived.Test.YtdppmmimemmedaaDoorKept
import Derived.Test.YtdppmmimemmedaaDoorNum
namespace Go.Proofs.YtdppmmimemmedaaDoor
open Go.RowKit

def M.both (zs l : List Int) : Bool := l.any fun x => M.isLit x && M.inn zs (-x)
theorem M.both_snoc {zs : List Int} {k : Nat} {z : Int} (h : zs[k]? = some z) : M.both zs (zs.take (k + 1)) = (M.both zs (zs.take k) || (M.isLit z && M.inn zs (-z))) := by
  unfold M.both; rw [List.take_add_one, h]; simp
theorem M.both_adj (zs : List Int) : M.adj (M.only zs) = M.both zs zs := by
  rw [Bool.eq_iff_iff, M.adj_only, M.both, List.any_eq_true]
  constructor
  · rintro ⟨x, h1, h2, h3⟩; exact ⟨x, h1, by rw [h2, (M.inn_iff _ _).2 h3]; rfl⟩
  · rintro ⟨x, h1, h2⟩
    obtain ⟨h3, h4⟩ := Bool.and_eq_true_iff.1 h2
    exact ⟨x, h1, h3, (M.inn_iff _ _).1 h4⟩
theorem M.right_norm {zs : List Int} (h : ∀ z ∈ zs, M.isLit z = true) : M.right (M.norm zs) = true := by
  rw [M.right_iff]
  exact ⟨fun x hx => h x ((M.mem_norm zs x).1 hx), M.norm_eq_self (M.sorted_norm zs)⟩
set_option maxHeartbeats 4000000 in
set_option maxRecDepth 100000 in
theorem nrmLaw (hA : Alive14) (a : Option Addr) (c : Nat) (zs : List Int) (A : Nat → Addr) (w : World) (hz : Ints w a zs) (hc : zs.length ≤ c) (hd : a = none → c = 0) (hE : Errs w A) :
    Calls Tryd.prog 11 #[.slice a zs.length c] w fun e w' => e = .returned (.bool true) ∧ Below w.heap.size w w' := by
  have hlen := hz.len
  have HZ := Lib.hid hz
  have HD := Lib.hid (And.intro hc hd)
  have HE := Lib.hid hE
  have HA := Lib.hid (hA w)
  clear hz hc hd hE hA
  go_enter Tryd.func11, Tryd.ntmps11
  go_wp2_with fail
  refine HA.out.mono ?_
  rintro e W0 ⟨rfl, hb0⟩
  have HB0 := Lib.hid hb0
  have HZ0 := Lib.hid (HZ.out.below hb0)
  clear hb0 HA
  by_cases h1 : 200 < zs.length
  · have t1 : decide ((200 : Int) < (zs.length : Int)) = true := by simp; omega
    go_wp2
    go_ret
    exact ⟨rfl, HB0.out⟩
  have t1 : decide ((200 : Int) < (zs.length : Int)) = false := by simp; omega
  have HIA := Lib.hid (ints_any a c zs W0 HZ0.out HD.out.2 (by omega))
  go_wp2_with fail
  refine HIA.out.mono ?_
  rintro e W1 ⟨g, c1, rfl, ho, hb1⟩
  have HO1 := Lib.hid ho
  have HI1 := Lib.hid (ho.front HZ0.out.wf (by omega))
  have HB1 := Lib.hid (below_next HB0.out hb1)
  have HZ1 := Lib.hid (HZ0.out.below hb1)
  clear ho hb1 HIA
  cases hall : zs.all M.isLit
  · have hl : ∃ z ∈ zs, M.isLit z = false := by
      by_cases h : ∃ z ∈ zs, M.isLit z = false
      · exact h
      · exfalso
        have : zs.all M.isLit = true := List.all_eq_true.2 fun z hz => by
          cases hh : M.isLit z
          · exact absurd ⟨z, hz, hh⟩ h
          · rfl
        rw [this] at hall; cases hall
    have hnb := norm_bad (some ⟨g, 0, none⟩) c1 zs W1 _ HI1.out hl ((HE.out.below HB1.out).at' 9 _ rfl).cell
    unfold errAt at hnb
    have HN := Lib.hid hnb
    have hrn : M.rnorm zs = [] := by rw [M.rnorm, hall]; rfl
    have hneq := eqlErr (A 9)
    have hneg := eqlErrG (A 9)
    unfold errAt at hneq hneg
    clear hnb hl
    go_wp2_with fail
    refine HN.out.mono ?_
    rintro e W2 ⟨rfl, q, hq⟩
    have hb2 : Below W1.heap.size W1 W2 := by rw [hq]; exact bDrewN _ _ _
    clear hq
    have HB2 := Lib.hid (below_next HB1.out hb2)
    have HZ2 := Lib.hid (HZ1.out.below hb2)
    have HO2 := Lib.hid (HO1.out.below hb2)
    have hrr := rnorm_any a c zs W2 HZ2.out (by omega)
    rw [hrn, hall] at hrr
    have HR := Lib.hid hrr
    clear hb2 hrr HN
    go_wp2_with fail
    refine HR.out.mono ?_
    rintro e W3 ⟨a3, c3, rfl, h3, _, _, hb3⟩
    have HB3 := Lib.hid (below_next HB2.out hb3)
    have HZ3 := Lib.hid (HZ2.out.below hb3)
    have HC3 := Lib.hid ((Ints.nil W2 none).below hb3)
    have HI3 := Lib.hid h3
    have HK := Lib.hid (keptInts_any W0.heap.size g c1 zs a c W3 (HO2.out.below hb3) HZ3.out (by omega))
    clear h3 hb3 HR
    go_wp2_with fail
    refine HK.out.mono ?_
    rintro e W4 ⟨rfl, hb4⟩
    have HB4 := Lib.hid (below_next HB3.out hb4)
    have HZ4 := Lib.hid (HZ3.out.below hb4)
    have HC4 := Lib.hid (HC3.out.below hb4)
    have hs : Calls Tryd.prog 31 #[.slice none 0 0, .slice a3 ([] : List Int).length c3] W4 _ := sameInts_any none 0 [] a3 c3 [] W4 HC4.out (HI3.out.below hb4)
    rw [(M.eqs_iff _ _).2 rfl] at hs
    have HS := Lib.hid hs
    clear hb4 hs HK
    go_wp2_with fail
    refine HS.out.mono ?_
    rintro e W5 ⟨rfl, q5, hq5⟩
    have hb5 : Below W4.heap.size W4 W5 := by rw [hq5]; exact bDrewN _ _ _
    have HB5 := Lib.hid (below_next HB4.out hb5)
    have HZ5 := Lib.hid (HZ4.out.below hb5)
    have HC5 := Lib.hid (HC4.out.below hb5)
    have HRT := Lib.hid (right_any a c zs W5 HZ5.out)
    clear hb5 hq5 HS
    go_wp2_with fail
    refine HRT.out.mono ?_
    rintro e W6 ⟨rfl, hb6⟩
    have HB6 := Lib.hid (below_next HB5.out hb6)
    have HZ6 := Lib.hid (HZ5.out.below hb6)
    have HC6 := Lib.hid (HC5.out.below hb6)
    have HRR := Lib.hid (rright_any a c zs W6 HZ6.out (by omega))
    clear hb6 HRT
    go_wp2_with fail
    refine HRR.out.mono ?_
    rintro e W7 ⟨rfl, hb7⟩
    have HB7 := Lib.hid (below_next HB6.out hb7)
    have HZ7 := Lib.hid (HZ6.out.below hb7)
    have HC7 := Lib.hid (HC6.out.below hb7)
    have hrneq : (M.right zs != M.right zs) = false := by simp
    clear hb7 HRR
    go_wp2
    go_loop [8, 53] (fun bv i => ∃ k : Nat, k ≤ zs.length ∧ i = .int .i64 k ∧ bv = .bool (M.both zs (zs.take k))) (fun _ i => zs.length - (intOf i).toNat)
    case atStart => exact ⟨0, Nat.zero_le _, rfl, rfl⟩
    case round =>
      obtain ⟨k, hk, rfl, rfl⟩ := hrel
      by_cases hlt : k < zs.length
      · obtain ⟨bb, off, rfl, hbl, hcl⟩ := HZ7.out.addr (by omega)
        obtain ⟨z, hzk⟩ : ∃ z, zs[k]? = some z := ⟨zs[k], by simp [hlt]⟩
        have hcell := hcl k z hzk
        have HZK := Lib.hid hzk
        obtain ⟨bo, hbo⟩ : ∃ bo, bo = M.both zs (zs.take k) := ⟨_, rfl⟩
        rw [← hbo]
        have HBO := Lib.hid hbo
        clear hcl hzk hbo
        cases bo
        · cases hlz : M.isLit z
          · go_wp2_with (go_at_call 38; refine (is_any _ _).mono ?_; rintro e w' ⟨rfl, rfl⟩)
            go_round
            case rel => exact ⟨k + 1, by omega, by go_num, by rw [M.both_snoc HZK.out, ← HBO.out, hlz]; rfl⟩
            case measure => simp [intOf]; omega
          · have hb3 := (M.isLit_iff z).1 hlz
            obtain ⟨z0, z1, z2⟩ := hb3
            go_wp2_with (first
              | (go_at_call 38; refine (is_any _ _).mono ?_; rintro e w' ⟨rfl, rfl⟩)
              | (go_at_call 49; refine (in_any _ _ _ _ _ HZ7.out).mono ?_; rintro e w' ⟨rfl, rfl⟩))
            go_round
            case rel => exact ⟨k + 1, by omega, by go_num, by rw [M.both_snoc HZK.out, ← HBO.out, hlz]; rfl⟩
            case measure => simp [intOf]; omega
        · go_wp2
          go_round
          case rel => exact ⟨k + 1, by omega, by go_num, by rw [M.both_snoc HZK.out, ← HBO.out]; rfl⟩
          case measure => simp [intOf]; omega
      · obtain rfl : k = zs.length := by omega
        rw [List.take_length]
        have htau := tautology_any a c zs W7 HZ7.out HD.out.1 HD.out.2
        rw [M.both_adj] at htau
        have HTAU := Lib.hid htau
        have hbb : (M.both zs zs == M.both zs zs) = true := by simp
        clear htau
        go_wp2_with fail
        refine HTAU.out.mono ?_
        rintro e W8 ⟨rfl, hb8⟩
        have HB8 := Lib.hid (below_next HB7.out hb8)
        have hn := num_err A 9 W8 (by omega) (HE.out.below HB8.out)
        unfold errAt at hn
        have HNU := Lib.hid hn
        clear hb8 hn HTAU
        go_wp2_with (go_at_call 42; refine HNU.out.mono ?_; rintro e W9 ⟨rfl, hb9⟩; have HB9 := Lib.hid (below_next HB8.out hb9); clear hb9)
        go_ret
        exact ⟨rfl, HB9.out⟩
  · have hl : ∀ z ∈ zs, M.isLit z = true := List.all_eq_true.1 hall
    have HL := Lib.hid hl
    have HN := Lib.hid (norm_ok (some ⟨g, 0, none⟩) c1 zs W1 HI1.out hl)
    have hrn : M.rnorm zs = M.norm zs := by rw [M.rnorm, hall, if_pos rfl]
    go_wp2_with fail
    refine HN.out.mono ?_
    rintro e W2 ⟨a2, c2, rfl, h2, _, _, hb2, _⟩
    have HI2 := Lib.hid h2
    have HB2 := Lib.hid (below_next HB1.out hb2)
    have HZ2 := Lib.hid (HZ1.out.below hb2)
    have HO2 := Lib.hid (HO1.out.below hb2)
    have hrr := rnorm_any a c zs W2 HZ2.out (by omega)
    rw [hrn, hall] at hrr
    have HR := Lib.hid hrr
    clear hb2 hrr HN h2
    go_wp2_with fail
    refine HR.out.mono ?_
    rintro e W3 ⟨a3, c3, rfl, h3, _, _, hb3⟩
    have HB3 := Lib.hid (below_next HB2.out hb3)
    have HZ3 := Lib.hid (HZ2.out.below hb3)
    have HC3 := Lib.hid (HI2.out.below hb3)
    have HI3 := Lib.hid h3
    have HK := Lib.hid (keptInts_any W0.heap.size g c1 zs a c W3 (HO2.out.below hb3) HZ3.out (by omega))
    clear h3 hb3 HR
    go_wp2_with fail
    refine HK.out.mono ?_
    rintro e W4 ⟨rfl, hb4⟩
    have HB4 := Lib.hid (below_next HB3.out hb4)
    have HZ4 := Lib.hid (HZ3.out.below hb4)
    have HC4 := Lib.hid (HC3.out.below hb4)
    have hs : Calls Tryd.prog 31 #[.slice a2 (M.norm zs).length c2, .slice a3 (M.norm zs).length c3] W4 _ := sameInts_any a2 c2 (M.norm zs) a3 c3 (M.norm zs) W4 HC4.out (HI3.out.below hb4)
    rw [(M.eqs_iff _ _).2 rfl] at hs
    have HS := Lib.hid hs
    clear hb4 hs HK
    go_wp2_with fail
    refine HS.out.mono ?_
    rintro e W5 ⟨rfl, q5, hq5⟩
    have hb5 : Below W4.heap.size W4 W5 := by rw [hq5]; exact bDrewN _ _ _
    have HB5 := Lib.hid (below_next HB4.out hb5)
    have HZ5 := Lib.hid (HZ4.out.below hb5)
    have HC5 := Lib.hid (HC4.out.below hb5)
    have HRT := Lib.hid (right_any a c zs W5 HZ5.out)
    clear hb5 hq5 HS
    go_wp2_with fail
    refine HRT.out.mono ?_
    rintro e W6 ⟨rfl, hb6⟩
    have HB6 := Lib.hid (below_next HB5.out hb6)
    have HZ6 := Lib.hid (HZ5.out.below hb6)
    have HC6 := Lib.hid (HC5.out.below hb6)
    have HRR := Lib.hid (rright_any a c zs W6 HZ6.out (by omega))
    clear hb6 HRT
    go_wp2_with fail
    refine HRR.out.mono ?_
    rintro e W7 ⟨rfl, hb7⟩
    have HB7 := Lib.hid (below_next HB6.out hb7)
    have HZ7 := Lib.hid (HZ6.out.below hb7)
    have HC7 := Lib.hid (HC6.out.below hb7)
    have hrneq : (M.right zs != M.right zs) = false := by simp
    clear hb7 HRR
    go_wp2
    go_loop [8, 53] (fun bv i => ∃ k : Nat, k ≤ zs.length ∧ i = .int .i64 k ∧ bv = .bool (M.both zs (zs.take k))) (fun _ i => zs.length - (intOf i).toNat)
    case atStart => exact ⟨0, Nat.zero_le _, rfl, rfl⟩
    case round =>
      obtain ⟨k, hk, rfl, rfl⟩ := hrel
      by_cases hlt : k < zs.length
      · obtain ⟨bb, off, rfl, hbl, hcl⟩ := HZ7.out.addr (by omega)
        obtain ⟨z, hzk⟩ : ∃ z, zs[k]? = some z := ⟨zs[k], by simp [hlt]⟩
        have hcell := hcl k z hzk
        have HZK := Lib.hid hzk
        obtain ⟨bo, hbo⟩ : ∃ bo, bo = M.both zs (zs.take k) := ⟨_, rfl⟩
        rw [← hbo]
        have HBO := Lib.hid hbo
        clear hcl hzk hbo
        cases bo
        · cases hlz : M.isLit z
          · go_wp2_with (go_at_call 38; refine (is_any _ _).mono ?_; rintro e w' ⟨rfl, rfl⟩)
            go_round
            case rel => exact ⟨k + 1, by omega, by go_num, by rw [M.both_snoc HZK.out, ← HBO.out, hlz]; rfl⟩
            case measure => simp [intOf]; omega
          · have hb3 := (M.isLit_iff z).1 hlz
            obtain ⟨z0, z1, z2⟩ := hb3
            go_wp2_with (first
              | (go_at_call 38; refine (is_any _ _).mono ?_; rintro e w' ⟨rfl, rfl⟩)
              | (go_at_call 49; refine (in_any _ _ _ _ _ HZ7.out).mono ?_; rintro e w' ⟨rfl, rfl⟩))
            go_round
            case rel => exact ⟨k + 1, by omega, by go_num, by rw [M.both_snoc HZK.out, ← HBO.out, hlz]; rfl⟩
            case measure => simp [intOf]; omega
        · go_wp2
          go_round
          case rel => exact ⟨k + 1, by omega, by go_num, by rw [M.both_snoc HZK.out, ← HBO.out]; rfl⟩
          case measure => simp [intOf]; omega
      · obtain rfl : k = zs.length := by omega
        rw [List.take_length]
        have htau := tautology_any a c zs W7 HZ7.out HD.out.1 HD.out.2
        rw [M.both_adj] at htau
        have HTAU := Lib.hid htau
        have hbb : (M.both zs zs == M.both zs zs) = true := by simp
        clear htau
        go_wp2_with fail
        refine HTAU.out.mono ?_
        rintro e W8 ⟨rfl, hb8⟩
        have HB8 := Lib.hid (below_next HB7.out hb8)
        have hrt := right_any a2 c2 (M.norm zs) W8 (HC7.out.below hb8)
        rw [M.right_norm HL.out] at hrt
        have HRT := Lib.hid hrt
        clear hb8 hrt HTAU
        go_wp2_with fail
        refine HRT.out.mono ?_
        rintro e W9 ⟨rfl, hb9⟩
        have HB9 := Lib.hid (below_next HB8.out hb9)
        clear hb9
        go_wp2
        go_ret
        exact ⟨rfl, HB9.out⟩
end Go.Proofs.YtdppmmimemmedaaDoor
