/- The contract of reduce.Keep. -/
import Derived.Test.YtpminhafljlldaaDoorQNeeds
import Derived.ScopeJumps
import Derived.WalkMore
namespace Go.Proofs.YtpminhafljlldaaDoor
open Go.RowKit
open Q (It Ver Tm Sp Rc Dm)

theorem and_small {x S : Nat} (hx : x < 18446744073709551616) (hS : S < 18446744073709551616) : (bits .and .u64 (x : Int) (S : Int) == 0) = !(x &&& S != 0) := by
  rw [u64_and_nat _ _ hx hS]
  rw [Bool.eq_iff_iff]; simp
theorem nds_small {l : List Rc} {on : List Bool} {i : Nat} {xs : List Nat} (h60 : l.length ≤ 60) (h : (Q.nds l on)[i]? = some xs) : ∀ x ∈ xs, x < 18446744073709551616 := by
  have hi : i < l.length := by have := (List.getElem?_eq_some_iff.1 h).1; rwa [Q.nds_len] at this
  rw [Q.nds_at hi] at h; cases h
  exact Q.ndAt_small (by omega) i
set_option maxHeartbeats 1000000 in
theorem met_any (A K : Nat) (S i : Nat) (aa : Option Addr) (ac : Nat) (l : List Rc) (on : List Bool) (w : World) (h60 : l.length ≤ 60) (hi : i < l.length) (hS : S < 18446744073709551616) (hU : UUs w aa (Q.nds l on)) (hA : A < w.heap.size ∧ w.cell? ⟨A, 0, none⟩ = some (.slice aa l.length ac)) (hK : K < w.heap.size ∧ w.cell? ⟨K, 0, none⟩ = some (.int .u64 (S : Nat))) :
    Calls Tryd.prog 55 #[.int .i64 i, .pointer (some ⟨A, 0, none⟩), .pointer (some ⟨K, 0, none⟩)] w fun e w' => e = .returned (.bool (Q.metB l on S i)) ∧ w = w' := by
  obtain ⟨hA1, hA2⟩ := hA
  obtain ⟨hK1, hK2⟩ := hK
  have hx0 := Q.nds_at (on := on) hi
  have hsm := nds_small h60 hx0
  obtain ⟨b, off, rfl, hbl, hc⟩ := hU.addr (by rw [Q.nds_len]; omega)
  obtain ⟨a', c', hc1, hU1⟩ := hc i _ hx0
  generalize hq : Q.metB l on S i = q
  have hq' : (Q.ndAt l on i).all (fun x => x &&& S != 0) = q := hq
  generalize hxs : Q.ndAt l on i = xs at *
  have HQ := Lib.hid hq'
  have HSM := Lib.hid hsm
  have HU1 := Lib.hid hU1
  have hxl := hU1.len
  clear hU hc hU1 hq hq' hxs hx0 hsm
  go_enter Tryd.func55, Tryd.ntmps55
  go_wp2
  go_loop [6, 12] (fun _ i => ∃ j : Nat, j ≤ xs.length ∧ i = .int .i64 j ∧ (xs.take j).all (fun x => x &&& S != 0) = true) (fun _ i => xs.length - (intOf i).toNat)
  case atStart => exact ⟨0, by omega, rfl, rfl⟩
  case round =>
    obtain ⟨j, hj, rfl, hall⟩ := hrel
    have HAL := Lib.hid hall
    clear hall
    by_cases hlt : j < xs.length
    · obtain ⟨x, hx⟩ : ∃ x, xs[j]? = some x := ⟨xs[j], by simp [hlt]⟩
      obtain ⟨b2, o2, rfl, hbl2, hcx⟩ := HU1.out.addr (by omega)
      have c2 := hcx j x hx
      have hxx := HSM.out x (List.mem_of_getElem? hx)
      have ht := and_small hxx hS
      have HX := Lib.hid hx
      clear hcx hx
      by_cases hz : (x &&& S != 0) = true
      · rw [hz] at ht
        have ht' : (bits .and .u64 (x : Int) (S : Int) == 0) = false := ht
        have HZ := Lib.hid hz
        clear ht hz
        go_wp2
        go_round
        case rel => exact ⟨j + 1, by omega, by go_num, all_snoc HX.out HAL.out HZ.out⟩
        case measure => simp [intOf]; omega
      · have hz' : (x &&& S != 0) = false := by simpa using hz
        rw [hz'] at ht
        have ht' : (bits .and .u64 (x : Int) (S : Int) == 0) = true := ht
        have HZ := Lib.hid hz'
        clear ht hz hz'
        go_wp2
        go_ret
        exact ⟨ret_bool (by rw [← HQ.out, all_miss HX.out HZ.out]), rfl⟩
    · go_wp2
      go_ret
      refine ⟨ret_bool ?_, rfl⟩
      have := HAL.out
      rw [List.take_of_length_le (by omega)] at this
      rw [← HQ.out, this]
/-- the memory of Keep: what each needs, in a box at A; the kept ones behind it -/
structure KMem (w : World) (l : List Rc) (on : List Bool) (A : Nat) (aa : Option Addr) (ac S : Nat) (w' : World) : Prop where
  w1 : ∃ w1 : World, w1.heap.size = A ∧ Below w.heap.size w w1 ∧ UUs w1 aa (Q.nds l on) ∧ Below A w1 w'
  cell : w'.cell? ⟨A, 0, none⟩ = some (.slice aa l.length ac)
  kept : w'.heap[A + 1]? = some (.cells #[.int .u64 (S : Nat)] 92 (0, 0))
theorem KMem.lt {w : World} {l : List Rc} {on : List Bool} {A : Nat} {aa : Option Addr} {ac S : Nat} {w' : World} (h : KMem w l on A aa ac S w') : A + 1 < w'.heap.size := (Array.getElem?_eq_some_iff.1 h.kept).1
theorem KMem.uus {w : World} {l : List Rc} {on : List Bool} {A : Nat} {aa : Option Addr} {ac S : Nat} {w' : World} (h : KMem w l on A aa ac S w') : UUs w' aa (Q.nds l on) := by
  obtain ⟨w1, rfl, h1, h2, h3⟩ := h.w1; exact h2.below h3
theorem KMem.below {w : World} {l : List Rc} {on : List Bool} {A : Nat} {aa : Option Addr} {ac S : Nat} {w' : World} (h : KMem w l on A aa ac S w') : Below w.heap.size w w' := by
  obtain ⟨w1, rfl, h1, h2, h3⟩ := h.w1; exact fin h1 h3
theorem KMem.facts {w : World} {l : List Rc} {on : List Bool} {A : Nat} {aa : Option Addr} {ac S : Nat} {w' : World} (h : KMem w l on A aa ac S w') :
    w'.cell? ⟨A, 0, none⟩ = some (.slice aa l.length ac) ∧ w'.cell? ⟨A + 1, 0, none⟩ = some (.int .u64 (S : Nat)) ∧ w'.frozen? ⟨A + 1, 0, none⟩ = false ∧ A < w'.heap.size ∧ A + 1 < w'.heap.size :=
  ⟨h.cell, by rw [cell_of_cells h.kept]; rfl, by simp [World.frozen?, h.kept], by have := h.lt; omega, h.lt⟩
theorem KMem.set {w : World} {l : List Rc} {on : List Bool} {A : Nat} {aa : Option Addr} {ac S : Nat} {w' : World} (h : KMem w l on A aa ac S w') (T : Nat) : KMem w l on A aa ac T ((w'.setCell ⟨A + 1, 0, none⟩ (.int .u64 (T : Nat))).drew) := by
  obtain ⟨w1, rfl, h1, h2, h3⟩ := h.w1
  refine ⟨⟨w1, rfl, h1, h2, (h3.setCell (Nat.le_succ _) _).drew⟩, ?_, ?_⟩
  · have := h.cell
    rw [← this]
    show (w'.setCell _ _).cell? _ = _
    apply World.cell?_setCell_other; intro h; injection h with h1; omega
  · exact one_setCell h.kept
theorem KMem.draw {w : World} {l : List Rc} {on : List Bool} {A : Nat} {aa : Option Addr} {ac S : Nat} {w' : World} (h : KMem w l on A aa ac S w') : KMem w l on A aa ac S w'.drew := by
  obtain ⟨w1, rfl, h1, h2, h3⟩ := h.w1
  exact ⟨⟨w1, rfl, h1, h2, h3.drew⟩, h.cell, h.kept⟩
/-- how many are kept still -/
def keepMu (n : Nat) (a' : Act) (w' : World) : Nat :=
  match a'.tmps.getD 8 undef with
  | .pointer (some p) => (match w'.cell? p with | some (.int _ z) => Q.bits z.toNat n | _ => 0)
  | _ => 0
theorem keepMu_lt {w : World} {l : List Rc} {on : List Bool} {A : Nat} {aa : Option Addr} {ac S k : Nat} {w' : World} {b b' : Act} (h : KMem w l on A aa ac S w') (hI : Q.KInv l on S) (hl : l.length ≤ 63) (hb : S.testBit k = true)
    (e : b.tmps.getD 8 undef = .pointer (some ⟨A + 1, 0, none⟩)) (e' : b'.tmps.getD 8 undef = .pointer (some ⟨A + 1, 0, none⟩)) :
    keepMu l.length b' ((w'.setCell ⟨A + 1, 0, none⟩ (.int .u64 (Q.without S k : Nat))).drew) < keepMu l.length b w' := by
  have h1 := (h.set (Q.without S k)).facts.2.1
  have h2 := h.facts.2.1
  unfold keepMu
  rw [e, e']
  simp only [h1, h2]
  simpa using Q.keep_less hI hl hb
set_option maxHeartbeats 4000000 in
set_option maxRecDepth 100000 in
theorem keep_ok (ad : Addr) (a b : Option Addr) (c e : Nat) (l : List Rc) (on : List Bool) (w : World) (hR : RIn w a b l on) (hl : on.length = l.length) (h60 : l.length ≤ 60) (hE : ErrR w ad) :
    Calls Tryd.prog 23 #[.slice a l.length c, .slice b on.length e] w fun e w' => ∃ (k : List Bool) (ka : Option Addr) (kc : Nat), e = .returned (.tuple #[.slice ka k.length kc, .nilIface]) ∧ R.Kept Rc.deps Q.mt l on k ∧ Bools w' ka k ∧ Below w.heap.size w w' := by
  have HR := Lib.hid hR
  have HE := Lib.hid hE
  have HL := Lib.hid hl
  have hl3 := hR.bools.len
  clear hR hE hl
  go_enter Tryd.func23, Tryd.ntmps23
  go_wp2_with fail
  refine wp_scope_jumps 0 (fun a' w' => ∃ (A : Nat) (aa : Option Addr) (ac S : Nat) (u9 u11 u12 u13 u14 u15 u16 u17 u18 u19 u20 u21 u22 u23 u24 u25 u26 u27 u28 u29 u30 u31 u32 u33 u34 u35 u36 u37 u38 u39 u40 u41 u42 u43 u44 u45 u46 u47 u48 u49 u50 u51 u52 u53 u54 u55 u56 u57 u58 u59 u60 : Value), KMem w l on A aa ac S w' ∧ Q.KInv l on S ∧ a' = { tmps := #[.slice a l.length c, .slice b on.length e, undef, undef, .slice none 0 0, .nilIface, .nilIface, .pointer (some ⟨A, 0, none⟩), .pointer (some ⟨A + 1, 0, none⟩), u9, .func (.func 55) #[] #[.pointer (some ⟨A, 0, none⟩), .pointer (some ⟨A + 1, 0, none⟩)], u11, u12, u13, u14, u15, u16, u17, u18, u19, u20, u21, u22, u23, u24, u25, u26, u27, u28, u29, u30, u31, u32, u33, u34, u35, u36, u37, u38, u39, u40, u41, u42, u43, u44, u45, u46, u47, u48, u49, u50, u51, u52, u53, u54, u55, u56, u57, u58, u59, u60], defers := [] }) (keepMu l.length) rfl ?_ ?_
  · go_wp2_with fail
    (with_reducible refine (check_ok a b c e l on _ HL.out h60).mono ?_)
    rintro e w9 ⟨rfl, rfl⟩
    go_wp2_with fail
    (with_reducible refine (needs_any ad a b c _ l on _ HR.out HL.out h60 HE.out).mono ?_)
    rintro e w1 ⟨aa, ac, rfl, hU, hb1⟩
    rw [Q.nds_len]
    have HU := Lib.hid hU
    have HB1 := Lib.hid hb1
    clear hU hb1
    go_wp2
    generalize hW : (w1.alloc _).alloc _ = W
    have hK0 : KMem w l on w1.heap.size aa ac 0 W := by
      subst hW
      refine ⟨⟨w1, rfl, HB1.out, HU.out, (b1 _ _).alloc (by simp) _⟩, by simp, ?_⟩
      rw [show w1.heap.size + 1 = (w1.alloc (Obj.cells #[.slice aa l.length ac] 90)).heap.size by simp]
      exact heap_alloc_new _ _
    have HK0 := Lib.hid hK0
    clear hK0 hW
    go_loopw [9, 23] (fun _ i wr => ∃ k : Nat, k ≤ l.length ∧ i = .int .i64 k ∧ KMem w l on w1.heap.size aa ac (Q.setOf (fun i => on[i]? == some true) k) wr) (fun _ i _ => l.length - (intOf i).toNat)
    case atStart => exact ⟨0, by omega, rfl, HK0.out⟩
    case round =>
      obtain ⟨k, hk, rfl, hKr⟩ := hrel
      have HK := Lib.hid hKr
      clear hKr
      by_cases hlt : k < l.length
      · have hltc : k < on.length := by have := HL.out; omega
        obtain ⟨y, hy⟩ : ∃ x, on[k]? = some x := ⟨on[k], by simp [hltc]⟩
        obtain ⟨b2, o2, rfl, hbl2, hcb⟩ := (HR.out.bools.below HK.out.below).addr (by omega)
        have hcy := hcb k y hy
        have HY := Lib.hid hy
        obtain ⟨g0, g1, g2, g3, g4⟩ := HK.out.facts
        have hsm := Q.setOf_small (fun i => on[i]? == some true) (show k ≤ 63 by omega)
        clear hcb hy
        cases y
        · go_wp2
          go_roundw
          case rel => exact ⟨k + 1, by omega, by go_num, by rw [setOf_no (by rw [HY.out]; rfl)]; exact HK.out⟩
          case measure => simp [intOf]; omega
        · go_wp2
          go_region
          rw [or_bit hsm (by omega), ← setOf_yes (f := fun i => on[i]? == some true) (by rw [HY.out]; rfl)]
          go_wp2
          go_roundw
          case rel => exact ⟨k + 1, by omega, by go_num, HK.out.set _⟩
          case measure => simp [intOf]; omega
      · obtain ⟨w2, rfl⟩ : ∃ wo : World, wo = wr := ⟨_, rfl⟩
        obtain rfl : k = l.length := by omega
        generalize hSe : Q.setOf (fun i => on[i]? == some true) l.length = S at HK
        have hI : Q.KInv l on S := hSe ▸ Q.keep_init HL.out
        have hSs := hI.small (by omega)
        have HI := Lib.hid hI
        clear hSe hI
        generalize hA : w1.heap.size = A at HK
        go_wp2
        go_step3
        go_wp2
        go_loop [11, 38] (fun _ i => ∃ k : Nat, k ≤ l.length ∧ i = .int .i64 k ∧ ∀ j, j < k → S.testBit j = true → Q.metB l on S j = true) (fun _ i => l.length - (intOf i).toNat)
        case atStart => exact ⟨0, by omega, rfl, fun j hj => by omega⟩
        case round =>
          obtain ⟨k, hk, rfl, hall⟩ := hrel
          have HAL := Lib.hid hall
          clear hall
          obtain ⟨g0, g1, g2, g3, g4⟩ := HK.out.facts
          by_cases hlt : k < l.length
          · have hbt := bit_test (k := k) hSs
            cases hbit : S.testBit k
            · rw [hbit] at hbt
              have HBI := Lib.hid hbit
              clear hbit
              go_wp2
              go_round
              case rel => exact ⟨k + 1, by omega, by go_num, fun j hj hb => by rcases Nat.lt_or_ge j k with h' | h'; exact HAL.out j h' hb; rw [show j = k by omega, HBI.out] at hb; cases hb⟩
              case measure => simp [intOf]; omega
            · rw [hbit] at hbt
              go_wp2_with fail
              (with_reducible refine (met_any A (A + 1) S k aa ac l on _ h60 hlt hSs HK.out.uus ⟨g3, g0⟩ ⟨g4, g1⟩).mono ?_)
              rintro e w9 ⟨rfl, rfl⟩
              cases hm : Q.metB l on S k
              · have HM := Lib.hid hm
                clear hm
                go_wp2
                go_region
                rw [not_bit hSs (by omega)]
                have HK2 := Lib.hid (HK.out.set (Q.without S k))
                go_wp2
                go_step3
                exact ⟨rfl, A, aa, ac, Q.without S k, _, _, _, _, _, _, _, _, _, _, _, _, _, _, _, _, _, _, _, _, _, _, _, _, _, _, _, _, _, _, _, _, _, _, _, _, _, _, _, _, _, _, _, _, _, _, _, _, _, _, _, HK2.out, Q.keep_step HI.out (by omega) hbit HM.out, rfl⟩
              · have HM := Lib.hid hm
                clear hm
                go_wp2
                go_round
                case rel => exact ⟨k + 1, by omega, by go_num, fun j hj hb => by rcases Nat.lt_or_ge j k with h' | h'; exact HAL.out j h' hb; rw [show j = k by omega]; exact HM.out⟩
                case measure => simp [intOf]; omega
          · go_wp2_with fail
            (with_reducible refine (flags_any S l.length _ hSs h60).mono ?_)
            rintro e w9 ⟨ka, kc, rfl, _, hB9, hb9⟩
            have HB9 := Lib.hid hB9
            have HBB := Lib.hid (fin HK.out.below hb9)
            have HKE := Lib.hid (Q.keep_end HI.out (fun i hi hb => HAL.out i (by omega) hb))
            clear hB9 hb9
            rw [Q.flags_len]
            go_wp2
            simp only [Exit.jump]
            go_ret2
            exact ⟨_, ka, kc, by rw [Q.flags_len]; rfl, HKE.out, HB9.out, HBB.out⟩
  · rintro a' w' ⟨A, aa, ac, S, u9, u11, u12, u13, u14, u15, u16, u17, u18, u19, u20, u21, u22, u23, u24, u25, u26, u27, u28, u29, u30, u31, u32, u33, u34, u35, u36, u37, u38, u39, u40, u41, u42, u43, u44, u45, u46, u47, u48, u49, u50, u51, u52, u53, u54, u55, u56, u57, u58, u59, u60, hKm, hI, rfl⟩
    have hSs := hI.small (by omega)
    have HK := Lib.hid hKm
    have HI := Lib.hid hI
    clear hKm hI
    go_wp2
    go_loop [11, 38] (fun _ i => ∃ k : Nat, k ≤ l.length ∧ i = .int .i64 k ∧ ∀ j, j < k → S.testBit j = true → Q.metB l on S j = true) (fun _ i => l.length - (intOf i).toNat)
    case atStart => exact ⟨0, by omega, rfl, fun j hj => by omega⟩
    case round =>
      obtain ⟨k, hk, rfl, hall⟩ := hrel
      have HAL := Lib.hid hall
      clear hall
      obtain ⟨g0, g1, g2, g3, g4⟩ := HK.out.facts
      by_cases hlt : k < l.length
      · have hbt := bit_test (k := k) hSs
        cases hbit : S.testBit k
        · rw [hbit] at hbt
          have HBI := Lib.hid hbit
          clear hbit
          go_wp2
          go_round
          case rel => exact ⟨k + 1, by omega, by go_num, fun j hj hb => by rcases Nat.lt_or_ge j k with h' | h'; exact HAL.out j h' hb; rw [show j = k by omega, HBI.out] at hb; cases hb⟩
          case measure => simp [intOf]; omega
        · rw [hbit] at hbt
          go_wp2_with fail
          (with_reducible refine (met_any A (A + 1) S k aa ac l on _ h60 hlt hSs HK.out.uus ⟨g3, g0⟩ ⟨g4, g1⟩).mono ?_)
          rintro e w9 ⟨rfl, rfl⟩
          cases hm : Q.metB l on S k
          · have HM := Lib.hid hm
            clear hm
            go_wp2
            go_region
            rw [not_bit hSs (by omega)]
            have HK2 := Lib.hid (HK.out.set (Q.without S k))
            go_wp2
            go_step3
            exact ⟨rfl, ⟨A, aa, ac, Q.without S k, _, _, _, _, _, _, _, _, _, _, _, _, _, _, _, _, _, _, _, _, _, _, _, _, _, _, _, _, _, _, _, _, _, _, _, _, _, _, _, _, _, _, _, _, _, _, _, _, _, _, _, HK2.out, Q.keep_step HI.out (by omega) hbit HM.out, rfl⟩, keepMu_lt HK.out HI.out (by omega) hbit rfl rfl⟩
          · have HM := Lib.hid hm
            clear hm
            go_wp2
            go_round
            case rel => exact ⟨k + 1, by omega, by go_num, fun j hj hb => by rcases Nat.lt_or_ge j k with h' | h'; exact HAL.out j h' hb; rw [show j = k by omega]; exact HM.out⟩
            case measure => simp [intOf]; omega
      · go_wp2_with fail
        (with_reducible refine (flags_any S l.length _ hSs h60).mono ?_)
        rintro e w9 ⟨ka, kc, rfl, _, hB9, hb9⟩
        have HB9 := Lib.hid hB9
        have HBB := Lib.hid (fin HK.out.below hb9)
        have HKE := Lib.hid (Q.keep_end HI.out (fun i hi hb => HAL.out i (by omega) hb))
        clear hB9 hb9
        rw [Q.flags_len]
        go_wp2
        simp only [Exit.jump]
        go_ret2
        exact ⟨_, ka, kc, by rw [Q.flags_len]; rfl, HKE.out, HB9.out, HBB.out⟩
end Go.Proofs.YtpminhafljlldaaDoor
