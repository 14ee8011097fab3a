/- (*cnf.Formula).One. -/
import Derived.Test.YtgpifbhfnbkgoaaDoorMany
namespace Go.Proofs.YtgpifbhfnbkgoaaDoor
open Go.RowKit
variable {X : Nat → Prop}

/-- the clauses of one literal and those behind it -/
def M.pairs (a : Int) (l : List Int) : List (List Int) := (l.filter (fun b => !(a == -b))).map (fun b => M.norm [-a, -b])
def M.oneTo (zs : List Int) (k : Nat) : List (List Int) := (List.range k).flatMap fun i => M.pairs (zs.getD i 0) (zs.drop (i + 1))
theorem M.oneC_pairs (a : Int) (l : List Int) : M.oneC (a :: l) = M.pairs a l ++ M.oneC l := rfl
theorem M.oneTo_all : ∀ zs : List Int, M.oneTo zs zs.length = M.oneC zs
  | [] => rfl
  | a :: l => by
    rw [M.oneC_pairs, ← M.oneTo_all l]
    simp [M.oneTo, List.range_succ_eq_map, List.flatMap_map]
theorem M.oneTo_succ {zs : List Int} {k : Nat} {z : Int} (h : zs[k]? = some z) : M.oneTo zs (k + 1) = M.oneTo zs k ++ M.pairs z (zs.drop (k + 1)) := by
  simp [M.oneTo, List.range_succ, h]
theorem M.pairs_skip {a : Int} {l : List Int} {j : Nat} {b : Int} (h : l[j]? = some b) (he : (a == -b) = true) : M.pairs a (l.take (j + 1)) = M.pairs a (l.take j) := by
  rw [List.take_add_one, h]; simp [M.pairs, he]
theorem M.pairs_more {a : Int} {l : List Int} {j : Nat} {b : Int} (h : l[j]? = some b) (he : (a == -b) = false) : M.pairs a (l.take (j + 1)) = M.pairs a (l.take j) ++ [M.norm [-a, -b]] := by
  rw [List.take_add_one, h]; simp [M.pairs, he]
theorem M.pairs_length (a : Int) (l : List Int) : (M.pairs a l).length ≤ l.length := by
  simp only [M.pairs, List.length_map]; exact List.length_filter_le _ _
theorem M.oneTo_length (zs : List Int) (k : Nat) (h : k ≤ zs.length) : (M.oneTo zs k).length ≤ k * zs.length := by
  induction k with
  | zero => simp [M.oneTo]
  | succ k ih =>
    rw [M.oneTo_succ (List.getElem?_eq_getElem (by omega)), List.length_append, Nat.succ_mul]
    have := ih (by omega)
    have h2 := M.pairs_length (zs[k]'(by omega)) (zs.drop (k + 1))
    simp at h2; omega
theorem Ints.two (w : World) (x y : Int) (hx : I64 x) (hy : I64 y) (e : TypeId) : Ints (w.alloc (.cells #[.int .i64 x, .int .i64 y] e)) (some ⟨w.heap.size, 0, none⟩) [x, y] := by
  refine ⟨fun _ => ⟨_, 0, rfl, by simp, fun i z hz => ?_⟩, fun z hz => by simp at hz; rcases hz with rfl | rfl <;> assumption, by simp⟩
  match i, hz with
  | 0, hz => simp at hz; subst hz; simp
  | 1, hz => simp at hz; subst hz; simp
theorem mul_bound (n : Nat) (h : n ≤ 400) : 0 ≤ (n : Int) * ((n : Int) - 1) ∧ (n : Int) * ((n : Int) - 1) ≤ 160000 := by
  rcases Nat.eq_zero_or_pos n with rfl | hp
  · simp
  · obtain ⟨m, rfl⟩ : ∃ m, n = m + 1 := ⟨n - 1, by omega⟩
    have e : ((m + 1 : Nat) : Int) * (((m + 1 : Nat) : Int) - 1) = (((m + 1) * m : Nat) : Int) := by simp
    rw [e]
    have : (m + 1) * m ≤ 400 * 400 := Nat.mul_le_mul (by omega) (by omega)
    omega
theorem below_next {w w1 w2 : World} (h : Below w.heap.size w w1) (h2 : Below w1.heap.size w1 w2) : Below w.heap.size w w2 := h.trans (h2.mono h.size)
theorem one_below {w w1 w3 : World} {o : Obj} {a : Option Addr} {c n : Nat} {cs : List (List Int)} (h : Below w.heap.size w w1) (ho : OwnC X w1 w.heap.size a c cs) (hg : (w1.alloc o).grownBy w3 (Value.slice a n c).ownBlock) : Below w.heap.size w w3 :=
  (below_alloc h o).grown hg (below_alloc h o).size (fun k hk => (ho.ownBlock n k hk).1)
set_option maxHeartbeats 2000000 in
theorem one_ok (base p vars : Nat) (cs : List (List Int)) (a : Option Addr) (c : Nat) (b : Option Addr) (d : Nat) (zs : List Int) (w : World) (hF : Fm X w base p vars cs a c) (hz : Ints w b zs) (hzc : zs.length ≤ d) (hzd : b = none → d = 0)
    (hl : M.own vars zs = true) (hsm : zs.length ≤ 400) (hcs : cs.length + zs.length * zs.length ≤ 200000) :
    Calls Tryd.prog 15 #[.pointer (some ⟨p, 0, none⟩), .slice b zs.length d] w fun e w' => e = .returned .nilIface ∧ FmPost X w base p vars (cs ++ M.oneC zs) w' := by
  have h0 := hF.cell0
  have h1 := hF.cell1
  have hps := hF.lt
  have hlit := M.own_isLit hF.vars hl
  have HL := Lib.hid hlit
  clear hlit
  have hmul := (mul_bound zs.length hsm).2
  have hmul0 := (mul_bound zs.length hsm).1
  have hvv := hF.vars
  have hhas := has_any p vars b d zs w h0 hF.vars hz
  rw [hl] at hhas
  have HH := Lib.hid hhas
  clear hhas
  go_enter Tryd.func15, Tryd.ntmps15
  go_wp2_with (go_at_call 40; refine HH.out.mono ?_; rintro e w' ⟨rfl, rfl⟩)
  go_loopw [6, 29] (fun v i wr => ∃ (k n : Nat) (b' : Option Addr) (d' : Nat), k ≤ zs.length ∧ i = .int .i64 k ∧ v = .slice b' n d' ∧ n = (M.oneTo zs k).length ∧ OwnC X wr w.heap.size b' d' (M.oneTo zs k) ∧ Below w.heap.size w wr) (fun _ i _ => zs.length - (intOf i).toNat)
  case atStart => exact ⟨0, 0, none, 0, Nat.zero_le _, rfl, rfl, rfl, ⟨OffX.none X, [], World.ownsRow_nil _ _ _ _, fun i x h => by simp [M.oneTo] at h⟩, Below.refl _ _⟩
  case round =>
    obtain ⟨k, n, b', d', hk, rfl, rfl, hn, hown, hb⟩ := hrel
    have hnb : n ≤ k * zs.length := by rw [hn]; exact M.oneTo_length zs k hk
    have hkk : k * zs.length ≤ zs.length * zs.length := Nat.mul_le_mul_right _ hk
    have HN := Lib.hid hn
    have HO := Lib.hid hown
    have HB := Lib.hid hb
    clear hn hown hb
    by_cases hlt : k < zs.length
    · have hzr := hz.below HB.out
      obtain ⟨bb, off, rfl, hbl, hcl⟩ := hzr.addr (by omega)
      obtain ⟨z, hzk⟩ : ∃ z, zs[k]? = some z := ⟨zs[k], by simp [hlt]⟩
      have hcell := hcl k z hzk
      have HZ := Lib.hid hzk
      have hlz := HL.out z (List.mem_of_getElem? hzk)
      have hz2 := (M.isLit_iff z).1 hlz
      have hzlo : -20000 ≤ z := hz2.2.1
      have hzhi : z ≤ 20000 := hz2.2.2
      obtain ⟨af, hsf, hfr, hnn⟩ := slice_from 30 Tryd.underlying30 d (k + 1) hz (by omega) hzc hzd
      have hsf' : ∀ wx, (Instr.slice 30 (.slice (some ⟨bb, off, none⟩) zs.length d) (some (.int .i64 ((k : Int) + 1))) none none).run Tryd.prog wx = .ok (.slice af (zs.length - (k + 1)) (d - (k + 1))) wx := fun wx => by have := hsf wx; simpa using this
      have hdl : (zs.drop (k + 1)).length = zs.length - (k + 1) := List.length_drop
      have HFR := Lib.hid hfr
      have HDL := Lib.hid hdl
      obtain ⟨m, hm⟩ : ∃ m, m = zs.length - (k + 1) := ⟨_, rfl⟩
      rw [← hm] at hsf'
      have HM := Lib.hid hm
      have hmle : m ≤ 400 := by omega
      clear hsf hfr hnn hdl hcl hzk hz2 hzd hm
      go_wp2
      obtain ⟨wo, rfl⟩ : ∃ wo : World, wo = wr := ⟨_, rfl⟩
      go_loopw [6, 39] (fun v i wr => ∃ (j n : Nat) (b' : Option Addr) (d' : Nat), j ≤ m ∧ i = .int .i64 j ∧ v = .slice b' n d' ∧ n = (M.oneTo zs k ++ M.pairs z ((zs.drop (k + 1)).take j)).length ∧ OwnC X wr w.heap.size b' d' (M.oneTo zs k ++ M.pairs z ((zs.drop (k + 1)).take j)) ∧ Below w.heap.size w wr) (fun _ i _ => m - (intOf i).toNat)
      case atStart => exact ⟨0, n, b', d', Nat.zero_le _, rfl, rfl, by simpa [M.pairs] using HN.out, by simpa [M.pairs] using HO.out, HB.out⟩
      case round =>
        obtain ⟨j, n2, b2, d2, hj, rfl, rfl, hn2, hown2, hb2⟩ := hrel
        have hn2b : n2 ≤ k * zs.length + m := by
          rw [hn2, List.length_append]
          have h1 := M.oneTo_length zs k hk
          have h2 := M.pairs_length z ((zs.drop (k + 1)).take j)
          have h3 := List.length_take_le j (zs.drop (k + 1))
          omega
        have HN2 := Lib.hid hn2
        have HO2 := Lib.hid hown2
        have HB2 := Lib.hid hb2
        clear hn2 hown2 hb2
        by_cases hjl : j < m
        · have hfr2 := HFR.out.below HB2.out
          have hjd : j < (zs.drop (k + 1)).length := by rw [HDL.out, ← HM.out]; exact hjl
          obtain ⟨bf, offf, rfl, hbf, hcf⟩ := hfr2.addr (by omega)
          obtain ⟨y, hy⟩ : ∃ y, (zs.drop (k + 1))[j]? = some y := ⟨_, List.getElem?_eq_getElem hjd⟩
          have hcelly := hcf j y hy
          have hly := HL.out y (List.mem_of_mem_drop (List.mem_of_getElem? hy))
          have hy2 := (M.isLit_iff y).1 hly
          have hylo : -20000 ≤ y := hy2.2.1
          have hyhi : y ≤ 20000 := hy2.2.2
          have HY := Lib.hid hy
          clear hcf hy hy2 hjd
          cases hzy : (z == -y)
          · have hlits : ∀ x ∈ [-z, -y], M.isLit x = true := by
              intro x hx; simp at hx; rcases hx with rfl | rfl
              · rw [M.isLit_neg]; exact hlz
              · rw [M.isLit_neg]; exact hly
            have HLT := Lib.hid hlits
            clear hlits
            go_wp2_with fail
            refine (norm_ok _ _ [-z, -y] _ (Ints.two _ _ _ (I64.of_lit (HLT.out _ (by simp))) (I64.of_lit (HLT.out _ (by simp))) _) HLT.out).mono ?_
            rintro e w1 ⟨a1, c1, rfl, h1, h2, h3, h4, h5⟩
            have hbn := below_next (below_alloc (Below.refl _ _) _) h4
            have HB3 := Lib.hid (below_next HB2.out hbn)
            have HO3 := Lib.hid (HO2.out.below hbn)
            have H1 := Lib.hid h1
            have H2 := Lib.hid h2
            have H3 := Lib.hid h3
            have hxl := (hF.below HB3.out).xlt
            have H5 := Lib.hid (h5.x ((hF.below HB2.out).below (below_alloc (Below.refl _ _) _)).xlt)
            have HXL := Lib.hid hxl
            clear h1 h2 h3 h4 h5 hbn HO2 HB2 hxl
            go_wp2_with (at_builtin; refine wpList_append_Clauses rfl (.tmp 59) (.tmp 61) rfl w.heap.size _ _ _ (M.oneTo zs k ++ M.pairs z ((zs.drop (k + 1)).take j)) rfl HN2.out.symm (HO3.out.below (below_alloc (Below.refl _ _) _)) (some ⟨w1.heap.size, 0, none⟩) 1 1 [M.norm [-z, -y]] rfl rfl (ClsT.one (b := a1) (d := c1) (by simp) (H1.out.alloc _) (H5.out.below (below_alloc (Below.refl _ _) _)) H2.out H3.out) (HXL.out.mono (by simp)) (by omega) (put_size1 HB3.out) ?_; intro a3 c3 w3 hown3 hg3; have HO4 := Lib.hid hown3; have HB4 := Lib.hid (one_below HB3.out HO3.out hg3); clear hown3 hg3)
            go_roundw
            case rel => exact ⟨j + 1, n2 + 1, a3, c3, by omega, by go_num, rfl, by rw [M.pairs_more HY.out hzy, ← List.append_assoc, List.length_append, ← HN2.out]; rfl, by rw [M.pairs_more HY.out hzy, ← List.append_assoc]; exact HO4.out, HB4.out⟩
            case measure => simp [intOf]; omega
          · go_wp2
            go_roundw
            case rel => exact ⟨j + 1, n2, b2, d2, by omega, by go_num, rfl, by rw [M.pairs_skip HY.out hzy]; exact HN2.out, by rw [M.pairs_skip HY.out hzy]; exact HO2.out, HB2.out⟩
            case measure => simp [intOf]; omega
        · go_wp2
          go_roundw
          case rel =>
            have hfull : (zs.drop (k + 1)).take j = zs.drop (k + 1) := List.take_of_length_le (by rw [HDL.out, ← HM.out]; omega)
            have e := M.oneTo_succ HZ.out
            rw [← hfull] at e
            exact ⟨k + 1, n2, b2, d2, by omega, by go_num, rfl, by rw [e]; exact HN2.out, by rw [e]; exact HO2.out, HB2.out⟩
          case measure => simp [intOf]; omega
    · obtain rfl : k = zs.length := by omega
      have hF2 := hF.below HB.out
      have hc1 := hF2.cell1
      have hps2 := hF2.lt
      have hle := hF2.le
      have hone := M.oneTo_all zs
      have hN3 : n = (M.oneC zs).length := by rw [← hone]; exact HN.out
      have hO3 : OwnC X wr w.heap.size b' d' (M.oneC zs) := by rw [← hone]; exact HO.out
      have HN3 := Lib.hid hN3
      have HO3 := Lib.hid hO3
      have HF2 := Lib.hid hF2
      have hcn : (cs.length : Int) + (n : Int) ≤ 200000 := by omega
      clear hN3 hO3 hF2 hone HN HO
      go_wp2_with (at_builtin; refine wpList_append_Clauses rfl (.tmp 79) (.tmp 80) rfl base _ _ _ cs rfl rfl HF2.out.own _ _ _ (M.oneC zs) rfl HN3.out.symm HO3.out.clsT HF2.out.xlt (by omega) (by omega) ?_; intro a3 c3 w3 hown3 hg3; obtain ⟨hk1, hk2, hk0⟩ := HF2.out.grown hg3; have HO4 := Lib.hid hown3; have HG3 := Lib.hid hg3; clear hown3 hg3)
      go_ret
      refine ⟨rfl, ?_⟩
      obtain ⟨r1, r2⟩ := hF.stored HB.out HO4.out HG3.out (by rw [← HN3.out]; omega)
      rw [← HN3.out] at r1 r2
      exact ⟨a3, c3, r1, r2.kp hF⟩
end Go.Proofs.YtgpifbhfnbkgoaaDoor
