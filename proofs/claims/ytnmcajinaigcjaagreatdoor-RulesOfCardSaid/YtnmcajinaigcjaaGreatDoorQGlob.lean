/- The contract of glob.Match. -/
import Derived.Test.YtnmcajinaigcjaaGreatDoorQRead
import Derived.Test.YtnmcajinaigcjaaGreatDoorQGlobMath
import Derived.WalkMore
import Derived.ScopeJumps
namespace Go.Proofs.YtnmcajinaigcjaaGreatDoor
open Go.RowKit

theorem bdrewN {n q : Nat} {w w' : World} (h : Below n w w') : Below n w (w'.drewN q) := ⟨h.1, h.2, h.3, h.4, h.5⟩
theorem ret_eq (a b : Nat) : ((a : Int) == (b : Int)) = decide (a = b) := by rw [Bool.eq_iff_iff]; simp; omega
theorem bl {p : ByteArray} : p.toList.length = p.size := by rw [ByteArray.toList_eq]; simp
theorem bat {p : ByteArray} {k : Nat} (h : k < p.size) : p.toList[k]? = some p[k] := by rw [ByteArray.toList_eq]; simp [h]; rfl
theorem bout {p : ByteArray} {k : Nat} (h : p.size ≤ k) : p.toList[k]? = none := by rw [List.getElem?_eq_none]; rw [bl]; exact h
theorem bat42 {p : ByteArray} {k : Nat} (h : k < p.size) (h42 : ((p[k].toNat : Int) == 42) = true) : p.toList[k]? = some 42 := by
  rw [bat h]; congr 1; apply UInt8.toNat_inj.1; simp at h42; simp; omega
theorem bat_no {c : UInt8} (h42 : ((c.toNat : Int) == 42) = false) : (c == 42) = false := by
  simp only [beq_eq_false_iff_ne, ne_eq] at h42 ⊢; rintro rfl; exact h42 rfl
theorem bat_eq {p t : ByteArray} {k i : Nat} (h : k < p.size) (hi : i < t.size) (hs : ((p[k].toNat : Int) == (t[i].toNat : Int)) = true) : t.toList[i]? = some p[k] := by
  rw [bat hi]; congr 1; apply UInt8.toNat_inj.1; simp at hs; omega
theorem at_part {p t : ByteArray} {k i : Nat} (hk : k < p.size) {hi : i < t.size} (h42 : (p[k] == 42) = false) (hs : ((p[k].toNat : Int) == (t[i].toNat : Int)) = false) {c : UInt8} (e : p.toList[k]? = some c) : (c == 42) = false ∧ (c == t[i]) = false := by
  rw [bat hk] at e; cases e
  refine ⟨h42, ?_⟩
  simp only [beq_eq_false_iff_ne, ne_eq] at hs ⊢; intro e; rw [e] at hs; exact hs rfl
theorem mu1 {n m k i f : Nat} {st : Int} (hk : k < n) (h5 : st ≤ k) (hf : f ≤ i) (hi : i ≤ m) :
    ((n + 1 - ((k : Int) + 1 + 1).toNat) * (m + 2) + (m + 1 - i)) * (n + 2) + (n + 1 - (k + 1)) < ((n + 1 - (st + 1).toNat) * (m + 2) + (m + 1 - f)) * (n + 2) + (n + 1 - k) := by
  have h1 : (n + 1 - ((k : Int) + 1 + 1).toNat) + 1 ≤ n + 1 - (st + 1).toNat := by omega
  have h2 := Nat.mul_le_mul_right (m + 2) h1
  rw [Nat.add_mul] at h2
  have h3 : (n + 1 - ((k : Int) + 1 + 1).toNat) * (m + 2) + (m + 1 - i) ≤ (n + 1 - (st + 1).toNat) * (m + 2) + (m + 1 - f) := by omega
  have h4 := Nat.mul_le_mul_right (n + 2) h3
  omega
theorem mu2 {n m k s f : Nat} (hs : s ≤ k) (hk : k ≤ n) (hf : f < m) :
    ((n + 1 - ((s : Int) + 1).toNat) * (m + 2) + (m + 1 - (f + 1))) * (n + 2) + (n + 1 - s) < ((n + 1 - ((s : Int) + 1).toNat) * (m + 2) + (m + 1 - f)) * (n + 2) + (n + 1 - k) := by
  have h3 : ((n + 1 - ((s : Int) + 1).toNat) * (m + 2) + (m + 1 - (f + 1))) + 1 ≤ (n + 1 - ((s : Int) + 1).toNat) * (m + 2) + (m + 1 - f) := by omega
  have h4 := Nat.mul_le_mul_right (n + 2) h3
  rw [Nat.add_mul] at h4
  omega
set_option maxHeartbeats 1000000 in
set_option maxRecDepth 100000 in
theorem glob_any (p t : ByteArray) (w : World) (hp : SzS p) (ht : SzS t) :
    Calls Tryz.prog 62 #[.string p, .string t] w fun e w' => e = .returned (.bool (Q.globM p.toList t.toList)) ∧ Below w.heap.size w w' := by
  unfold SzS at hp ht
  generalize hr : Q.globM p.toList t.toList = r
  have hI : Q.Inv p.toList t.toList r 0 0 (-1) 0 := hr ▸ Q.inv0 _ _
  have HI := Lib.hid hI
  clear hr hI
  go_enter Tryz.func62, Tryz.ntmps62
  go_wp2
  refine wp_scope_jumps 0 (fun a' w' => Below w.heap.size w w' ∧ ∃ (k i f : Nat) (st : Int) (u4 u9 u10 u11 u12 u13 u14 u15 u16 u17 u18 u19 u20 u21 u22 u23 u24 u25 u26 u27 u28 u29 u30 u31 u32 u33 u34 u35 u36 u37 u38 u39 u40 u41 u42 u43 u44 u45 u46 u47 u48 u49 u50 u51 u52 u53 u54 u55 u56 u57 : Value), a' = { tmps := #[.string p, .string t, undef, undef, u4, .int .i64 k, .int .i64 i, .int .i64 st, .int .i64 f, u9, u10, u11, u12, u13, u14, u15, u16, u17, u18, u19, u20, u21, u22, u23, u24, u25, u26, u27, u28, u29, u30, u31, u32, u33, u34, u35, u36, u37, u38, u39, u40, u41, u42, u43, u44, u45, u46, u47, u48, u49, u50, u51, u52, u53, u54, u55, u56, u57], defers := [] } ∧ Q.Inv p.toList t.toList r k i st f) (fun a' _ => ((p.size + 1 - ((intOf (a'.tmps.getD 7 undef)) + 1).toNat) * (t.size + 2) + (t.size + 1 - (intOf (a'.tmps.getD 8 undef)).toNat)) * (p.size + 2) + (p.size + 1 - (intOf (a'.tmps.getD 5 undef)).toNat)) rfl ?_ ?_
  · have g1 := HI.out
    by_cases hk : 0 < p.size
    · by_cases h42 : ((p[0].toNat : Int) == 42) = true
      · have hc := bat42 hk h42
        have HC := Lib.hid (g1.star hc)
        clear hc g1
        go_wp2
        go_step3
        go_wp2
        go_step3
        exact ⟨rfl, Below.refl _ _, 1, 0, 0, 1, _, _, _, _, _, _, _, _, _, _, _, _, _, _, _, _, _, _, _, _, _, _, _, _, _, _, _, _, _, _, _, _, _, _, _, _, _, _, _, _, _, _, _, _, _, _, _, _, _, _, rfl, HC.out⟩
      · have h42' : ((p[0].toNat : Int) == 42) = false := by simpa using h42
        have hcc := bat_no h42'
        by_cases ht0 : 0 < t.size
        · have hne : ((0 : Int) == (t.size : Int)) = false := by rw [beq_eq_false_iff_ne]; omega
          by_cases hs : ((p[0].toNat : Int) == (t[0].toNat : Int)) = true
          · have HC := Lib.hid (g1.same (bat hk) (bat_eq hk ht0 hs) hcc)
            clear hcc g1 h42
            go_wp2
            go_step3
            go_wp2
            go_quiet (fail)
            go_wp2
            go_step3
            exact ⟨rfl, bdrewN (Below.refl _ _), 1, 1, 0, -1, _, _, _, _, _, _, _, _, _, _, _, _, _, _, _, _, _, _, _, _, _, _, _, _, _, _, _, _, _, _, _, _, _, _, _, _, _, _, _, _, _, _, _, _, _, _, _, _, _, _, rfl, HC.out⟩
          · have hs' : ((p[0].toNat : Int) == (t[0].toNat : Int)) = false := by simpa using hs
            have HC := Lib.hid (g1.no (by omega) (bat ht0) (fun c e => at_part hk hcc hs' e))
            clear hcc g1 h42 hs
            go_wp2
            go_step3
            go_wp2
            go_quiet (fail)
            go_wp2
            simp only [Exit.jump]
            go_ret
            exact ⟨ret_bool HC.out.symm, bdrewN (Below.refl _ _)⟩
        · have hne : ((0 : Int) == (t.size : Int)) = true := by rw [beq_iff_eq]; omega
          have HC := Lib.hid (g1.done (by rw [bl]; omega) (fun c e => by rw [bat hk] at e; cases e; exact hcc))
          clear hcc g1 h42
          go_wp2
          go_step3
          go_wp2
          simp only [Exit.jump]
          go_ret
          exact ⟨ret_bool (by rw [HC.out, bl]; exact ret_eq _ _), Below.refl _ _⟩
    · have hz : p.size = 0 := by omega
      have hout := bout (p := p) (k := 0) (by omega)
      by_cases ht0 : 0 < t.size
      · have hne : ((0 : Int) == (t.size : Int)) = false := by rw [beq_eq_false_iff_ne]; omega
        have HC := Lib.hid (g1.no (by omega) (bat ht0) (fun c e => by rw [hout] at e; cases e))
        clear hz g1 hout
        go_wp2
        go_step3
        go_wp2
        go_quiet (fail)
        go_wp2
        simp only [Exit.jump]
        go_ret
        exact ⟨ret_bool HC.out.symm, bdrewN (Below.refl _ _)⟩
      · have hne : ((0 : Int) == (t.size : Int)) = true := by rw [beq_iff_eq]; omega
        have HC := Lib.hid (g1.done (by rw [bl]; omega) (fun c e => by rw [hout] at e; cases e))
        clear hz g1 hout
        go_wp2
        go_step3
        go_wp2
        simp only [Exit.jump]
        go_ret
        exact ⟨ret_bool (by rw [HC.out, bl]; exact ret_eq _ _), Below.refl _ _⟩
  · rintro a' w' ⟨hbr, k, i, f, st, u4, u9, u10, u11, u12, u13, u14, u15, u16, u17, u18, u19, u20, u21, u22, u23, u24, u25, u26, u27, u28, u29, u30, u31, u32, u33, u34, u35, u36, u37, u38, u39, u40, u41, u42, u43, u44, u45, u46, u47, u48, u49, u50, u51, u52, u53, u54, u55, u56, u57, rfl, g1⟩
    have h1 := g1.hp
    have h2 := g1.hi
    have h3 := g1.hf
    have h4 := g1.lo
    have h5 := g1.le
    rw [bl] at h1 h2
    have HB := Lib.hid hbr
    clear hbr
    by_cases hk : k < p.size
    · by_cases h42 : ((p[k].toNat : Int) == 42) = true
      · have hc := bat42 hk h42
        have HC := Lib.hid (g1.star hc)
        clear hc g1
        go_wp2
        go_step3
        exact ⟨rfl, ⟨HB.out, k + 1, i, i, (k : Int) + 1, _, _, _, _, _, _, _, _, _, _, _, _, _, _, _, _, _, _, _, _, _, _, _, _, _, _, _, _, _, _, _, _, _, _, _, _, _, _, _, _, _, _, _, _, _, _, _, _, _, _, rfl, HC.out⟩, by have hmu := mu1 hk h5 h3 h2; simp [intOf] at hmu ⊢; exact hmu⟩
      · have h42' : ((p[k].toNat : Int) == 42) = false := by simpa using h42
        have hcc := bat_no h42'
        by_cases ht0 : i < t.size
        · have hne : ((i : Int) == (t.size : Int)) = false := by rw [beq_eq_false_iff_ne]; omega
          by_cases hs : ((p[k].toNat : Int) == (t[i].toNat : Int)) = true
          · have HC := Lib.hid (g1.same (bat hk) (bat_eq hk ht0 hs) hcc)
            clear hcc g1 h42
            go_wp2
            go_quiet (fail)
            go_wp2
            go_step3
            exact ⟨rfl, ⟨bdrewN HB.out, k + 1, i + 1, f, st, _, _, _, _, _, _, _, _, _, _, _, _, _, _, _, _, _, _, _, _, _, _, _, _, _, _, _, _, _, _, _, _, _, _, _, _, _, _, _, _, _, _, _, _, _, _, _, _, _, _, rfl, HC.out⟩, by simp [intOf]; omega⟩
          · have hs' : ((p[k].toNat : Int) == (t[i].toNat : Int)) = false := by simpa using hs
            have hpt : ∀ c, p.toList[k]? = some c → (c == 42) = false ∧ (c == t[i]) = false := fun c e => at_part hk hcc hs' e
            have HG := Lib.hid g1
            have HP := Lib.hid hpt
            clear hcc g1 h42 hs hpt
            by_cases hst : st < 0
            · have HC := Lib.hid (HG.out.no hst (bat ht0) HP.out)
              go_wp2
              go_quiet (fail)
              go_wp2
              simp only [Exit.jump]
              go_ret
              exact ⟨ret_bool HC.out.symm, bdrewN HB.out⟩
            · obtain ⟨s, hs⟩ : ∃ s : Nat, st = s := ⟨st.toNat, by omega⟩
              subst hs
              by_cases hsp : s = p.size
              · have HC := Lib.hid (HG.out.all (by rw [bl, hsp]))
                have hsq : ((s : Int) == (p.size : Int)) = true := by rw [beq_iff_eq]; omega
                clear hsp
                go_wp2
                go_quiet (fail)
                go_wp2
                simp only [Exit.jump]
                go_ret
                exact ⟨ret_bool HC.out.symm, bdrewN HB.out⟩
              · have HC := Lib.hid (HG.out.again rfl (bat ht0) HP.out)
                have hsq : ((s : Int) == (p.size : Int)) = false := by rw [beq_eq_false_iff_ne]; omega
                go_wp2
                go_quiet (fail)
                go_wp2
                go_step3
                exact ⟨rfl, ⟨bdrewN HB.out, s, f + 1, f + 1, s, _, _, _, _, _, _, _, _, _, _, _, _, _, _, _, _, _, _, _, _, _, _, _, _, _, _, _, _, _, _, _, _, _, _, _, _, _, _, _, _, _, _, _, _, _, _, _, _, _, _, rfl, HC.out⟩, by have hmu := mu2 (n := p.size) (m := t.size) (k := k) (s := s) (f := f) (by omega) h1 (by omega); simp [intOf] at hmu ⊢; exact hmu⟩
        · have hne : ((i : Int) == (t.size : Int)) = true := by rw [beq_iff_eq]; omega
          have HC := Lib.hid (g1.done (by rw [bl]; omega) (fun c e => by rw [bat hk] at e; cases e; exact hcc))
          clear hcc g1 h42
          go_wp2
          simp only [Exit.jump]
          go_ret
          exact ⟨ret_bool (by rw [HC.out, bl]; exact ret_eq _ _), HB.out⟩
    · have hout := bout (p := p) (k := k) (by omega)
      by_cases ht0 : i < t.size
      · have hne : ((i : Int) == (t.size : Int)) = false := by rw [beq_eq_false_iff_ne]; omega
        have hpt : ∀ c, p.toList[k]? = some c → (c == 42) = false ∧ (c == t[i]) = false := fun c e => by rw [hout] at e; cases e
        have HG := Lib.hid g1
        have HP := Lib.hid hpt
        clear g1 hpt hout
        by_cases hst : st < 0
        · have HC := Lib.hid (HG.out.no hst (bat ht0) HP.out)
          go_wp2
          go_quiet (fail)
          go_wp2
          simp only [Exit.jump]
          go_ret
          exact ⟨ret_bool HC.out.symm, bdrewN HB.out⟩
        · obtain ⟨s, hs⟩ : ∃ s : Nat, st = s := ⟨st.toNat, by omega⟩
          subst hs
          by_cases hsp : s = p.size
          · have HC := Lib.hid (HG.out.all (by rw [bl, hsp]))
            have hsq : ((s : Int) == (p.size : Int)) = true := by rw [beq_iff_eq]; omega
            clear hsp
            go_wp2
            go_quiet (fail)
            go_wp2
            simp only [Exit.jump]
            go_ret
            exact ⟨ret_bool HC.out.symm, bdrewN HB.out⟩
          · have HC := Lib.hid (HG.out.again rfl (bat ht0) HP.out)
            have hsq : ((s : Int) == (p.size : Int)) = false := by rw [beq_eq_false_iff_ne]; omega
            go_wp2
            go_quiet (fail)
            go_wp2
            go_step3
            exact ⟨rfl, ⟨bdrewN HB.out, s, f + 1, f + 1, s, _, _, _, _, _, _, _, _, _, _, _, _, _, _, _, _, _, _, _, _, _, _, _, _, _, _, _, _, _, _, _, _, _, _, _, _, _, _, _, _, _, _, _, _, _, _, _, _, _, _, rfl, HC.out⟩, by have hmu := mu2 (n := p.size) (m := t.size) (k := k) (s := s) (f := f) (by omega) h1 (by omega); simp [intOf] at hmu ⊢; exact hmu⟩
      · have hne : ((i : Int) == (t.size : Int)) = true := by rw [beq_iff_eq]; omega
        have HC := Lib.hid (g1.done (by rw [bl]; omega) (fun c e => by rw [hout] at e; cases e))
        clear g1 hout
        go_wp2
        simp only [Exit.jump]
        go_ret
        exact ⟨ret_bool (by rw [HC.out, bl]; exact ret_eq _ _), HB.out⟩
end Go.Proofs.YtnmcajinaigcjaaGreatDoor
