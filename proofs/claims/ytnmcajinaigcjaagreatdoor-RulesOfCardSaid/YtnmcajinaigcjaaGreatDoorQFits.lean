/- Contracts of rules.fits. -/
import Derived.Test.YtnmcajinaigcjaaGreatDoorQHolds2
namespace Go.Proofs.YtnmcajinaigcjaaGreatDoor
open Go.RowKit
open Q (It Ver Tm Sp Rc Dm)

theorem Sl.cellsSp {w : World} {a : Option Addr} {xs : List Sp} (h : Sl RSp 5 w a xs) {i : Nat} {s : Sp} (hx : xs[i]? = some s) :
    ∃ b off ra rc, a = some ⟨b, off, none⟩ ∧ b < w.heap.size ∧ (w.cell? ⟨b, off + i * 5, none⟩ = some (.string s.chan) ∧ w.cell? ⟨b, off + i * 5 + 1, none⟩ = some (.string s.name) ∧ w.cell? ⟨b, off + i * 5 + 2, none⟩ = some (.slice ra s.rows.length rc) ∧ w.cell? ⟨b, off + i * 5 + 3, none⟩ = some (.string s.build) ∧ w.cell? ⟨b, off + i * 5 + 4, none⟩ = some (.int .i64 s.num)) ∧ SpAt w s ra rc := by
  obtain ⟨b, off, e, hlt, hc⟩ := h.addr (by have := (List.getElem?_eq_some_iff.1 hx).1; omega)
  obtain ⟨us, u1, u2, u3⟩ := hc i s hx
  obtain ⟨ra, rc, u5, u6⟩ := u3.at
  rw [u5] at u2
  exact ⟨b, off, ra, rc, e, hlt, ⟨by simpa using u2 0 (by omega), by simpa using u2 1 (by omega), by simpa using u2 2 (by omega), by simpa using u2 3 (by omega), by simpa using u2 4 (by omega)⟩, u6⟩
theorem i64_1 : I64 1 := by unfold I64; omega
theorem i64_3 : I64 3 := by unfold I64; omega
theorem all_snoc {α : Type} {p : α → Bool} {l : List α} {k : Nat} {x : α} (h : l[k]? = some x) (h0 : (l.take k).all p = true) (hx : p x = true) : (l.take (k + 1)).all p = true := by
  rw [List.take_add_one, h, List.all_append, h0]; simp [hx]
theorem all_miss {α : Type} {p : α → Bool} {l : List α} {k : Nat} {x : α} (h : l[k]? = some x) (hx : p x = false) : l.all p = false := List.all_eq_false.2 ⟨x, List.mem_of_getElem? h, by simp [hx]⟩
set_option maxHeartbeats 2000000 in
set_option maxRecDepth 100000 in
theorem fits_any (r : Rc) (pa la da ca fa : Option Addr) (pc lc dc cc fc : Nat) (ad : Addr) (a b : Option Addr) (c e : Nat) (l : List Rc) (ch : List Bool) (w : World) (hD : Sl RSp 5 w da r.deps) (hC : Sl RSp 5 w ca r.cons) (hR : RIn w a b l ch) (hE : ErrR w ad) :
    Calls Tryz.prog 67 #[.slice a l.length c, .slice b ch.length e, .agg #[.string r.chan, .string r.file, .string r.name, .string r.text, .int .i64 r.ver.ep, .slice pa r.ver.parts.length pc, .slice la r.ver.loc.length lc, .string r.build, .int .i64 r.num, .int .i64 r.time, .slice da r.deps.length dc, .slice ca r.cons.length cc, .slice fa r.feats.length fc]] w fun e w' => e = .returned (.bool (Q.fits l ch r)) ∧ Below w.heap.size w w' := by
  have hl1 := hD.len
  have hl2 := hC.len
  have HD := Lib.hid hD
  have HC := Lib.hid hC
  have HR := Lib.hid hR
  have HE := Lib.hid hE
  generalize hq : Q.fits l ch r = q
  have HQ := Lib.hid hq
  clear hD hC hR hE hq
  go_enter Tryz.func67, Tryz.ntmps67
  go_wp2
  generalize hW : w.alloc _ = W
  have h0 : Below w.heap.size w W := by subst hW; exact (Below.refl _ _).alloc (Nat.le_refl _) _
  have hs : ∀ w', Below W.heap.size W w' → w'.cell? ⟨w.heap.size, 11, none⟩ = some (.slice ca r.cons.length cc) := by
    intro w' hb
    have hz : W.heap.size = w.heap.size + 1 := by subst hW; simp
    refine (hb.cell (by simp; omega)).trans ?_
    subst hW; simp
  have HS := Lib.hid hs
  have H0 := Lib.hid h0
  clear hs h0 hW
  go_loopw [8, 14] (fun _ i wr => ∃ k : Nat, k ≤ r.deps.length ∧ i = .int .i64 k ∧ (r.deps.take k).all (fun s => Q.holds l ch ⟨1, s⟩) = true ∧ Below W.heap.size W wr) (fun _ i _ => r.deps.length - (intOf i).toNat)
  case atStart => exact ⟨0, Nat.zero_le _, rfl, rfl, Below.refl _ _⟩
  case round =>
    obtain ⟨k, hk, rfl, hf, hbr⟩ := hrel
    have HF := Lib.hid hf
    have HB := Lib.hid hbr
    clear hf hbr
    by_cases hlt : k < r.deps.length
    · obtain ⟨s, hx⟩ : ∃ x, r.deps[k]? = some x := ⟨r.deps[k], by simp [hlt]⟩
      obtain ⟨bb, off, ra, rc, rfl, hbl, ⟨t0, t1, t2, t3, t4⟩, hat⟩ := (HD.out.below stays_RSp (fin H0.out HB.out)).cellsSp hx
      have HX := Lib.hid hx
      have HA := Lib.hid hat
      clear hx hat
      go_wp2_with fail
      have hb1 : ∀ o, Below wr.heap.size wr (wr.alloc o) := fun o => (Below.refl _ _).alloc (Nat.le_refl _) o
      (with_reducible refine (holds_any ⟨1, s⟩ ra rc ad a b c e l ch _ (HA.out.below (hb1 _)) i64_1 ((HR.out.below (fin H0.out HB.out)).below (hb1 _)) ((HE.out.below (fin H0.out HB.out)).below (hb1 _))).mono ?_)
      rintro e w2 ⟨rfl, hb⟩
      have HB2 := Lib.hid (fin (fin HB.out (hb1 _)) hb)
      clear hb hb1
      generalize hs : Q.holds l ch ⟨1, s⟩ = v
      have HV := Lib.hid hs
      clear hs
      cases v
      · go_wp2
        go_ret
        refine ⟨ret_bool ?_, fin H0.out HB2.out⟩
        rw [← HQ.out]; unfold Q.fits; rw [all_miss HX.out HV.out]; rfl
      · go_wp2
        go_roundw
        case rel => exact ⟨k + 1, by omega, by go_num, all_snoc HX.out HF.out HV.out, HB2.out⟩
        case measure => simp [intOf]; omega
    · have hdeps : r.deps.all (fun s => Q.holds l ch ⟨1, s⟩) = true := by
        have := HF.out
        rwa [List.take_of_length_le (by omega)] at this
      have HDD := Lib.hid hdeps
      have hcell := HS.out _ HB.out
      clear hdeps HF
      go_wp2
      obtain ⟨wl, hwl⟩ : ∃ x, x = wr := ⟨_, rfl⟩
      subst hwl
      go_loopw [10, 28] (fun _ i wr => ∃ k : Nat, k ≤ r.cons.length ∧ i = .int .i64 k ∧ (r.cons.take k).all (fun s => Q.holds l ch ⟨3, s⟩) = true ∧ Below W.heap.size W wr) (fun _ i _ => r.cons.length - (intOf i).toNat)
      case atStart => exact ⟨0, Nat.zero_le _, rfl, rfl, HB.out⟩
      case round =>
        obtain ⟨k, hk, rfl, hf, hbr⟩ := hrel
        have HF := Lib.hid hf
        have HB := Lib.hid hbr
        clear hf hbr
        by_cases hlt : k < r.cons.length
        · obtain ⟨s, hx⟩ : ∃ x, r.cons[k]? = some x := ⟨r.cons[k], by simp [hlt]⟩
          obtain ⟨bb, off, ra, rc, rfl, hbl, ⟨t0, t1, t2, t3, t4⟩, hat⟩ := (HC.out.below stays_RSp (fin H0.out HB.out)).cellsSp hx
          have HX := Lib.hid hx
          have HA := Lib.hid hat
          clear hx hat
          go_wp2_with fail
          have hb1 : ∀ o, Below wr.heap.size wr (wr.alloc o) := fun o => (Below.refl _ _).alloc (Nat.le_refl _) o
          (with_reducible refine (holds_any ⟨3, s⟩ ra rc ad a b c e l ch _ (HA.out.below (hb1 _)) i64_3 ((HR.out.below (fin H0.out HB.out)).below (hb1 _)) ((HE.out.below (fin H0.out HB.out)).below (hb1 _))).mono ?_)
          rintro e w2 ⟨rfl, hb⟩
          have HB2 := Lib.hid (fin (fin HB.out (hb1 _)) hb)
          clear hb hb1
          generalize hs : Q.holds l ch ⟨3, s⟩ = v
          have HV := Lib.hid hs
          clear hs
          cases v
          · go_wp2
            go_ret
            refine ⟨ret_bool ?_, fin H0.out HB2.out⟩
            rw [← HQ.out]; unfold Q.fits; rw [all_miss HX.out HV.out]; simp
          · go_wp2
            go_roundw
            case rel => exact ⟨k + 1, by omega, by go_num, all_snoc HX.out HF.out HV.out, HB2.out⟩
            case measure => simp [intOf]; omega
        · have hcons : r.cons.all (fun s => Q.holds l ch ⟨3, s⟩) = true := by
            have := HF.out
            rwa [List.take_of_length_le (by omega)] at this
          have HCC := Lib.hid hcons
          clear hcons
          go_wp2
          go_ret
          refine ⟨ret_bool ?_, fin H0.out HB.out⟩
          rw [← HQ.out]; unfold Q.fits; rw [HDD.out, HCC.out]; rfl
end Go.Proofs.YtnmcajinaigcjaaGreatDoor
