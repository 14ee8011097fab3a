/- Contracts of the document's order of versions: Less, item, part, hold, holdRows, Compare. -/
import Derived.Test.YtpminhafljlldaaDoorQBig
import Derived.Test.YtpminhafljlldaaDoorQHolds2
import Derived.Test.YtpminhafljlldaaDoorDVMath
import Derived.IntWalk
namespace Go.Proofs.YtpminhafljlldaaDoor
open Go.RowKit
open Q (It Ver Tm Sp Rc Dm)

set_option maxHeartbeats 1000000 in
theorem dless_any (x y : It) (w : World) :
    Calls Tryd.prog 143 #[.agg #[.int .i64 x.n, .string x.word], .agg #[.int .i64 y.n, .string y.word]] w fun e w' => e = .returned (.bool (Q.dless x y)) ∧ Below w.heap.size w w' := by
  go_enter Tryd.func143, Tryd.ntmps143
  go_wp2
  all_goals
    go_ret
    refine ⟨ret_bool ?_, ((Below.refl _ _).alloc (Nat.le_refl _) _).alloc (by simp) _⟩
    unfold Q.dless Q.dlessL Q.less
    simp_all
theorem ditem_any (a : Option Addr) (c : Nat) (xs : List It) (i : Nat) (w : World) (h : Sl RIt 2 w a xs) :
    Calls Tryd.prog 142 #[.slice a xs.length c, .int .i64 i] w fun e w' => e = .returned (.agg #[.int .i64 (Q.at1 xs i Q.zero).n, .string (Q.at1 xs i Q.zero).word]) ∧ Below w.heap.size w w' := by
  have hlen := h.len
  by_cases hi : i < xs.length
  · obtain ⟨x, hx⟩ : ∃ x, xs[i]? = some x := ⟨xs[i], by simp [hi]⟩
    obtain ⟨b, off, rfl, hlt, c0, c1⟩ := h.cells2 hx
    rw [at1_in hx]
    clear hx
    go_enter Tryd.func142, Tryd.ntmps142
    go_wp2
    refine bodyPost_ret (v := .agg #[.int .i64 x.n, .string x.word]) (by simp [results, Tryd.results142, go_sem]) rfl ⟨rfl, ?_⟩
    first | exact b1 _ _ | exact (((Below.refl _ _).alloc (Nat.le_refl _) _).setCell (by simp) _) | exact (((Below.refl _ _).alloc (Nat.le_refl _) _).setCell (by simp) _).setCell (by simp) _
  · rw [at1_out (by omega)]
    show Calls _ _ _ _ fun e w' => e = .returned (.agg #[.int .i64 0, .string ⟨#[]⟩]) ∧ _
    go_enter Tryd.func142, Tryd.ntmps142
    go_wp2
    refine bodyPost_ret (v := .agg #[.int .i64 0, .string ⟨#[]⟩]) (by simp [results, Tryd.results142, go_sem]) rfl ⟨rfl, ?_⟩
    first | exact b1 _ _ | exact (((Below.refl _ _).alloc (Nat.le_refl _) _).setCell (by simp) _) | exact (((Below.refl _ _).alloc (Nat.le_refl _) _).setCell (by simp) _).setCell (by simp) _
/-- a component came back -/
def IsPart (w : World) (x : List It) (e : Ending) (w' : World) : Prop := ∃ a c, e = .returned (.slice a x.length c) ∧ Sl RIt 2 w' a x ∧ Below w.heap.size w w'
theorem zero_made (w : World) (t : TypeId) : Sl RIt 2 (w.alloc (.cells #[.int .i64 0, .string ⟨#[]⟩] t)) (some ⟨w.heap.size, 0, none⟩) [Q.zero] := by
  refine ⟨fun _ => ⟨w.heap.size, 0, rfl, by simp, fun i x hx => ?_⟩, by simp⟩
  match i, hx with
  | 0, hx =>
    simp at hx; subst hx
    refine ⟨[.int .i64 0, .string ⟨#[]⟩], rfl, fun j hj => ?_, rfl, by unfold I64; show -9223372036854775808 ≤ (0 : Int) ∧ (0 : Int) ≤ _; omega, by unfold SzS; decide⟩
    have : j = 0 ∨ j = 1 := by omega
    rcases this with rfl | rfl <;> simp
theorem dpart_any (a : Option Addr) (c : Nat) (xs : List (List It)) (i : Nat) (w : World) (h : Rows2 w a xs) :
    Calls Tryd.prog 141 #[.slice a xs.length c, .int .i64 i] w (IsPart w (Q.dpart xs i)) := by
  have hlen := h.len
  unfold Q.dpart
  by_cases hi : i < xs.length
  · obtain ⟨x, hx⟩ : ∃ x, xs[i]? = some x := ⟨xs[i], by simp [hi]⟩
    obtain ⟨b, off, a', c', rfl, hlt, c0, hc, hs⟩ := h.cell1 hx
    rw [at1_in hx]
    clear hx
    go_enter Tryd.func141, Tryd.ntmps141
    go_wp2
    go_ret
    exact ⟨a', c', rfl, hs, Below.refl _ _⟩
  · rw [at1_out (by omega)]
    go_enter Tryd.func141, Tryd.ntmps141
    go_wp2
    go_ret
    exact ⟨_, _, rfl, zero_made _ _, b1 _ _⟩
theorem dcases {x y : It} : (Q.dless x y = true ∧ Q.cmpIt x y = -1) ∨ (Q.dless x y = false ∧ Q.dless y x = true ∧ Q.cmpIt x y = 1) ∨ (Q.dless x y = false ∧ Q.dless y x = false ∧ Q.cmpIt x y = 0) := by
  obtain ⟨h1, h2, h3⟩ := Q.cmpIt_of (a := x) (b := y)
  cases e1 : Q.dless x y
  · cases e2 : Q.dless y x
    · exact .inr (.inr ⟨rfl, rfl, h3 e1 e2⟩)
    · exact .inr (.inl ⟨rfl, rfl, h2 e2⟩)
  · exact .inl ⟨rfl, h1 e1⟩
set_option maxHeartbeats 2000000 in
set_option maxRecDepth 100000 in
theorem dhold_any (a : Option Addr) (c : Nat) (xs : List It) (b : Option Addr) (d : Nat) (ys : List It) (w : World) (h1 : Sl RIt 2 w a xs) (h2 : Sl RIt 2 w b ys) :
    Calls Tryd.prog 140 #[.slice a xs.length c, .slice b ys.length d] w fun e w' => e = .returned (.int .i64 (Q.cmpC xs ys)) ∧ Below w.heap.size w w' := by
  have hl1 := h1.len
  have hl2 := h2.len
  have H1 := Lib.hid h1
  have H2 := Lib.hid h2
  obtain ⟨M, hM⟩ : ∃ M, M = max xs.length ys.length := ⟨_, rfl⟩
  obtain ⟨R, hR⟩ : ∃ R, R = Q.cmpC xs ys := ⟨_, rfl⟩
  have hq : Q.rowsFrom Q.zero Q.cmpIt xs ys (M - 0) 0 = R := by rw [hM, hR]; rfl
  rw [← hR]
  have hM1 : xs.length ≤ M := by omega
  have hM2 : ys.length ≤ M := by omega
  have hM3 : M ≤ xs.length ∨ M ≤ ys.length := by omega
  have HQ := Lib.hid hq
  clear h1 h2 hq hM hR
  go_enter Tryd.func140, Tryd.ntmps140
  go_wp2
  go_loopw [5, 6, 7] (fun i _ _ wr => ∃ k : Nat, k ≤ M ∧ i = .int .i64 k ∧ Q.rowsFrom Q.zero Q.cmpIt xs ys (M - k) k = R ∧ Below w.heap.size w wr) (fun i _ _ _ => M - (intOf i).toNat)
  case atStart => exact ⟨0, Nat.zero_le _, rfl, HQ.out, Below.refl _ _⟩
  case round =>
    obtain ⟨k, hk, rfl, hf, hbr⟩ := hrel
    have HF := Lib.hid hf
    have HB := Lib.hid hbr
    clear hf hbr HQ
    by_cases hlt : k < M
    · rcases (show k < xs.length ∨ (¬ k < xs.length ∧ k < ys.length) by omega) with hx | ⟨hx, hy⟩
      all_goals
        go_wp2_with fail
        (with_reducible refine (ditem_any a _ xs k _ (H1.out.below stays_RIt HB.out)).mono ?_)
        rintro e w2 ⟨rfl, hb2⟩
        have HB2 := Lib.hid (fin HB.out hb2)
        clear hb2
        go_wp2_with fail
        (with_reducible refine (ditem_any b _ ys k _ (H2.out.below stays_RIt HB2.out)).mono ?_)
        rintro e w3 ⟨rfl, hb3⟩
        have HB3 := Lib.hid (fin HB2.out hb3)
        clear hb3
        generalize hu : Q.at1 xs k Q.zero = u
        generalize hv : Q.at1 ys k Q.zero = v
        have HU := Lib.hid hu
        have HV := Lib.hid hv
        clear hu hv
        go_wp2_with fail
        refine (dless_any u v _).mono ?_
        rintro e w4 ⟨rfl, hb4⟩
        have hbb : Below w3.heap.size w3 w4 := by
          refine Below.trans ?_ (hb4.mono ?_)
          · first | exact (b1 _ _).alloc (by simp) _ | exact (((((b1 _ _).alloc (by simp) _).setCell (by simp) _).setCell (by simp) _).setCell (by simp) _).setCell (by simp) _
          · simp; try omega
        have HBB := Lib.hid (fin HB3.out hbb)
        rcases dcases (x := u) (y := v) with ⟨e1, e2⟩ | ⟨e1, e3, e2⟩ | ⟨e1, e3, e2⟩
        · rw [e1]
          have E2 := Lib.hid e2
          clear e1 e2
          go_wp2
          go_ret
          exact ⟨ret_int (by rw [← rowsFrom_hit HF.out hlt (by rw [HU.out, HV.out, E2.out]; rfl), HU.out, HV.out, E2.out]), HBB.out⟩
        all_goals
          rw [e1]
          have E2 := Lib.hid e2
          have E3 := Lib.hid e3
          clear e1 e2 e3
          obtain ⟨q1, q2⟩ := bcell hb4
          have hz4 := hb4.size
          go_wp2_with fail
          refine (dless_any v u _).mono ?_
          rintro e w5 ⟨rfl, hb5⟩
          have HB5 := Lib.hid (fin HBB.out hb5)
          rw [E3.out]
          clear q1 q2 hb4 hb5
          go_wp2
        · go_ret
          exact ⟨ret_int (by rw [← rowsFrom_hit HF.out hlt (by rw [HU.out, HV.out, E2.out]; rfl), HU.out, HV.out, E2.out]), HB5.out⟩
        · go_roundw
          case rel => exact ⟨k + 1, by omega, by go_num, rowsFrom_miss HF.out hlt (by rw [HU.out, HV.out, E2.out]; rfl), HB5.out⟩
          case measure => simp [intOf]; omega
    · have hx : ¬ k < xs.length := by omega
      have hy : ¬ k < ys.length := by omega
      go_wp2
      go_ret
      exact ⟨ret_int (rowsFrom_end HF.out hlt), HB.out⟩
theorem drows_eq (xs ys : List (List It)) : ∀ n i, Q.rowsFrom [] Q.cmpC xs ys n i = Q.rowsFrom [Q.zero] Q.cmpC xs ys n i
  | 0, _ => rfl
  | n + 1, i => by
    have h := Q.cmpC_part
    unfold Q.dpart at h
    unfold Q.rowsFrom
    rw [(h xs i _).1, (h ys i _).2, drows_eq xs ys n (i + 1)]
set_option maxHeartbeats 2000000 in
set_option maxRecDepth 100000 in
theorem dholdRows_any (a : Option Addr) (c : Nat) (xs : List (List It)) (b : Option Addr) (d : Nat) (ys : List (List It)) (w : World) (h1 : Rows2 w a xs) (h2 : Rows2 w b ys) :
    Calls Tryd.prog 139 #[.slice a xs.length c, .slice b ys.length d] w fun e w' => e = .returned (.int .i64 (Q.rows [] Q.cmpC xs ys)) ∧ Below w.heap.size w w' := by
  have hl1 := h1.len
  have hl2 := h2.len
  have H1 := Lib.hid h1
  have H2 := Lib.hid h2
  obtain ⟨M, hM⟩ : ∃ M, M = max xs.length ys.length := ⟨_, rfl⟩
  obtain ⟨R, hR⟩ : ∃ R, R = Q.rows [] Q.cmpC xs ys := ⟨_, rfl⟩
  have hq : Q.rowsFrom [Q.zero] Q.cmpC xs ys (M - 0) 0 = R := by rw [← drows_eq, hM, hR]; rfl
  rw [← hR]
  have hM1 : xs.length ≤ M := by omega
  have hM2 : ys.length ≤ M := by omega
  have hM3 : M ≤ xs.length ∨ M ≤ ys.length := by omega
  have HQ := Lib.hid hq
  clear h1 h2 hq hM hR
  go_enter Tryd.func139, Tryd.ntmps139
  go_wp2
  go_loopw [5, 6] (fun i _ wr => ∃ k : Nat, k ≤ M ∧ i = .int .i64 k ∧ Q.rowsFrom [Q.zero] Q.cmpC xs ys (M - k) k = R ∧ Below w.heap.size w wr) (fun i _ _ => M - (intOf i).toNat)
  case atStart => exact ⟨0, Nat.zero_le _, rfl, HQ.out, Below.refl _ _⟩
  case round =>
    obtain ⟨k, hk, rfl, hf, hbr⟩ := hrel
    have HF := Lib.hid hf
    have HB := Lib.hid hbr
    clear hf hbr HQ
    by_cases hlt : k < M
    · rcases (show k < xs.length ∨ (¬ k < xs.length ∧ k < ys.length) by omega) with hx | ⟨hx, hy⟩
      all_goals
        go_wp2_with fail
        (with_reducible refine (dpart_any a _ xs k _ (H1.out.below HB.out)).mono ?_)
        rintro e w2 ⟨a2, c2, rfl, hs2, hb2⟩
        have HB2 := Lib.hid (fin HB.out hb2)
        have HS2 := Lib.hid hs2
        clear hb2 hs2
        go_wp2_with fail
        (with_reducible refine (dpart_any b _ ys k _ (H2.out.below HB2.out)).mono ?_)
        rintro e w3 ⟨a3, c3, rfl, hs3, hb3⟩
        have HB3 := Lib.hid (fin HB2.out hb3)
        have HS3 := Lib.hid hs3
        have HS2' := Lib.hid (HS2.out.below stays_RIt hb3)
        clear hb3 hs3
        generalize hu : Q.dpart xs k = u at *
        generalize hv : Q.dpart ys k = v at *
        have HU := Lib.hid hu
        have HV := Lib.hid hv
        clear hu hv
        go_wp2_with fail
        (with_reducible refine (dhold_any a2 _ u a3 _ v _ HS2'.out HS3.out).mono ?_)
        rintro e w4 ⟨rfl, hb4⟩
        have HB4 := Lib.hid (fin HB3.out hb4)
        clear hb4
        have hh := rowsFrom_hit (z := [Q.zero]) (f := Q.cmpC) HF.out hlt
        have hm := rowsFrom_miss (z := [Q.zero]) (f := Q.cmpC) HF.out hlt
        unfold Q.dpart at HU HV
        rw [HU.out, HV.out] at hh hm
        have HH := Lib.hid hh
        have HM := Lib.hid hm
        clear hh hm
        generalize hr : Q.cmpC u v = r at *
        have HR := Lib.hid hr
        clear hr
        by_cases e1 : r = 0
        · have f1 : (r != 0) = false := by simp [e1]
          have F1 := Lib.hid f1
          clear e1
          go_wp2
          go_roundw
          case rel => exact ⟨k + 1, by omega, by go_num, HM.out F1.out, HB4.out⟩
          case measure => simp [intOf]; omega
        · have f1 : (r != 0) = true := by simpa using e1
          have F1 := Lib.hid f1
          clear e1
          go_wp2
          go_ret
          exact ⟨ret_int (HH.out F1.out), HB4.out⟩
    · have hx : ¬ k < xs.length := by omega
      have hy : ¬ k < ys.length := by omega
      go_wp2
      go_ret
      exact ⟨ret_int (rowsFrom_end HF.out hlt), HB.out⟩
set_option maxHeartbeats 1000000 in
theorem dcmpV_any (u v : Ver) (pa la pb lb : Option Addr) (pc lc pd ld : Nat) (w : World) (h1 : Rows2 w pa u.parts) (h2 : Rows2 w la u.loc) (h3 : Rows2 w pb v.parts) (h4 : Rows2 w lb v.loc) :
    Calls Tryd.prog 116 #[.agg #[.int .i64 u.ep, .slice pa u.parts.length pc, .slice la u.loc.length lc], .agg #[.int .i64 v.ep, .slice pb v.parts.length pd, .slice lb v.loc.length ld]] w fun e w' => e = .returned (.int .i64 (Q.cmpV u v)) ∧ Below w.heap.size w w' := by
  have H1 := Lib.hid h1
  have H2 := Lib.hid h2
  have H3 := Lib.hid h3
  have H4 := Lib.hid h4
  clear h1 h2 h3 h4
  by_cases e1 : u.ep < v.ep
  · have d1 : decide (u.ep < v.ep) = true := by simpa using e1
    have HE := Lib.hid e1
    clear e1
    go_enter Tryd.func116, Tryd.ntmps116
    go_wp2
    go_ret
    exact ⟨ret_int (by unfold Q.cmpV Q.or3 Q.cmpI; rw [if_pos HE.out]; simp), ((b1 _ _).alloc (by simp) _)⟩
  · by_cases e2 : v.ep < u.ep
    · have d1 : decide (u.ep < v.ep) = false := by simpa using e1
      have d2 : decide (v.ep < u.ep) = true := by simpa using e2
      have HE := Lib.hid e1
      have HF := Lib.hid e2
      clear e1 e2
      go_enter Tryd.func116, Tryd.ntmps116
      go_wp2
      go_ret
      exact ⟨ret_int (by unfold Q.cmpV Q.or3 Q.cmpI; rw [if_neg (Int.not_lt.2 HE.out), if_pos HF.out]; simp), ((b1 _ _).alloc (by simp) _)⟩
    · have hc0 : Q.cmpI u.ep v.ep = 0 := by unfold Q.cmpI; rw [if_neg e1, if_neg e2]
      have HC := Lib.hid hc0
      have d1 : decide (u.ep < v.ep) = false := by simpa using e1
      have d2 : decide (v.ep < u.ep) = false := by simpa using e2
      clear e1 e2 hc0
      go_enter Tryd.func116, Tryd.ntmps116
      go_wp2_with fail
      generalize hW : (w.alloc _).alloc _ = W
      have h0 : Below w.heap.size w W := by subst hW; exact ((Below.refl _ _).alloc (Nat.le_refl _) _).alloc (by simp) _
      obtain ⟨r1, r2, r3, r4⟩ : W.cell? ⟨w.heap.size, 1, none⟩ = some (.slice pa u.parts.length pc) ∧ W.cell? ⟨w.heap.size, 2, none⟩ = some (.slice la u.loc.length lc) ∧ W.cell? ⟨w.heap.size + 1, 1, none⟩ = some (.slice pb v.parts.length pd) ∧ W.cell? ⟨w.heap.size + 1, 2, none⟩ = some (.slice lb v.loc.length ld) := by
        subst hW; simp
      have hz : w.heap.size + 1 < W.heap.size := by subst hW; simp
      have H0 := Lib.hid h0
      clear h0 hW d1 d2
      (with_reducible refine (dholdRows_any _ _ _ _ _ _ _ (H1.out.below H0.out) (H3.out.below H0.out)).mono ?_)
      rintro e w2 ⟨rfl, hb⟩
      generalize hc1 : Q.rows [] Q.cmpC u.parts v.parts = c1
      have HC1 := Lib.hid hc1
      clear hc1
      obtain ⟨s2, s4⟩ : w2.cell? ⟨w.heap.size, 2, none⟩ = some (.slice la u.loc.length lc) ∧ w2.cell? ⟨w.heap.size + 1, 2, none⟩ = some (.slice lb v.loc.length ld) :=
        ⟨(hb.cell (p := ⟨w.heap.size, 2, none⟩) (by simp; omega)).trans r2, (hb.cell (p := ⟨w.heap.size + 1, 2, none⟩) (by simp; omega)).trans r4⟩
      have HB := Lib.hid hb
      clear hb r1 r2 r3 r4
      by_cases hc : c1 = 0
      · have f1 : (c1 != 0) = false := by simp [hc]
        have HE := Lib.hid hc
        clear hc
        go_wp2_with fail
        (with_reducible refine (dholdRows_any _ _ _ _ _ _ _ (H2.out.below (fin H0.out HB.out)) (H4.out.below (fin H0.out HB.out))).mono ?_)
        rintro e w3 ⟨rfl, hb3⟩
        go_wp2
        go_ret
        exact ⟨ret_int (by unfold Q.cmpV Q.or3; rw [HC.out, if_pos rfl, HC1.out, if_pos HE.out]), fin (fin H0.out HB.out) hb3⟩
      · have hb : (c1 != 0) = true := by simpa using hc
        go_wp2
        go_ret
        exact ⟨ret_int (by unfold Q.cmpV Q.or3; rw [HC.out, if_pos rfl, HC1.out, if_neg hc]), fin H0.out HB.out⟩
end Go.Proofs.YtpminhafljlldaaDoor
