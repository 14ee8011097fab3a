/- Contracts of version: at, rows, compareComponents, Compare, Begins, Shorter. -/
import Derived.Test.YtnmcajinaigcjaaGreatDoorQItem
namespace Go.Proofs.YtnmcajinaigcjaaGreatDoor
open Go.RowKit
open Q (It Ver Tm Sp Rc Dm)

theorem Sl.cells2 {w : World} {a : Option Addr} {xs : List It} (h : Sl RIt 2 w a xs) {i : Nat} {x : It} (hx : xs[i]? = some x) :
    ∃ b off, a = some ⟨b, off, none⟩ ∧ b < w.heap.size ∧ w.cell? ⟨b, off + i * 2, none⟩ = some (.int .i64 x.n) ∧ w.cell? ⟨b, off + i * 2 + 1, none⟩ = some (.string x.word) := by
  obtain ⟨b, off, e, hlt, hc⟩ := h.addr (by have := (List.getElem?_eq_some_iff.1 hx).1; omega)
  obtain ⟨us, u1, u2, u3, _⟩ := hc i x hx
  have c0 := u2 0 (by omega)
  have c1 := u2 1 (by omega)
  rw [u3] at c0 c1
  exact ⟨b, off, e, hlt, by simpa using c0, by simpa using c1⟩
theorem at1_in {α : Type} {l : List α} {i : Nat} {x z : α} (h : l[i]? = some x) : Q.at1 l i z = x := by unfold Q.at1; rw [h]; rfl
theorem at1_out {α : Type} {l : List α} {i : Nat} {z : α} (h : l.length ≤ i) : Q.at1 l i z = z := by unfold Q.at1; rw [List.getElem?_eq_none h]; rfl
theorem atIt_any (a : Option Addr) (c : Nat) (xs : List It) (i : Nat) (w : World) (h : Sl RIt 2 w a xs) :
    Calls Tryz.prog 153 #[.slice a xs.length c, .int .i64 i, .agg #[.int .i64 0, .string ⟨#[]⟩]] w fun e w' => e = .returned (.agg #[.int .i64 (Q.at1 xs i Q.zero).n, .string (Q.at1 xs i Q.zero).word]) ∧ Below w.heap.size w w' := by
  have hlen := h.len
  by_cases hi : i < xs.length
  · obtain ⟨x, hx⟩ : ∃ x, xs[i]? = some x := ⟨xs[i], by simp [hi]⟩
    obtain ⟨b, off, rfl, hlt, c0, c1⟩ := h.cells2 hx
    rw [at1_in hx]
    clear hx
    go_enter Tryz.func153, Tryz.ntmps153
    go_wp2
    exact bodyPost_ret (v := .agg #[.int .i64 x.n, .string x.word]) (by simp [results, Tryz.results153, go_sem]) rfl ⟨rfl, ((Below.refl _ _).alloc (Nat.le_refl _) _).alloc (by simp) _⟩
  · rw [at1_out (by omega)]
    show Calls _ _ _ _ fun e w' => e = .returned (.agg #[.int .i64 0, .string ⟨#[]⟩]) ∧ _
    go_enter Tryz.func153, Tryz.ntmps153
    go_wp2
    exact bodyPost_ret (v := .agg #[.int .i64 0, .string ⟨#[]⟩]) (by simp [results, Tryz.results153, go_sem]) rfl ⟨rfl, ((Below.refl _ _).alloc (Nat.le_refl _) _).alloc (by simp) _⟩

theorem Sl.cell1 {w : World} {a : Option Addr} {xs : List (List It)} (h : Sl (RS RIt 2) 1 w a xs) {i : Nat} {x : List It} (hx : xs[i]? = some x) :
    ∃ b off a' c', a = some ⟨b, off, none⟩ ∧ b < w.heap.size ∧ w.cell? ⟨b, off + i, none⟩ = some (.slice a' x.length c') ∧ (x.length ≤ c' ∧ (a' = none → c' = 0)) ∧ Sl RIt 2 w a' x := by
  obtain ⟨b, off, e, hlt, hc⟩ := h.addr (by have := (List.getElem?_eq_some_iff.1 hx).1; omega)
  obtain ⟨us, u1, u2, a', c', u3, u4, u5⟩ := hc i x hx
  have c0 := u2 0 (by omega)
  rw [u3] at c0
  exact ⟨b, off, a', c', e, hlt, by simpa using c0, u4, u5⟩
theorem sl_nil {α : Type} {R : Rd α} {k : Nat} {w : World} {a : Option Addr} : Sl R k w a [] := ⟨fun h => by simp at h, by simp⟩
/-- a list of items that came back -/
def IsRow (w : World) (xs : List It) (e : Ending) (w' : World) : Prop := ∃ a c, e = .returned (.slice a xs.length c) ∧ xs.length ≤ c ∧ Sl RIt 2 w a xs ∧ w = w'
theorem atRow_any (a : Option Addr) (c : Nat) (xs : List (List It)) (i : Nat) (w : World) (h : Sl (RS RIt 2) 1 w a xs) :
    Calls Tryz.prog 151 #[.slice a xs.length c, .int .i64 i, .slice none 0 0] w (IsRow w (Q.at1 xs i [])) := by
  have hlen := h.len
  by_cases hi : i < xs.length
  · obtain ⟨x, hx⟩ : ∃ x, xs[i]? = some x := ⟨xs[i], by simp [hi]⟩
    obtain ⟨b, off, a', c', rfl, hlt, c0, hc, hs⟩ := h.cell1 hx
    rw [at1_in hx]
    clear hx
    go_enter Tryz.func151, Tryz.ntmps151
    go_wp2
    go_ret
    exact ⟨a', c', rfl, hc.1, hs, rfl⟩
  · rw [at1_out (by omega)]
    go_enter Tryz.func151, Tryz.ntmps151
    go_wp2
    go_ret
    exact ⟨none, 0, rfl, Nat.le_refl _, sl_nil, rfl⟩
theorem rowsFrom_hit {α : Type} {z : α} {f : α → α → Int} {xs ys : List α} {M k : Nat} {r : Int} (h : Q.rowsFrom z f xs ys (M - k) k = r) (hk : k < M) (ht : (f (Q.at1 xs k z) (Q.at1 ys k z) != 0) = true) : f (Q.at1 xs k z) (Q.at1 ys k z) = r := by
  rw [← h, show M - k = (M - (k + 1)) + 1 by omega, Q.rowsFrom, if_pos (by simpa using ht)]
theorem rowsFrom_miss {α : Type} {z : α} {f : α → α → Int} {xs ys : List α} {M k : Nat} {r : Int} (h : Q.rowsFrom z f xs ys (M - k) k = r) (hk : k < M) (ht : (f (Q.at1 xs k z) (Q.at1 ys k z) != 0) = false) : Q.rowsFrom z f xs ys (M - (k + 1)) (k + 1) = r := by
  rw [← h, show M - k = (M - (k + 1)) + 1 by omega]
  conv => rhs; rw [Q.rowsFrom]
  rw [if_neg (by simpa using ht)]
theorem rowsFrom_end {α : Type} {z : α} {f : α → α → Int} {xs ys : List α} {M k : Nat} {r : Int} (h : Q.rowsFrom z f xs ys (M - k) k = r) (hk : ¬ k < M) : 0 = r := by
  rw [← h, show M - k = 0 by omega]; rfl
set_option maxHeartbeats 1000000 in
set_option maxRecDepth 100000 in
theorem rowsIt_lt (a : Option Addr) (c : Nat) (xs : List It) (b : Option Addr) (d : Nat) (ys : List It) (w : World) (h1 : Sl RIt 2 w a xs) (h2 : Sl RIt 2 w b ys) (hm : xs.length < ys.length) :
    Calls Tryz.prog 165 #[.slice a xs.length c, .slice b ys.length d, .agg #[.int .i64 0, .string ⟨#[]⟩], .func (.func 152) #[] #[]] w fun e w' => e = .returned (.int .i64 (Q.cmpC xs ys)) ∧ Below w.heap.size w w' := by
  have hl1 := h1.len
  have hl2 := h2.len
  have H1 := Lib.hid h1
  have H2 := Lib.hid h2
  have hq : Q.rowsFrom Q.zero Q.cmpIt xs ys ys.length 0 = Q.cmpC xs ys := by
    show _ = Q.rowsFrom Q.zero Q.cmpIt xs ys (max xs.length ys.length) 0
    rw [show max xs.length ys.length = ys.length by omega]
  have HQ := Lib.hid hq
  clear h1 h2 hq
  go_enter Tryz.func165, Tryz.ntmps165
  go_wp2
  generalize hW : w.alloc (Obj.cells #[Value.int IntKind.i64 0, Value.string ⟨#[]⟩] 181) = W
  have h0 : Below w.heap.size w W := by subst hW; exact (Below.refl _ _).alloc (Nat.le_refl _) _
  have hs : ∀ w', Below W.heap.size W w' → w'.cell? ⟨w.heap.size, 0, none⟩ = some (.int .i64 0) ∧ w'.cell? ⟨w.heap.size, 1, none⟩ = some (.string ⟨#[]⟩) := by
    intro w' hb
    have hz : W.heap.size = w.heap.size + 1 := by subst hW; simp
    refine ⟨(hb.cell (by simp; omega)).trans ?_, (hb.cell (by simp; omega)).trans ?_⟩ <;> (subst hW; simp)
  have hz1 : Sl RIt 2 W a xs := H1.out.below stays_RIt h0
  have hz2 : Sl RIt 2 W b ys := H2.out.below stays_RIt h0
  have HS := Lib.hid hs
  have H0 := Lib.hid h0
  have HZ1 := Lib.hid hz1
  have HZ2 := Lib.hid hz2
  clear hs h0 hW hz1 hz2 H1 H2
  go_loopw [9, 10, 16] (fun _ _ i wr => ∃ k : Nat, k ≤ ys.length ∧ i = .int .i64 k ∧ Q.rowsFrom Q.zero Q.cmpIt xs ys (ys.length - k) k = Q.cmpC xs ys ∧ Below W.heap.size W wr) (fun _ _ i _ => ys.length - (intOf i).toNat)
  case atStart => exact ⟨0, Nat.zero_le _, rfl, HQ.out, Below.refl _ _⟩
  case round =>
    obtain ⟨k, hk, rfl, hf, hbr⟩ := hrel
    have HF := Lib.hid hf
    have HB := Lib.hid hbr
    clear hf
    by_cases hlt : k < ys.length
    · obtain ⟨r0, r1⟩ := HS.out _ hbr
      clear hbr
      go_wp2
      go_region_held3 (fun w' => w'.cell? ⟨w.heap.size, 0, none⟩ = some (.int .i64 0) ∧ w'.cell? ⟨w.heap.size, 1, none⟩ = some (.string ⟨#[]⟩))
        (first | exact HS.out _ hb | exact HS.out _ hb.drew | exact HS.out _ HB.out.drew | go_keep)
        (first
        | (go_at_call 153; (first | (with_reducible refine (rel hb (atIt_any a _ xs k _ (HZ1.out.below stays_RIt hb))).mono ?_) | (with_reducible refine (rel HB.out.drew (atIt_any a _ xs k _ (HZ1.out.below stays_RIt HB.out.drew))).mono ?_) | (with_reducible refine (rel hb (atIt_any b _ ys k _ (HZ2.out.below stays_RIt hb))).mono ?_) | (with_reducible refine (rel HB.out.drew (atIt_any b _ ys k _ (HZ2.out.below stays_RIt HB.out.drew))).mono ?_)); rintro e w2 ⟨rfl, hb⟩)
        | (go_at_call 152; (with_reducible refine (rel hb (cmpItems_any (Q.at1 xs k Q.zero) (Q.at1 ys k Q.zero) _)).mono ?_); rintro e w2 ⟨rfl, hb⟩))
      all_goals
        go_wp2
        · have ht : (Q.cmpIt (Q.at1 xs k Q.zero) (Q.at1 ys k Q.zero) != 0) = true := by assumption
          go_ret
          exact ⟨ret_int (rowsFrom_hit HF.out hlt ht), fin H0.out hb⟩
        · have ht : (Q.cmpIt (Q.at1 xs k Q.zero) (Q.at1 ys k Q.zero) != 0) = false := by assumption
          go_roundw
          case rel => exact ⟨k + 1, by omega, by go_num, rowsFrom_miss HF.out hlt ht, hb⟩
          case measure => simp [intOf]; omega
    · go_wp2
      go_ret
      exact ⟨ret_int (rowsFrom_end HF.out hlt), fin H0.out HB.out⟩
set_option maxHeartbeats 1000000 in
set_option maxRecDepth 100000 in
theorem rowsIt_ge (a : Option Addr) (c : Nat) (xs : List It) (b : Option Addr) (d : Nat) (ys : List It) (w : World) (h1 : Sl RIt 2 w a xs) (h2 : Sl RIt 2 w b ys) (hm : ys.length ≤ xs.length) :
    Calls Tryz.prog 165 #[.slice a xs.length c, .slice b ys.length d, .agg #[.int .i64 0, .string ⟨#[]⟩], .func (.func 152) #[] #[]] w fun e w' => e = .returned (.int .i64 (Q.cmpC xs ys)) ∧ Below w.heap.size w w' := by
  have hl1 := h1.len
  have hl2 := h2.len
  have H1 := Lib.hid h1
  have H2 := Lib.hid h2
  have hq : Q.rowsFrom Q.zero Q.cmpIt xs ys xs.length 0 = Q.cmpC xs ys := by
    show _ = Q.rowsFrom Q.zero Q.cmpIt xs ys (max xs.length ys.length) 0
    rw [show max xs.length ys.length = xs.length by omega]
  have HQ := Lib.hid hq
  clear h1 h2 hq
  go_enter Tryz.func165, Tryz.ntmps165
  go_wp2
  generalize hW : w.alloc (Obj.cells #[Value.int IntKind.i64 0, Value.string ⟨#[]⟩] 181) = W
  have h0 : Below w.heap.size w W := by subst hW; exact (Below.refl _ _).alloc (Nat.le_refl _) _
  have hs : ∀ w', Below W.heap.size W w' → w'.cell? ⟨w.heap.size, 0, none⟩ = some (.int .i64 0) ∧ w'.cell? ⟨w.heap.size, 1, none⟩ = some (.string ⟨#[]⟩) := by
    intro w' hb
    have hz : W.heap.size = w.heap.size + 1 := by subst hW; simp
    refine ⟨(hb.cell (by simp; omega)).trans ?_, (hb.cell (by simp; omega)).trans ?_⟩ <;> (subst hW; simp)
  have hz1 : Sl RIt 2 W a xs := H1.out.below stays_RIt h0
  have hz2 : Sl RIt 2 W b ys := H2.out.below stays_RIt h0
  have HS := Lib.hid hs
  have H0 := Lib.hid h0
  have HZ1 := Lib.hid hz1
  have HZ2 := Lib.hid hz2
  clear hs h0 hW hz1 hz2 H1 H2
  go_loopw [9, 10, 16] (fun _ _ i wr => ∃ k : Nat, k ≤ xs.length ∧ i = .int .i64 k ∧ Q.rowsFrom Q.zero Q.cmpIt xs ys (xs.length - k) k = Q.cmpC xs ys ∧ Below W.heap.size W wr) (fun _ _ i _ => xs.length - (intOf i).toNat)
  case atStart => exact ⟨0, Nat.zero_le _, rfl, HQ.out, Below.refl _ _⟩
  case round =>
    obtain ⟨k, hk, rfl, hf, hbr⟩ := hrel
    have HF := Lib.hid hf
    have HB := Lib.hid hbr
    clear hf
    by_cases hlt : k < xs.length
    · obtain ⟨r0, r1⟩ := HS.out _ hbr
      clear hbr
      go_wp2
      go_region_held3 (fun w' => w'.cell? ⟨w.heap.size, 0, none⟩ = some (.int .i64 0) ∧ w'.cell? ⟨w.heap.size, 1, none⟩ = some (.string ⟨#[]⟩))
        (first | exact HS.out _ hb | exact HS.out _ hb.drew | exact HS.out _ HB.out.drew | go_keep)
        (first
        | (go_at_call 153; (first | (with_reducible refine (rel hb (atIt_any a _ xs k _ (HZ1.out.below stays_RIt hb))).mono ?_) | (with_reducible refine (rel HB.out.drew (atIt_any a _ xs k _ (HZ1.out.below stays_RIt HB.out.drew))).mono ?_) | (with_reducible refine (rel hb (atIt_any b _ ys k _ (HZ2.out.below stays_RIt hb))).mono ?_) | (with_reducible refine (rel HB.out.drew (atIt_any b _ ys k _ (HZ2.out.below stays_RIt HB.out.drew))).mono ?_)); rintro e w2 ⟨rfl, hb⟩)
        | (go_at_call 152; (with_reducible refine (rel hb (cmpItems_any (Q.at1 xs k Q.zero) (Q.at1 ys k Q.zero) _)).mono ?_); rintro e w2 ⟨rfl, hb⟩))
      all_goals
        go_wp2
        · have ht : (Q.cmpIt (Q.at1 xs k Q.zero) (Q.at1 ys k Q.zero) != 0) = true := by assumption
          go_ret
          exact ⟨ret_int (rowsFrom_hit HF.out hlt ht), fin H0.out hb⟩
        · have ht : (Q.cmpIt (Q.at1 xs k Q.zero) (Q.at1 ys k Q.zero) != 0) = false := by assumption
          go_roundw
          case rel => exact ⟨k + 1, by omega, by go_num, rowsFrom_miss HF.out hlt ht, hb⟩
          case measure => simp [intOf]; omega
    · go_wp2
      go_ret
      exact ⟨ret_int (rowsFrom_end HF.out hlt), fin H0.out HB.out⟩
theorem rowsIt_any (a : Option Addr) (c : Nat) (xs : List It) (b : Option Addr) (d : Nat) (ys : List It) (w : World) (h1 : Sl RIt 2 w a xs) (h2 : Sl RIt 2 w b ys) :
    Calls Tryz.prog 165 #[.slice a xs.length c, .slice b ys.length d, .agg #[.int .i64 0, .string ⟨#[]⟩], .func (.func 152) #[] #[]] w fun e w' => e = .returned (.int .i64 (Q.cmpC xs ys)) ∧ Below w.heap.size w w' := by
  rcases Nat.lt_or_ge xs.length ys.length with h | h
  · exact rowsIt_lt a c xs b d ys w h1 h2 h
  · exact rowsIt_ge a c xs b d ys w h1 h2 h
theorem cmpC_any (a : Option Addr) (c : Nat) (xs : List It) (b : Option Addr) (d : Nat) (ys : List It) (w : World) (h1 : Sl RIt 2 w a xs) (h2 : Sl RIt 2 w b ys) :
    Calls Tryz.prog 150 #[.slice a xs.length c, .slice b ys.length d] w fun e w' => e = .returned (.int .i64 (Q.cmpC xs ys)) ∧ Below w.heap.size w w' := by
  have hl1 := h1.len
  have hl2 := h2.len
  go_enter Tryz.func150, Tryz.ntmps150
  go_wp2_with fail
  refine (rowsIt_any _ _ _ _ _ _ _ h1 h2).mono ?_
  rintro e w2 ⟨rfl, hb⟩
  go_wp2
  go_ret
  exact ⟨rfl, hb⟩
set_option maxHeartbeats 1000000 in
set_option maxRecDepth 100000 in
theorem rowsRow_lt (a : Option Addr) (c : Nat) (xs : List (List It)) (b : Option Addr) (d : Nat) (ys : List (List It)) (w : World) (h1 : Sl (RS RIt 2) 1 w a xs) (h2 : Sl (RS RIt 2) 1 w b ys) (hm : xs.length < ys.length) :
    Calls Tryz.prog 149 #[.slice a xs.length c, .slice b ys.length d, .slice none 0 0, .func (.func 150) #[] #[]] w fun e w' => e = .returned (.int .i64 (Q.rows [] Q.cmpC xs ys)) ∧ Below w.heap.size w w' := by
  have hl1 := h1.len
  have hl2 := h2.len
  have H1 := Lib.hid h1
  have H2 := Lib.hid h2
  have hq : Q.rowsFrom [] Q.cmpC xs ys ys.length 0 = Q.rows [] Q.cmpC xs ys := by
    show _ = Q.rowsFrom [] Q.cmpC xs ys (max xs.length ys.length) 0
    rw [show max xs.length ys.length = ys.length by omega]
  have HQ := Lib.hid hq
  clear h1 h2 hq
  go_enter Tryz.func149, Tryz.ntmps149
  go_wp2
  go_loopw [9, 10, 16] (fun _ _ i wr => ∃ k : Nat, k ≤ ys.length ∧ i = .int .i64 k ∧ Q.rowsFrom [] Q.cmpC xs ys (ys.length - k) k = Q.rows [] Q.cmpC xs ys ∧ Below w.heap.size w wr) (fun _ _ i _ => ys.length - (intOf i).toNat)
  case atStart => exact ⟨0, Nat.zero_le _, rfl, HQ.out, Below.refl _ _⟩
  case round =>
    obtain ⟨k, hk, rfl, hf, hbr⟩ := hrel
    have HF := Lib.hid hf
    have HB := Lib.hid hbr
    clear hf hbr
    by_cases hlt : k < ys.length
    · go_wp2_with fail
      (with_reducible refine (atRow_any a _ xs k _ (H1.out.below (stays_RS stays_RIt) HB.out)).mono ?_)
      rintro e w2 ⟨a1, c1, rfl, hc1, hs1, rfl⟩
      have HS1 := Lib.hid hs1
      clear hs1
      go_wp2_with fail
      (with_reducible refine (atRow_any b _ ys k _ (H2.out.below (stays_RS stays_RIt) HB.out)).mono ?_)
      rintro e w2 ⟨a2, c2, rfl, hc2, hs2, rfl⟩
      have HS2 := Lib.hid hs2
      clear hs2
      go_wp2_with fail
      (with_reducible refine (rel HB.out (cmpC_any _ _ _ _ _ _ _ HS1.out HS2.out)).mono ?_)
      rintro e w2 ⟨rfl, hb⟩
      go_wp2
      · have ht : (Q.cmpC (Q.at1 xs k []) (Q.at1 ys k []) != 0) = true := by assumption
        go_ret
        exact ⟨ret_int (rowsFrom_hit HF.out hlt ht), hb⟩
      · have ht : (Q.cmpC (Q.at1 xs k []) (Q.at1 ys k []) != 0) = false := by assumption
        go_roundw
        case rel => exact ⟨k + 1, by omega, by go_num, rowsFrom_miss HF.out hlt ht, hb⟩
        case measure => simp [intOf]; omega
    · go_wp2
      go_ret
      exact ⟨ret_int (rowsFrom_end HF.out hlt), HB.out⟩
set_option maxHeartbeats 1000000 in
set_option maxRecDepth 100000 in
theorem rowsRow_ge (a : Option Addr) (c : Nat) (xs : List (List It)) (b : Option Addr) (d : Nat) (ys : List (List It)) (w : World) (h1 : Sl (RS RIt 2) 1 w a xs) (h2 : Sl (RS RIt 2) 1 w b ys) (hm : ys.length ≤ xs.length) :
    Calls Tryz.prog 149 #[.slice a xs.length c, .slice b ys.length d, .slice none 0 0, .func (.func 150) #[] #[]] w fun e w' => e = .returned (.int .i64 (Q.rows [] Q.cmpC xs ys)) ∧ Below w.heap.size w w' := by
  have hl1 := h1.len
  have hl2 := h2.len
  have H1 := Lib.hid h1
  have H2 := Lib.hid h2
  have hq : Q.rowsFrom [] Q.cmpC xs ys xs.length 0 = Q.rows [] Q.cmpC xs ys := by
    show _ = Q.rowsFrom [] Q.cmpC xs ys (max xs.length ys.length) 0
    rw [show max xs.length ys.length = xs.length by omega]
  have HQ := Lib.hid hq
  clear h1 h2 hq
  go_enter Tryz.func149, Tryz.ntmps149
  go_wp2
  go_loopw [9, 10, 16] (fun _ _ i wr => ∃ k : Nat, k ≤ xs.length ∧ i = .int .i64 k ∧ Q.rowsFrom [] Q.cmpC xs ys (xs.length - k) k = Q.rows [] Q.cmpC xs ys ∧ Below w.heap.size w wr) (fun _ _ i _ => xs.length - (intOf i).toNat)
  case atStart => exact ⟨0, Nat.zero_le _, rfl, HQ.out, Below.refl _ _⟩
  case round =>
    obtain ⟨k, hk, rfl, hf, hbr⟩ := hrel
    have HF := Lib.hid hf
    have HB := Lib.hid hbr
    clear hf hbr
    by_cases hlt : k < xs.length
    · go_wp2_with fail
      (with_reducible refine (atRow_any a _ xs k _ (H1.out.below (stays_RS stays_RIt) HB.out)).mono ?_)
      rintro e w2 ⟨a1, c1, rfl, hc1, hs1, rfl⟩
      have HS1 := Lib.hid hs1
      clear hs1
      go_wp2_with fail
      (with_reducible refine (atRow_any b _ ys k _ (H2.out.below (stays_RS stays_RIt) HB.out)).mono ?_)
      rintro e w2 ⟨a2, c2, rfl, hc2, hs2, rfl⟩
      have HS2 := Lib.hid hs2
      clear hs2
      go_wp2_with fail
      (with_reducible refine (rel HB.out (cmpC_any _ _ _ _ _ _ _ HS1.out HS2.out)).mono ?_)
      rintro e w2 ⟨rfl, hb⟩
      go_wp2
      · have ht : (Q.cmpC (Q.at1 xs k []) (Q.at1 ys k []) != 0) = true := by assumption
        go_ret
        exact ⟨ret_int (rowsFrom_hit HF.out hlt ht), hb⟩
      · have ht : (Q.cmpC (Q.at1 xs k []) (Q.at1 ys k []) != 0) = false := by assumption
        go_roundw
        case rel => exact ⟨k + 1, by omega, by go_num, rowsFrom_miss HF.out hlt ht, hb⟩
        case measure => simp [intOf]; omega
    · go_wp2
      go_ret
      exact ⟨ret_int (rowsFrom_end HF.out hlt), HB.out⟩
theorem rowsRow_any (a : Option Addr) (c : Nat) (xs : List (List It)) (b : Option Addr) (d : Nat) (ys : List (List It)) (w : World) (h1 : Sl (RS RIt 2) 1 w a xs) (h2 : Sl (RS RIt 2) 1 w b ys) :
    Calls Tryz.prog 149 #[.slice a xs.length c, .slice b ys.length d, .slice none 0 0, .func (.func 150) #[] #[]] w fun e w' => e = .returned (.int .i64 (Q.rows [] Q.cmpC xs ys)) ∧ Below w.heap.size w w' := by
  rcases Nat.lt_or_ge xs.length ys.length with h | h
  · exact rowsRow_lt a c xs b d ys w h1 h2 h
  · exact rowsRow_ge a c xs b d ys w h1 h2 h
end Go.Proofs.YtnmcajinaigcjaaGreatDoor
