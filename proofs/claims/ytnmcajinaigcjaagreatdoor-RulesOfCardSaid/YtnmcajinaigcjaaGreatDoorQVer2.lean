/- Contracts of version: Compare, Begins. -/
import Derived.Test.YtnmcajinaigcjaaGreatDoorQVer
namespace Go.Proofs.YtnmcajinaigcjaaGreatDoor
open Go.RowKit
open Q (It Ver Tm Sp Rc Dm)

/-- a version's rows of components -/
abbrev Rows2 (w : World) (a : Option Addr) (xs : List (List It)) : Prop := Sl (RS RIt 2) 1 w a xs
theorem Rows2.below {w w' : World} {a : Option Addr} {xs : List (List It)} (h : Rows2 w a xs) (hb : Below w.heap.size w w') : Rows2 w' a xs := Sl.below (stays_RS stays_RIt) h hb
set_option maxHeartbeats 1000000 in
theorem cmpV_any (u v : Ver) (pa la pb lb : Option Addr) (pc lc pd ld : Nat) (w : World) (h1 : Rows2 w pa u.parts) (h2 : Rows2 w la u.loc) (h3 : Rows2 w pb v.parts) (h4 : Rows2 w lb v.loc) :
    Calls Tryz.prog 130 #[.agg #[.int .i64 u.ep, .slice pa u.parts.length pc, .slice la u.loc.length lc], .agg #[.int .i64 v.ep, .slice pb v.parts.length pd, .slice lb v.loc.length ld]] w fun e w' => e = .returned (.int .i64 (Q.cmpV u v)) ∧ Below w.heap.size w w' := by
  have hl1 := h1.len
  have hl2 := h2.len
  have hl3 := h3.len
  have hl4 := h4.len
  have H1 := Lib.hid h1
  have H2 := Lib.hid h2
  have H3 := Lib.hid h3
  have H4 := Lib.hid h4
  clear h1 h2 h3 h4
  generalize hc0 : Q.cmpI u.ep v.ep = c0
  go_enter Tryz.func130, Tryz.ntmps130
  go_wp2_with fail
  generalize hW : (w.alloc _).alloc _ = W
  have h0 : Below w.heap.size w W := by subst hW; exact ((Below.refl _ _).alloc (Nat.le_refl _) _).alloc (by simp) _
  obtain ⟨r1, r2, r3, r4⟩ : W.cell? ⟨w.heap.size, 1, none⟩ = some (.slice pa u.parts.length pc) ∧ W.cell? ⟨w.heap.size, 2, none⟩ = some (.slice la u.loc.length lc) ∧ W.cell? ⟨w.heap.size + 1, 1, none⟩ = some (.slice pb v.parts.length pd) ∧ W.cell? ⟨w.heap.size + 1, 2, none⟩ = some (.slice lb v.loc.length ld) := by
    subst hW; simp
  have hz : w.heap.size + 1 < W.heap.size := by subst hW; simp
  have H0 := Lib.hid h0
  have HC := Lib.hid hc0
  clear h0 hW hc0
  refine (compare_any _ _ _).mono ?_
  rintro e w2 ⟨rfl, rfl⟩
  rw [HC.out]
  by_cases hc : c0 = 0
  · subst hc
    go_wp2_with fail
    refine (rowsRow_any _ _ _ _ _ _ _ (H1.out.below H0.out) (H3.out.below H0.out)).mono ?_
    rintro e w2 ⟨rfl, hb⟩
    generalize hc1 : Q.rows [] Q.cmpC u.parts v.parts = c1
    have HC1 := Lib.hid hc1
    clear hc1
    obtain ⟨s2, s4⟩ : w2.cell? ⟨w.heap.size, 2, none⟩ = some (.slice la u.loc.length lc) ∧ w2.cell? ⟨w.heap.size + 1, 2, none⟩ = some (.slice lb v.loc.length ld) :=
      ⟨(hb.cell (p := ⟨w.heap.size, 2, none⟩) (by simp; omega)).trans r2, (hb.cell (p := ⟨w.heap.size + 1, 2, none⟩) (by simp; omega)).trans r4⟩
    have HB := Lib.hid hb
    clear hb r1 r2 r3 r4
    by_cases hc : c1 = 0
    · subst hc
      go_wp2_with fail
      refine (rowsRow_any _ _ _ _ _ _ _ (H2.out.below (fin H0.out HB.out)) (H4.out.below (fin H0.out HB.out))).mono ?_
      rintro e w3 ⟨rfl, hb3⟩
      go_wp2
      go_ret
      exact ⟨ret_int (by unfold Q.cmpV Q.or3; rw [HC.out, if_pos rfl, HC1.out, if_pos rfl]), fin (fin H0.out HB.out) hb3⟩
    · have hb : (c1 != 0) = true := by simpa using hc
      go_wp2
      go_ret
      exact ⟨ret_int (by unfold Q.cmpV Q.or3; rw [HC.out, if_pos rfl, HC1.out, if_neg hc]), fin H0.out HB.out⟩
  · have hb : (c0 != 0) = true := by simpa using hc
    go_wp2
    go_ret
    exact ⟨ret_int (by unfold Q.cmpV Q.or3; rw [HC.out, if_neg hc]), H0.out⟩

theorem begins_no {u v : Ver} (h : u.ep ≠ v.ep ∨ 0 < v.loc.length ∨ v.parts.length = 0) : Q.begins u v = false := by
  unfold Q.begins
  rcases h with h | h | h <;> simp [h]
theorem all_range_miss {n k : Nat} {p : Nat → Bool} (hk : k < n) (h : p k = false) : (List.range n).all p = false := by
  rw [List.all_eq_false]; exact ⟨k, by simpa using hk, by simp [h]⟩
theorem all_range_all {n : Nat} {p : Nat → Bool} (h : ∀ k, k < n → p k = true) : (List.range n).all p = true := by
  rw [List.all_eq_true]; intro k hk; exact h k (by simpa using hk)
theorem begins_miss {u v : Ver} {k : Nat} (hk : k < v.parts.length - 1) (h : Q.cmpC (Q.at1 u.parts k []) (Q.at1 v.parts k []) ≠ 0) : Q.begins u v = false := by
  unfold Q.begins
  rw [all_range_miss hk (by simpa using h)]; simp
theorem beginsC_miss {y x : List It} {k : Nat} (hk : k < x.length) (h : Q.cmpIt (Q.at1 y k Q.zero) (Q.at1 x k Q.zero) ≠ 0) : Q.beginsC y x = false := by
  unfold Q.beginsC
  rw [all_range_miss hk (by simpa using h)]
theorem begins_lastmiss {u v : Ver} {x : List It} (h0 : v.parts[v.parts.length - 1]? = some x) (h : Q.beginsC (Q.at1 u.parts (v.parts.length - 1) []) x = false) : Q.begins u v = false := by
  unfold Q.begins
  rw [at1_in h0, h]; simp
theorem begins_yes {u v : Ver} {x : List It} (he : u.ep = v.ep) (hl : ¬ 0 < v.loc.length) (hp : 1 ≤ v.parts.length) (hf : ∀ j, j < v.parts.length - 1 → (Q.cmpC (Q.at1 u.parts j []) (Q.at1 v.parts j []) == 0) = true) (h0 : v.parts[v.parts.length - 1]? = some x)
    (h : ∀ j, j < x.length → (Q.cmpIt (Q.at1 (Q.at1 u.parts (v.parts.length - 1) []) j Q.zero) (Q.at1 x j Q.zero) == 0) = true) : Q.begins u v = true := by
  unfold Q.begins Q.beginsC
  rw [at1_in h0, all_range_all hf, all_range_all h]
  simp [he]; constructor
  · simpa using hl
  · intro e; rw [e] at hp; simp at hp
theorem upto_snoc {k : Nat} {f : Nat → Int} (h : ∀ j, j < k → (f j == 0) = true) (hk : f k = 0) : ∀ j, j < k + 1 → (f j == 0) = true := fun j hj => by
  rcases Nat.lt_or_ge j k with h' | h'
  · exact h j h'
  · rw [show j = k by omega, hk]; rfl
set_option maxHeartbeats 2000000 in
set_option maxRecDepth 100000 in
theorem begins_any (u v : Ver) (pa la pb lb : Option Addr) (pc lc pd ld : Nat) (w : World) (h1 : Rows2 w pa u.parts) (h3 : Rows2 w pb v.parts) (_hl2 : u.loc.length ≤ 5864062014805) (_hl4 : v.loc.length ≤ 5864062014805) :
    Calls Tryz.prog 131 #[.agg #[.int .i64 u.ep, .slice pa u.parts.length pc, .slice la u.loc.length lc], .agg #[.int .i64 v.ep, .slice pb v.parts.length pd, .slice lb v.loc.length ld]] w fun e w' => e = .returned (.bool (Q.begins u v)) ∧ Below w.heap.size w w' := by
  have hl1 := h1.len
  have hl3 := h3.len
  have H1 := Lib.hid h1
  have H3 := Lib.hid h3
  clear h1 h3
  by_cases he : u.ep = v.ep
  · by_cases hlc : 0 < v.loc.length
    · have hd : (u.ep != v.ep) = false := by simp [he]
      have HN := Lib.hid (begins_no (u := u) (v := v) (.inr (.inl hlc)))
      clear he
      go_enter Tryz.func131, Tryz.ntmps131
      go_wp2
      go_ret
      exact ⟨ret_bool HN.out.symm, ((Below.refl _ _).alloc (Nat.le_refl _) _).alloc (by simp) _⟩
    · by_cases hp : v.parts.length = 0
      · have hd : (u.ep != v.ep) = false := by simp [he]
        have hq : ((v.parts.length : Int) == 0) = true := by simp [hp]
        have HN := Lib.hid (begins_no (u := u) (v := v) (.inr (.inr hp)))
        clear he hp
        go_enter Tryz.func131, Tryz.ntmps131
        go_wp2
        go_ret
        exact ⟨ret_bool HN.out.symm, ((Below.refl _ _).alloc (Nat.le_refl _) _).alloc (by simp) _⟩
      · have hd : (u.ep != v.ep) = false := by simp [he]
        have hq : ((v.parts.length : Int) == 0) = false := by rw [beq_eq_false_iff_ne]; omega
        have HE := Lib.hid he
        have hp1 : 1 ≤ v.parts.length := by omega
        clear he hp
        go_enter Tryz.func131, Tryz.ntmps131
        go_wp2
        generalize hW : (w.alloc _).alloc _ = W
        have h0 : Below w.heap.size w W := by subst hW; exact ((Below.refl _ _).alloc (Nat.le_refl _) _).alloc (by simp) _
        have hs : ∀ w', Below W.heap.size W w' → w'.cell? ⟨w.heap.size, 1, none⟩ = some (.slice pa u.parts.length pc) ∧ w'.cell? ⟨w.heap.size + 1, 1, none⟩ = some (.slice pb v.parts.length pd) := by
          intro w' hb
          have hz : W.heap.size = w.heap.size + 2 := by subst hW; simp
          refine ⟨(hb.cell (by simp; omega)).trans ?_, (hb.cell (by simp; omega)).trans ?_⟩ <;> (subst hW; simp)
        have HS := Lib.hid hs
        have H0 := Lib.hid h0
        have HU := Lib.hid (H1.out.below h0)
        have HV := Lib.hid (H3.out.below h0)
        clear hs h0 hW H1 H3
        go_loopw [6, 32] (fun _ i wr => ∃ k : Nat, k ≤ v.parts.length - 1 ∧ i = .int .i64 k ∧ (∀ j, j < k → (Q.cmpC (Q.at1 u.parts j []) (Q.at1 v.parts j []) == 0) = true) ∧ Below W.heap.size W wr) (fun _ i _ => v.parts.length - 1 - (intOf i).toNat)
        case atStart => exact ⟨0, Nat.zero_le _, rfl, (fun j hj => by omega), Below.refl _ _⟩
        case round =>
          obtain ⟨k, hk, rfl, hf, hbr⟩ := hrel
          have HF := Lib.hid hf
          have HB := Lib.hid hbr
          obtain ⟨r0, r1⟩ := HS.out _ hbr
          clear hf
          by_cases hlt : k < v.parts.length - 1
          · have hlt1 : (k : Int) < (v.parts.length : Int) - 1 := by omega
            have hlt2 : k < v.parts.length := by omega
            obtain ⟨x, hx⟩ : ∃ x, v.parts[k]? = some x := ⟨v.parts[k], by simp [hlt2]⟩
            obtain ⟨b, off, a', c', rfl, hbl, hcell, ⟨hcl, _⟩, hsl⟩ := (HV.out.below hbr).cell1 hx
            have hbl2 : b < W.heap.size := by obtain ⟨b2, off2, a2, c2, e2, h2, _⟩ := HV.out.cell1 hx; cases e2; exact h2
            have HX := Lib.hid hx
            have HSL := Lib.hid hsl
            have HC0 := Lib.hid ((bcell hbr).1 b (off + k) hbl2 ▸ hcell)
            clear hx hsl hbr
            go_wp2
            go_region_held3 (fun w' => w'.cell? ⟨w.heap.size, 1, none⟩ = some (.slice pa u.parts.length pc) ∧ w'.cell? ⟨w.heap.size + 1, 1, none⟩ = some (.slice (some ⟨b, off, none⟩) v.parts.length pd) ∧ w'.cell? ⟨b, off + k, none⟩ = some (.slice a' x.length c'))
              (first | exact ⟨r0, r1, hcell⟩ | exact ⟨(HS.out _ hb).1, (HS.out _ hb).2, (hb.cell hbl2).trans HC0.out⟩ | go_keep)
              (first
              | (go_at_call 151; (with_reducible refine (atRow_any pa _ u.parts k _ (HU.out.below HB.out.drew)).mono ?_); rintro e w2 ⟨a1, c1, rfl, hc1, hs1, rfl⟩; have HS1 := Lib.hid hs1; clear hs1)
              | (go_at_call 150; (with_reducible refine (rel HB.out.drew (cmpC_any _ _ _ _ _ _ _ HS1.out (HSL.out.below stays_RIt ((Below.refl _ _).drew)))).mono ?_); rintro e w2 ⟨rfl, hb⟩))
            all_goals
              go_wp2
              · have ht : (Q.cmpC (Q.at1 u.parts k []) x != 0) = true := by assumption
                go_ret
                exact ⟨ret_bool (begins_miss hlt (by rw [at1_in HX.out]; simpa using ht)).symm, fin H0.out hb⟩
              · have ht : (Q.cmpC (Q.at1 u.parts k []) x != 0) = false := by assumption
                go_roundw
                case rel => exact ⟨k + 1, by omega, by go_num, upto_snoc HF.out (by rw [at1_in HX.out]; simpa using ht), hb⟩
                case measure => simp [intOf]; omega
          · have hge : (v.parts.length : Int) - 1 ≤ (k : Int) := by omega
            have hke : k = v.parts.length - 1 := by omega
            have HK := Lib.hid hke
            have hdd : decide ((k : Int) < (v.parts.length : Int) - 1) = false := by simp; omega
            obtain ⟨x, hx⟩ : ∃ x, v.parts[k]? = some x := ⟨v.parts[k], by simp⟩
            obtain ⟨b, off, a', c', rfl, hbl, hcell, ⟨hcl, _⟩, hsl⟩ := (HV.out.below hbr).cell1 hx
            have hxl := hsl.len
            have hka : (v.parts.length : Int) - 1 = (k : Int) := by omega
            have HX := Lib.hid hx
            have HSL := Lib.hid hsl
            clear hx hsl hbr hke
            rw [hka]
            clear hka
            go_wp2_with fail
            (with_reducible refine (atRow_any pa _ u.parts k _ (HU.out.below HB.out)).mono ?_)
            rintro e w2 ⟨a1, c1, rfl, hc1, hs1, rfl⟩
            have HS1 := Lib.hid hs1
            clear hs1
            go_wp2
            obtain ⟨wl, hwl⟩ : ∃ x, x = wr := ⟨_, rfl⟩
            subst hwl
            generalize hy : Q.at1 u.parts k [] = y at *
            have HY := Lib.hid hy
            clear hy r0 r1 hcell
            go_loopw [8, 9, 57] (fun _ _ i wr => ∃ t : Nat, t ≤ x.length ∧ i = .int .i64 t ∧ (∀ j, j < t → (Q.cmpIt (Q.at1 y j Q.zero) (Q.at1 x j Q.zero) == 0) = true) ∧ Below wl.heap.size wl wr) (fun _ _ i _ => x.length - (intOf i).toNat)
            case atStart => exact ⟨0, Nat.zero_le _, rfl, (fun j hj => by omega), Below.refl _ _⟩
            case round =>
              obtain ⟨t, ht, rfl, hf, hbr⟩ := hrel
              have HF2 := Lib.hid hf
              have HB2 := Lib.hid hbr
              clear hf
              by_cases htl : t < x.length
              · obtain ⟨z, hz⟩ : ∃ z, x[t]? = some z := ⟨x[t], by simp [htl]⟩
                obtain ⟨b3, off3, rfl, hbl3, hc30, hc31⟩ := (HSL.out.below stays_RIt hbr).cells2 hz
                have HZ := Lib.hid hz
                clear hz hbr
                go_wp2
                generalize hW3 : wr.alloc _ = W3
                have h3 : Below wr.heap.size wr W3 := by subst hW3; exact (Below.refl _ _).alloc (Nat.le_refl _) _
                have hs3 : ∀ w', Below W3.heap.size W3 w' → w'.cell? ⟨wr.heap.size, 0, none⟩ = some (.int .i64 z.n) ∧ w'.cell? ⟨wr.heap.size, 1, none⟩ = some (.string z.word) := by
                  intro w' hb
                  have hz : W3.heap.size = wr.heap.size + 1 := by subst hW3; simp
                  refine ⟨(hb.cell (by simp; omega)).trans ?_, (hb.cell (by simp; omega)).trans ?_⟩ <;> (subst hW3; simp)
                have HS3 := Lib.hid hs3
                have H3 := Lib.hid h3
                have HY3 := Lib.hid (HS1.out.below stays_RIt (fin HB2.out h3))
                obtain ⟨r30, r31⟩ := hs3 W3 (Below.refl _ _)
                clear hs3 h3 hW3
                go_region_held3 (fun w' => w'.cell? ⟨wr.heap.size, 0, none⟩ = some (.int .i64 z.n) ∧ w'.cell? ⟨wr.heap.size, 1, none⟩ = some (.string z.word))
                  (first | exact HS3.out _ hb | exact HS3.out _ ((Below.refl _ _).drew) | go_keep)
                  (first
                  | (go_at_call 153; (with_reducible refine (rel ((Below.refl W3.heap.size W3).drew) (atIt_any a1 _ y t _ (HY3.out.below stays_RIt ((Below.refl _ _).drew)))).mono ?_); rintro e w2 ⟨rfl, hb⟩)
                  | (go_at_call 152; (with_reducible refine (rel hb (cmpItems_any (Q.at1 y t Q.zero) z _)).mono ?_); rintro e w2 ⟨rfl, hb⟩))
                all_goals
                  go_wp2
                  · have hq : (Q.cmpIt (Q.at1 y t Q.zero) z != 0) = true := by assumption
                    go_ret
                    exact ⟨ret_bool (begins_lastmiss (HK.out ▸ HX.out) (by rw [← HK.out, HY.out]; exact beginsC_miss htl (by rw [at1_in HZ.out]; simpa using hq))).symm, fin (fin (fin (fin H0.out HB.out) HB2.out) H3.out) hb⟩
                  · have hq : (Q.cmpIt (Q.at1 y t Q.zero) z != 0) = false := by assumption
                    go_roundw
                    case rel => exact ⟨t + 1, by omega, by go_num, upto_snoc HF2.out (by rw [at1_in HZ.out]; simpa using hq), fin (fin HB2.out H3.out) hb⟩
                    case measure => simp [intOf]; omega
              · go_wp2
                go_ret
                refine ⟨ret_bool (begins_yes HE.out hlc hp1 (HK.out ▸ HF.out) (HK.out ▸ HX.out) (fun j hj => ?_)).symm, fin (fin H0.out HB.out) HB2.out⟩
                rw [← HK.out, HY.out]
                exact HF2.out j (by omega)
  · have hd : (u.ep != v.ep) = true := by simp [he]
    have HN := Lib.hid (begins_no (u := u) (v := v) (.inl he))
    clear he
    go_enter Tryz.func131, Tryz.ntmps131
    go_wp2
    go_ret
    exact ⟨ret_bool HN.out.symm, ((Below.refl _ _).alloc (Nat.le_refl _) _).alloc (by simp) _⟩
end Go.Proofs.YtnmcajinaigcjaaGreatDoor
