/- haversackref14.Propagate. -/
import Derived.Test.YtdppmmimemmedaaDoorPropMath
import Derived.Test.YtdppmmimemmedaaDoorLits2
namespace Go.Proofs.YtdppmmimemmedaaDoor
open Go.RowKit

namespace M
/-- a clause is done with -/
def Cl (S c : List Int) : Prop := (∃ x ∈ c, x ∈ S) ∨ ∃ x ∈ c, ∃ y ∈ c, x ≠ y ∧ isLit x = true ∧ isLit y = true ∧ -x ∉ S ∧ -y ∉ S
/-- the literals of a clause that are not refuted -/
def lft (S c : List Int) : List Int := norm (c.filter fun l => isLit l && !(inn S (-l)))
def dne (S c : List Int) : Bool := c.any fun l => isLit l && inn S l
theorem mem_lft (S c : List Int) (x : Int) : x ∈ lft S c ↔ x ∈ c ∧ isLit x = true ∧ -x ∉ S := by
  unfold lft; rw [mem_norm, List.mem_filter, Bool.and_eq_true, Bool.not_eq_true', inn_false]
theorem lft_sorted (S c : List Int) : Sorted (lft S c) := sorted_norm _
theorem filt_snoc {c : List Int} {t : Nat} {z : Int} (h : c[t]? = some z) (P : Int → Bool) : (c.take (t + 1)).filter P = (c.take t).filter P ++ if P z then [z] else [] := by
  rw [List.take_add_one, h, List.filter_append]
  cases hp : P z <;> simp [hp]
theorem lft_no {S c : List Int} {t : Nat} {z : Int} (h : c[t]? = some z) (hz : (isLit z && !(inn S (-z))) = false) : lft S (c.take (t + 1)) = lft S (c.take t) := by
  unfold lft; rw [filt_snoc h, hz]; simp
theorem lft_yes {S c : List Int} {t : Nat} {z : Int} (h : c[t]? = some z) (hz : (isLit z && !(inn S (-z))) = true) : lft S (c.take (t + 1)) = put (lft S (c.take t)) z := by
  unfold lft; rw [filt_snoc h, hz, if_pos rfl]; simp [norm, List.foldl_append]
theorem lft_length (S c : List Int) : (lft S c).length ≤ c.length := Nat.le_trans (norm_length _) (List.length_filter_le _ _)
theorem dne_snoc {S c : List Int} {t : Nat} {z : Int} (h : c[t]? = some z) : dne S (c.take (t + 1)) = (dne S (c.take t) || (isLit z && inn S z)) := by
  unfold dne; rw [List.take_add_one, h]; simp
theorem PInv.congr {cs : List (List Int)} {fr q q' : List Int} (h : PInv cs fr q) (hm : ∀ x, x ∈ q' ↔ x ∈ q) : PInv cs fr q' :=
  ⟨fun z hz => h.der z ((hm z).1 hz), fun z hz hz' => h.con z ((hm z).1 hz) ((hm _).1 hz')⟩
theorem PInv.put {cs : List (List Int)} {fr q : List Int} (h : PInv cs fr q) {x : Int} (hd : Der cs fr x) (hn : -x ∉ q) : PInv cs fr (put q x) :=
  (h.add hd hn).congr fun y => (mem_put q x y).trans (mem_add q x y).symm
theorem sorted_nodup {l : List Int} (h : Sorted l) : l.Nodup := h.imp fun {x y} h e => by rw [e, less_irrefl] at h; cases h
theorem put_length_new {q : List Int} (hs : Sorted q) {x : Int} (hx : x ∉ q) : q.length < (put q x).length := by
  have := length_le_of_mem (x :: q) (put q x) (List.nodup_cons.2 ⟨hx, sorted_nodup hs⟩) (fun z hz => (mem_put q x z).2 (List.mem_cons.1 hz))
  simp at this; omega
theorem put_length_ge {q : List Int} (hs : Sorted q) (x : Int) : q.length ≤ (put q x).length :=
  length_le_of_mem q (put q x) (sorted_nodup hs) (fun z hz => (mem_put q x z).2 (.inr hz))
theorem dne_cl {S c : List Int} (h : dne S c = true) : Cl S c := by
  obtain ⟨x, hx, hp⟩ := List.any_eq_true.1 h
  exact .inl ⟨x, hx, (inn_iff _ _).1 (Bool.and_eq_true_iff.1 hp).2⟩
theorem lft_none {S c : List Int} (h : lft S c = []) : ∀ y ∈ only c, -y ∈ S := fun y hy => by
  obtain ⟨h1, h2⟩ := (mem_only c y).1 hy
  by_cases hm : -y ∈ S
  · exact hm
  · have := (mem_lft S c y).2 ⟨h1, h2, hm⟩
    rw [h] at this; simp at this
theorem lft_one {S c : List Int} {x : Int} (h : lft S c = [x]) : x ∈ only c ∧ -x ∉ S ∧ ∀ y ∈ only c, y ≠ x → -y ∈ S := by
  have hx := (mem_lft S c x).1 (by rw [h]; simp)
  refine ⟨(mem_only c x).2 ⟨hx.1, hx.2.1⟩, hx.2.2, fun y hy hne => ?_⟩
  obtain ⟨h1, h2⟩ := (mem_only c y).1 hy
  by_cases hm : -y ∈ S
  · exact hm
  · have := (mem_lft S c y).2 ⟨h1, h2, hm⟩
    rw [h] at this; simp at this; exact absurd this hne
theorem lft_cl {S c : List Int} (h0 : (lft S c).length ≠ 0) (h1 : (lft S c).length ≠ 1) : Cl S c := by
  match hl : lft S c with
  | [] => rw [hl] at h0; simp at h0
  | [x] => rw [hl] at h1; simp at h1
  | x :: y :: r =>
    have hx := (mem_lft S c x).1 (by rw [hl]; simp)
    have hy := (mem_lft S c y).1 (by rw [hl]; simp)
    have hn := sorted_nodup (lft_sorted S c)
    rw [hl] at hn
    have hne : x ≠ y := fun e => by subst e; simp at hn
    exact .inr ⟨x, hx.1, y, hy.1, hne, hx.2.1, hy.2.1, hx.2.2, hy.2.2⟩
theorem dne_not {S c : List Int} {x : Int} (h : dne S c = false) (hx : x ∈ only c) : x ∉ S := fun hs => by
  obtain ⟨h1, h2⟩ := (mem_only c x).1 hx
  have : dne S c = true := List.any_eq_true.2 ⟨x, h1, by rw [h2, (inn_iff _ _).2 hs]; rfl⟩
  rw [h] at this; cases this
end M
/-- a slice in order that stands for the set -/
def SetAt (w wr : World) (v : Value) (S : List Int) : Prop := ∃ a c, v = .slice a S.length c ∧ Ints wr a S ∧ S.length ≤ c ∧ (a = none → c = 0) ∧ Below w.heap.size w wr
def lenOf : Value → Nat
  | .slice _ n _ => n
  | _ => 0
def boolOf : Value → Bool
  | .bool b => b
  | _ => false
/-- what haversackref14.Propagate answers -/
def PropPostR (w : World) (cs : List (List Int)) (fr : List Int) (e : Ending) (w' : World) : Prop :=
  ∃ (l : List Int) (ok : Bool) (a' : Option Addr) (c' : Nat), e = .returned (.tuple #[.slice a' l.length c', .bool ok]) ∧ M.PropRes cs fr l ok ∧ Ints w' a' l ∧ Below w.heap.size w w'
theorem PropPostR.no {w w' : World} {cs : List (List Int)} {fr : List Int} (h : M.Conf cs fr) (hb : Below w.heap.size w w') : PropPostR w cs fr (.returned (.tuple #[.slice none 0 0, .bool false])) w' :=
  ⟨[], false, none, 0, rfl, M.PropRes.no h, Ints.nil _ _, hb⟩
theorem M.PInv.lits {cs : List (List Int)} {fr q : List Int} (h : M.PInv cs fr q) : ∀ z ∈ q, M.isLit z = true := fun z hz => M.der_isLit (h.der z hz)
set_option maxRecDepth 100000 in
set_option maxHeartbeats 4000000 in
theorem rprop_any (a : Option Addr) (c : Nat) (cs : List (List Int)) (b : Option Addr) (d : Nat) (fr : List Int) (w : World) (hz : Cls w a cs) (hl : cs.length ≤ 1000) (hcl : ∀ x ∈ cs, x.length ≤ 1000) (hf : Ints w b fr) (hfl : fr.length ≤ 1000) :
    Calls Tryd.prog 30 #[.slice a cs.length c, .slice b fr.length d] w (PropPostR w cs fr) := by
  have HZ := Lib.hid hz
  have HF := Lib.hid hf
  have HCL := Lib.hid hcl
  clear hz hf hcl
  go_enter Tryd.func30, Tryd.ntmps30
  go_wp2
  go_loopw [6, 19] (fun v i wr => ∃ (k : Nat) (S : List Int), k ≤ fr.length ∧ i = .int .i64 k ∧ SetAt w wr v S ∧ M.Sorted S ∧ M.PInv cs fr S ∧ (∀ x ∈ fr.take k, M.isLit x = true → x ∈ S)) (fun _ i _ => fr.length - (intOf i).toNat)
  case atStart => exact ⟨0, [], Nat.zero_le _, rfl, ⟨_, 0, rfl, Ints.nil _ _, Nat.le_refl _, (fun h => by cases h), (Below.refl _ _).alloc (Nat.le_refl _) _⟩, List.Pairwise.nil, M.PInv.nil _ _, fun x hx => by simp at hx⟩
  case round =>
    obtain ⟨k, S, hk, rfl, ⟨a1, c1, rfl, hI, hc1, hn1, hB⟩, hS, hP, hfr⟩ := hrel
    have HI := Lib.hid hI
    have HC := Lib.hid (And.intro hc1 hn1)
    have HB := Lib.hid hB
    have HS := Lib.hid hS
    have HP := Lib.hid hP
    have HFR := Lib.hid hfr
    have hSl := M.lits_length (M.sorted_nodup hS) hP.lits
    clear hI hc1 hn1 hB hS hP hfr
    by_cases hlt : k < fr.length
    · obtain ⟨bb, off, rfl, hbl, hcl⟩ := (HF.out.below HB.out).addr (by omega)
      obtain ⟨z, hzk⟩ : ∃ z, fr[k]? = some z := ⟨fr[k], by simp [hlt]⟩
      have hcell := hcl k z hzk
      have HZK := Lib.hid hzk
      clear hcl hzk
      cases hlz : M.isLit z
      · go_wp2_with (go_at_call 38; refine (is_any _ _).mono ?_; rintro e w' ⟨rfl, rfl⟩)
        go_roundw
        case rel =>
          refine ⟨k + 1, S, by omega, by go_num, ⟨a1, c1, rfl, HI.out, HC.out.1, HC.out.2, HB.out⟩, HS.out, HP.out, fun x hx hl => ?_⟩
          rw [List.take_add_one, HZK.out] at hx
          rcases List.mem_append.1 hx with h | h
          · exact HFR.out x h hl
          · simp at h; subst h; rw [hlz] at hl; cases hl
        case measure => simp [intOf]; omega
      · have hb3 := (M.isLit_iff z).1 hlz
        obtain ⟨z0, z1, z2⟩ := hb3
        have hin0 := in_any a1 c1 S (-z) wr HI.out
        have HIN := Lib.hid hin0
        have hput := put_any a1 c1 S z wr HI.out HC.out.1 HC.out.2 HP.out.lits hlz (by omega)
        have HPUT := Lib.hid hput
        clear hin0 hput
        cases hin : M.inn S (-z)
        · rw [hin] at HIN
          go_wp2_with (first
            | (go_at_call 38; refine (is_any _ _).mono ?_; rintro e w' ⟨rfl, rfl⟩)
            | (go_at_call 49; refine HIN.out.mono ?_; rintro e w' ⟨rfl, rfl⟩)
            | (go_at_call 51; refine HPUT.out.mono ?_; rintro e w2 ⟨a2, c2, rfl, i1, i2, i3, i4⟩; have HI2 := Lib.hid i1; have HC2 := Lib.hid (And.intro i2 i3); have HB2 := Lib.hid (HB.out.trans (i4.mono HB.out.size)); clear i1 i2 i3 i4))
          go_roundw
          case rel =>
            refine ⟨k + 1, M.put S z, by omega, by go_num, ⟨a2, c2, rfl, HI2.out, HC2.out.1, HC2.out.2, HB2.out⟩, M.sorted_put HS.out z, HP.out.put (M.der_from (List.mem_of_getElem? HZK.out) hlz) ((M.inn_false _ _).1 hin), fun x hx hl => (M.mem_put S z x).2 ?_⟩
            rw [List.take_add_one, HZK.out] at hx
            rcases List.mem_append.1 hx with h | h
            · exact .inr (HFR.out x h hl)
            · simp at h; exact .inl h
          case measure => simp [intOf]; omega
        · rw [hin] at HIN
          go_wp2_with (first
            | (go_at_call 38; refine (is_any _ _).mono ?_; rintro e w' ⟨rfl, rfl⟩)
            | (go_at_call 49; refine HIN.out.mono ?_; rintro e w' ⟨rfl, rfl⟩))
          go_ret2
          exact PropPostR.no (HP.out.conf (M.der_from (List.mem_of_getElem? HZK.out) hlz) ((M.inn_iff _ _).1 hin)) HB.out
    · obtain rfl : k = fr.length := by omega
      have hfr : ∀ x ∈ fr, M.isLit x = true → x ∈ S := fun x hx hl => HFR.out x (by simpa using hx) hl
      have HFR2 := Lib.hid hfr
      clear hfr HFR
      go_wp2
      go_loopw [6, 9] (fun v ch wr => ∃ (S : List Int) (b : Bool), ch = .bool b ∧ SetAt w wr v S ∧ M.Sorted S ∧ M.PInv cs fr S ∧ (∀ x ∈ fr, M.isLit x = true → x ∈ S) ∧ (b = false → ∀ c ∈ cs, M.Cl S c)) (fun v ch _ => 2 * (40002 - lenOf v) + (if boolOf ch then 1 else 0))
      case atStart => exact ⟨S, true, rfl, ⟨a1, c1, rfl, HI.out, HC.out.1, HC.out.2, HB.out⟩, HS.out, HP.out, HFR2.out, fun h => by cases h⟩
      case round =>
        clear HI HC HB HS HP HFR2 hSl
        obtain ⟨S, ch, rfl, ⟨a1, c1, rfl, hI, hc1, hn1, hB⟩, hS, hP, hfr, hcl⟩ := hrel
        have HI := Lib.hid hI
        have HC := Lib.hid (And.intro hc1 hn1)
        have HB := Lib.hid hB
        have HS := Lib.hid hS
        have HP := Lib.hid hP
        have HFR := Lib.hid hfr
        have HCC := Lib.hid hcl
        clear hI hc1 hn1 hB hS hP hfr hcl
        cases ch
        · go_wp2
          go_ret2
          exact ⟨S, true, a1, c1, rfl, M.PropRes.of_closed HS.out HP.out.der HP.out.con HFR.out (HCC.out (by trivial)), HI.out, HB.out⟩
        · go_wp2
          go_loopw [6, 9, 36] (fun v ch i wr => ∃ (k : Nat) (S' : List Int) (b : Bool), k ≤ cs.length ∧ i = .int .i64 k ∧ ch = .bool b ∧ SetAt w wr v S' ∧ M.Sorted S' ∧ M.PInv cs fr S' ∧ (∀ x ∈ fr, M.isLit x = true → x ∈ S') ∧ S.length ≤ S'.length ∧ (b = true → S.length < S'.length) ∧ (b = false → ∀ c ∈ cs.take k, M.Cl S' c)) (fun _ _ i _ => cs.length - (intOf i).toNat)
          case atStart => exact ⟨0, S, false, Nat.zero_le _, rfl, rfl, ⟨a1, c1, rfl, HI.out, HC.out.1, HC.out.2, HB.out⟩, HS.out, HP.out, HFR.out, Nat.le_refl _, (fun h => by cases h), fun _ c hc => by simp at hc⟩
          case round =>
            obtain ⟨m, hm⟩ : ∃ m, m = S.length := ⟨_, rfl⟩
            clear HI HC HB HS HP HFR HCC
            obtain ⟨k, S', ch, hk, rfl, rfl, ⟨a1, c1, rfl, hI, hc1, hn1, hB⟩, hS, hP, hfr, hle, hlt', hcl⟩ := hrel
            have hSl := M.lits_length (M.sorted_nodup hS) hP.lits
            have HI := Lib.hid hI
            have HC := Lib.hid (And.intro hc1 hn1)
            have HB := Lib.hid hB
            have HS := Lib.hid hS
            have HP := Lib.hid hP
            have HFR := Lib.hid hfr
            have HLT := Lib.hid hlt'
            have HCC := Lib.hid hcl
            clear hI hc1 hn1 hB hS hP hfr hlt' hcl
            by_cases hlt : k < cs.length
            · obtain ⟨x, hxk⟩ : ∃ x, cs[k]? = some x := ⟨cs[k], by simp [hlt]⟩
              obtain ⟨bb, off, rfl, hbl, hcl⟩ := (HZ.out.below HB.out).addr (by omega)
              obtain ⟨ax, cx, hcell, hIx⟩ := hcl k x hxk
              have hxl := HCL.out x (List.mem_of_getElem? hxk)
              have HX := Lib.hid hxk
              have HIX := Lib.hid hIx
              obtain ⟨wo, hwo⟩ : ∃ wo, wo = wr := ⟨_, rfl⟩
              subst hwo
              clear hcl hxk hIx
              go_wp2
              go_loopw [12, 13, 43] (fun lv dv i wr => ∃ t : Nat, t ≤ x.length ∧ i = .int .i64 t ∧ dv = .bool (M.dne S' (x.take t)) ∧ SetAt w wr lv (M.lft S' (x.take t)) ∧ Below wo.heap.size wo wr) (fun _ _ i _ => x.length - (intOf i).toNat)
              case atStart => exact ⟨0, Nat.zero_le _, rfl, rfl, ⟨_, 0, rfl, Ints.nil _ _, Nat.le_refl _, (fun h => by cases h), HB.out.alloc HB.out.size _⟩, (Below.refl _ _).alloc (Nat.le_refl _) _⟩
              case round =>
                obtain ⟨t, ht, rfl, rfl, ⟨al, lc, rfl, hIl, hcl1, hcl2, hBl⟩, hBo⟩ := hrel
                have HIL := Lib.hid hIl
                have HCL2 := Lib.hid (And.intro hcl1 hcl2)
                have HBL := Lib.hid hBl
                have HBO := Lib.hid hBo
                have HI2 := Lib.hid (HI.out.below hBo)
                have hll := M.lft_length S' (x.take t)
                have hll2 := List.length_take_le t x
                clear hIl hcl1 hcl2 hBl hBo
                by_cases htl : t < x.length
                · obtain ⟨z, hzt⟩ : ∃ z, x[t]? = some z := ⟨x[t], by simp [htl]⟩
                  obtain ⟨b5, off5, rfl, hb5, hc5⟩ := (HIX.out.below HBO.out).addr (by omega)
                  have hcz := hc5 t z hzt
                  have HZT := Lib.hid hzt
                  clear hc5 hzt
                  cases hlz : M.isLit z
                  · go_wp2_with (go_at_call 38; refine (is_any _ _).mono ?_; rintro e w' ⟨rfl, rfl⟩)
                    go_roundw
                    case rel => exact ⟨t + 1, by omega, by go_num, by rw [M.dne_snoc HZT.out, hlz]; simp, by rw [M.lft_no HZT.out (by rw [hlz]; rfl)]; exact ⟨al, lc, rfl, HIL.out, HCL2.out.1, HCL2.out.2, HBL.out⟩, HBO.out⟩
                    case measure => simp [intOf]; omega
                  · have hb3 := (M.isLit_iff z).1 hlz
                    obtain ⟨z0, z1, z2⟩ := hb3
                    have HPUT := Lib.hid (put_any al lc (M.lft S' (x.take t)) z wr HIL.out HCL2.out.1 HCL2.out.2 (fun y hy => ((M.mem_lft _ _ y).1 hy).2.1) hlz (by omega))
                    cases hi1 : M.inn S' z <;> cases hi2 : M.inn S' (-z)
                    all_goals
                      go_wp2_with (first
                        | (go_at_call 38; refine (is_any _ _).mono ?_; rintro e w' ⟨rfl, rfl⟩)
                        | (go_at_call 49; refine (in_any _ _ _ _ _ HI2.out).mono ?_; rintro e w' ⟨rfl, rfl⟩)
                        | (go_at_call 51; refine HPUT.out.mono ?_; rintro e w2 ⟨a2, c2, rfl, i1, i2, i3, i4⟩; have HIZ := Lib.hid i1; have HCZ := Lib.hid (And.intro i2 i3); have HBZ := Lib.hid (HBL.out.trans (i4.mono HBL.out.size)); have HBY := Lib.hid (HBO.out.trans (i4.mono HBO.out.size)); clear i1 i2 i3 i4))
                      go_roundw
                      case rel =>
                        refine ⟨t + 1, by omega, by go_num, by rw [M.dne_snoc HZT.out, hlz, hi1]; simp, ?_, ?_⟩
                        · first
                            | (rw [M.lft_yes HZT.out (by rw [hlz, hi2]; rfl)]; exact ⟨a2, c2, rfl, HIZ.out, HCZ.out.1, HCZ.out.2, HBZ.out⟩)
                            | (rw [M.lft_no HZT.out (by rw [hlz, hi2]; rfl)]; exact ⟨al, lc, rfl, HIL.out, HCL2.out.1, HCL2.out.2, HBL.out⟩)
                        · first | exact HBY.out | exact HBO.out
                      case measure => simp [intOf]; omega
                · obtain rfl : t = x.length := by omega
                  rw [List.take_length] at *
                  have hxm := List.mem_of_getElem? HX.out
                  have HXM := Lib.hid hxm
                  clear hxm
                  cases hd : M.dne S' x
                  · rcases hll3 : M.lft S' x with _ | ⟨y, _ | ⟨y2, r⟩⟩
                    · rw [hll3] at HIL HCL2
                      go_wp2
                      go_ret2
                      exact PropPostR.no (HP.out.none HXM.out (M.lft_none hll3)) HBL.out
                    · have hone := M.lft_one hll3
                      have hyl : M.isLit y = true := ((M.mem_only x y).1 hone.1).2
                      have HONE := Lib.hid hone
                      have HPUT := Lib.hid (put_any a1 c1 S' y wr HI2.out HC.out.1 HC.out.2 HP.out.lits hyl (by omega))
                      have hIl := HIL.out
                      rw [hll3] at hIl
                      obtain ⟨b6, off6, rfl, hb6, hc6⟩ := hIl.addr (by simp)
                      have hc7 := hc6 0 y rfl
                      rw [Nat.add_zero] at hc7
                      clear hc6 hIl hone hyl
                      go_wp2_with (go_at_call 51; refine HPUT.out.mono ?_; rintro e w2 ⟨a2, c2, rfl, i1, i2, i3, i4⟩; have HIZ := Lib.hid i1; have HCZ := Lib.hid (And.intro i2 i3); have HBZ := Lib.hid (HBL.out.trans (i4.mono HBL.out.size)); clear i1 i2 i3 i4)
                      go_roundw
                      case rel =>
                        have hnew := M.put_length_new HS.out (M.dne_not hd HONE.out.1)
                        exact ⟨k + 1, M.put S' y, true, by omega, by go_num, rfl, ⟨a2, c2, rfl, HIZ.out, HCZ.out.1, HCZ.out.2, HBZ.out⟩, M.sorted_put HS.out y, HP.out.put (HP.out.last HXM.out HONE.out.1 HONE.out.2.2) HONE.out.2.1, fun x hx hl => (M.mem_put S' y x).2 (.inr (HFR.out x hx hl)), by omega, fun _ => by omega, fun h => by cases h⟩
                      case measure => simp [intOf]; omega
                    · have hcl2 : M.Cl S' x := M.lft_cl (by rw [hll3]; simp) (by rw [hll3]; simp)
                      have HCL3 := Lib.hid hcl2
                      have d0 : decide ((((y :: y2 :: r).length : Nat) : Int) = 0) = false := decide_eq_false (by simp; omega)
                      have d1 : decide ((((y :: y2 :: r).length : Nat) : Int) = 1) = false := decide_eq_false (by simp; omega)
                      clear hcl2
                      go_wp2
                      go_roundw
                      case rel =>
                        refine ⟨k + 1, S', ch, by omega, by go_num, rfl, ⟨a1, c1, rfl, HI2.out, HC.out.1, HC.out.2, HBL.out⟩, HS.out, HP.out, HFR.out, hle, HLT.out, fun h c hc => ?_⟩
                        rw [List.take_add_one, HX.out] at hc
                        rcases List.mem_append.1 hc with h' | h'
                        · exact HCC.out h c h'
                        · simp at h'; subst h'; exact HCL3.out
                      case measure => simp [intOf]; omega
                  · go_wp2
                    go_roundw
                    case rel =>
                      refine ⟨k + 1, S', ch, by omega, by go_num, rfl, ⟨a1, c1, rfl, HI2.out, HC.out.1, HC.out.2, HBL.out⟩, HS.out, HP.out, HFR.out, hle, HLT.out, fun h c hc => ?_⟩
                      rw [List.take_add_one, HX.out] at hc
                      rcases List.mem_append.1 hc with h' | h'
                      · exact HCC.out h c h'
                      · simp at h'; subst h'; exact M.dne_cl hd
                    case measure => simp [intOf]; omega
            · obtain rfl : k = cs.length := by omega
              go_wp2
              go_roundw
              case rel =>
                exact ⟨S', ch, rfl, ⟨a1, c1, rfl, HI.out, HC.out.1, HC.out.2, HB.out⟩, HS.out, HP.out, HFR.out, fun h c hc => HCC.out h c (by simpa using hc)⟩
              case measure =>
                cases ch
                · simp [lenOf, boolOf]; omega
                · have := HLT.out rfl
                  simp [lenOf, boolOf]; omega
end Go.Proofs.YtdppmmimemmedaaDoor
