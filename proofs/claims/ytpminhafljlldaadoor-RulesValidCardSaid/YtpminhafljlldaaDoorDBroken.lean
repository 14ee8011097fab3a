/- The contract of rules.Broken for choices of any lengths; haversacknum.SameInts of equal lists. -/
import Derived.Test.YtpminhafljlldaaDoorQValid
import Derived.Test.YtpminhafljlldaaDoorQBig
import Derived.BigQuiet
import Derived.Deep.QuietTactic
namespace Go.Proofs.YtpminhafljlldaaDoor
open Go.RowKit
open Q (It Ver Tm Sp Rc Dm)

theorem RV.oneN {w : World} {n : Nat} (hn : w.heap.size = n) (v : Value) (h : v.oneCell' = true) (e : TypeId) : Sl RV 1 (w.alloc (.cells #[v] e)) (some ⟨n, 0, none⟩) [v] := by subst hn; exact RV.one w v h e
set_option maxHeartbeats 2000000 in
set_option maxRecDepth 100000 in
/-- choices of other lengths -/
theorem broken_diff (ad : Addr) (a b o da : Option Addr) (c e oc dc : Nat) (l : List Rc) (on ch : List Bool) (ds : List Dm) (w : World) (h : on.length ≠ l.length ∨ ch.length ≠ l.length) (hR : RIn w a b l ch) (hO : Bools w o on) (hD : Sl RDm 6 w da ds) (hE : ErrR w ad) :
    Calls Tryd.prog 17 #[.slice a l.length c, .slice o on.length oc, .slice b ch.length e, .slice da ds.length dc] w (NewInts w (Q.brokenFrom l on ch 0 ds)) := by
  have hl1 := hD.len
  have hl3 := hR.recs.len
  have HD := Lib.hid hD
  have HR := Lib.hid hR
  have HE := Lib.hid hE
  have hl5 := hO.len
  have hl6 := hR.bools.len
  have hn : ((on.length : Int) != (l.length : Int)) = true ∨ (((on.length : Int) != (l.length : Int)) = false ∧ ((ch.length : Int) != (l.length : Int)) = true) := by
    by_cases e : on.length = l.length
    · right; refine ⟨by simp [e], ?_⟩; rw [bne_iff_ne]; have := h.resolve_left (fun x => x e); omega
    · left; rw [bne_iff_ne]; omega
  have HBRK := Lib.hid (show ∀ d, brk l on ch d = true from fun d => by unfold brk; rcases h with h | h <;> simp [h])
  clear hD hR hE h hO
  rcases hn with n1 | ⟨n1, n2⟩
  all_goals
    go_enter Tryd.func17, Tryd.ntmps17
    go_wp2
    go_loopw [9, 11, 12, 27] (fun s _ _ i wr => ∃ (k : Nat) (pa : Option Addr) (pc : Nat), k ≤ ds.length ∧ i = .int .i64 k ∧ s = .slice pa (Q.brokenFrom l on ch 0 (ds.take k)).length pc ∧ Own 3 1 wr w.heap.size pa pc (Q.brokenFrom l on ch 0 (ds.take k)).length ((Q.brokenFrom l on ch 0 (ds.take k)).map (Value.int .i64)) ∧ Below w.heap.size w wr) (fun _ _ _ i _ => ds.length - (intOf i).toNat)
    case atStart => exact ⟨0, none, 0, Nat.zero_le _, rfl, rfl, Own.nil _ _ _ _, Below.refl _ _⟩
    case round =>
      obtain ⟨k, pa, pc, hk, rfl, rfl, hown, hbr⟩ := hrel
      have HO := Lib.hid hown
      have HB := Lib.hid hbr
      have hbl9 := broken_len l on ch (ds.take k) 0
      rw [List.length_take] at hbl9
      clear hown hbr
      by_cases hlt : k < ds.length
      · obtain ⟨d, hx⟩ : ∃ x, ds[k]? = some x := ⟨ds[k], by simp [hlt]⟩
        obtain ⟨bb, off, ra, rc, rfl, hbl, ⟨t0, t1, t2, t3, t4, t5⟩, hat, hw⟩ := (HD.out.below stays_RDm HB.out).cellsDm hx
        have HX := Lib.hid (broken_snoc (l := l) (on := on) (ch := ch) hx)
        have HA := Lib.hid hat
        have HW := Lib.hid hw
        clear hx hat hw
        have hbk : Q.brokenFrom l on ch 0 (ds.take (k + 1)) = Q.brokenFrom l on ch 0 (ds.take k) ++ [(k : Int)] := by
          rw [HX.out, HBRK.out]; rfl
        have HBK := Lib.hid hbk
        have hz2 : w.heap.size ≤ wr.heap.size := HB.out.size
        clear hbk
        go_wp2_with (at_builtin; refine wpList_append_flat Tryd.infoInt rfl (by decide) rfl (.tmp 40) (.tmp 42) 30 rfl Tryd.underlying30 w.heap.size _ _ _ _ rfl ((HO.out.below (b1 _ _)).below (b1 _ _)) _ _ _ [.int .i64 k] rfl rfl (RV.oneN (by simp) (.int .i64 k) rfl _) (RV.ones _) (fun e => by cases e) (by omega) (by omega) (by simp; omega) ?_; intro a1 c1 w1 cells1 hown1 hF1 hg1 hB1; have HB1 := Lib.hid hB1; have HO1 := Lib.hid hown1; have HF1 := Lib.hid hF1.rv; clear hg1 hown1 hB1 hF1)
        go_roundw
        case rel =>
          refine ⟨k + 1, a1, c1, by omega, by go_num, by rw [HBK.out]; simp, ?_, ((HB.out.alloc HB.out.size _).alloc (by simp; omega) _).trans HB1.out⟩
          have := HO1.out
          rw [HF1.out] at this
          rw [HBK.out]; simpa using this
        case measure => simp [intOf]; omega
      · have hfull : ds.take k = ds := List.take_of_length_le (by omega)
        rw [hfull]
        have HFU := Lib.hid hfull
        clear hfull
        go_wp2
        go_ret
        have ho := HO.out
        rw [HFU.out] at ho
        refine ⟨pa, pc, rfl, Own.sl ho (flat_ints _ _) ?_, HB.out⟩
        have := broken_len l on ch ds 0
        omega
theorem broken_any (ad : Addr) (a b o da : Option Addr) (c e oc dc : Nat) (l : List Rc) (on ch : List Bool) (ds : List Dm) (w : World) (hR : RIn w a b l ch) (hO : Bools w o on) (hD : Sl RDm 6 w da ds) (hE : ErrR w ad) :
    Calls Tryd.prog 17 #[.slice a l.length c, .slice o on.length oc, .slice b ch.length e, .slice da ds.length dc] w (NewInts w (Q.brokenFrom l on ch 0 ds)) := by
  by_cases h1 : on.length = l.length
  · by_cases h2 : ch.length = l.length
    · exact broken_ok ad a b o da c e oc dc l on ch ds w h1 h2 hR hD hE
    · exact broken_diff ad a b o da c e oc dc l on ch ds w (.inr h2) hR hO hD hE
  · exact broken_diff ad a b o da c e oc dc l on ch ds w (.inl h1) hR hO hD hE
theorem Sl.cellI {w : World} {a : Option Addr} {xs : List Int} (h : Sl RI 1 w a xs) {i : Nat} {x : Int} (hx : xs[i]? = some x) : ∃ b off, a = some ⟨b, off, none⟩ ∧ b < w.heap.size ∧ w.cell? ⟨b, off + i, none⟩ = some (.int .i64 x) := by
  obtain ⟨b, off, e, hlt, hc⟩ := h.addr (by have := (List.getElem?_eq_some_iff.1 hx).1; omega)
  obtain ⟨us, u1, u2, u3⟩ := hc i x hx
  have c0 := u2 0 (by omega)
  rw [u3] at c0
  exact ⟨b, off, e, hlt, by simpa using c0⟩
set_option maxHeartbeats 1000000 in
theorem sameInts_self (a b : Option Addr) (c d : Nat) (xs : List Int) (w : World) (h1 : Sl RI 1 w a xs) (h2 : Sl RI 1 w b xs) :
    Calls Tryd.prog 16 #[.slice a xs.length c, .slice b xs.length d] w fun e w' => e = .returned (.bool true) ∧ Below w.heap.size w w' := by
  have hl := h1.len
  have H1 := Lib.hid h1
  have H2 := Lib.hid h2
  have n1 : ((xs.length : Int) != (xs.length : Int)) = false := by simp
  clear h1 h2
  go_enter Tryd.func16, Tryd.ntmps16
  go_wp2
  clear n1
  go_loopw [5, 13] (fun _ i wr => ∃ k : Nat, k ≤ xs.length ∧ i = .int .i64 k ∧ Below w.heap.size w wr) (fun _ i _ => xs.length - (intOf i).toNat)
  case atStart => exact ⟨0, by omega, rfl, Below.refl _ _⟩
  case round =>
    obtain ⟨k, hk, rfl, hbr⟩ := hrel
    by_cases hlt : k < xs.length
    · obtain ⟨x, hx⟩ : ∃ x, xs[k]? = some x := ⟨xs[k], by simp [hlt]⟩
      obtain ⟨b1, o1, rfl, hb1, c1⟩ := (H1.out.below (fun _ _ _ _ _ h => h) hbr).cellI hx
      obtain ⟨b2, o2, rfl, hb2, c2⟩ := (H2.out.below (fun _ _ _ _ _ h => h) hbr).cellI hx
      have HB := Lib.hid hbr
      clear hx hbr
      have nx : (x != x) = false := by simp
      go_wp2
      go_quiet (fail)
      go_wp2
      go_roundw
      case rel => exact ⟨k + 1, by omega, by go_num, ⟨HB.out.1, HB.out.2, HB.out.3, HB.out.4, HB.out.5⟩⟩
      case measure => simp [intOf]; omega
    · go_wp2
      go_ret
      exact ⟨rfl, hbr⟩
end Go.Proofs.YtpminhafljlldaaDoor
