/- The law RulesFewer, walked. -/
import Derived.Test.YtcbboomnonnofaaDoorQAll
import Derived.Test.YtcbboomnonnofaaDoorQLawMath
import Derived.IntWalk
namespace Go.Proofs.YtcbboomnonnofaaDoor
open Go.RowKit
open Q (It Ver Tm Sp Rc Dm)

theorem off_ok (off : Int) {n : Nat} (h0 : 0 < n) (hn : n ≤ 1000) : ∃ p : Nat, p < n ∧ wrap64 ((IntKind.u64.wrap off).tmod (n : Int)) = (p : Int) := by
  have e : IntKind.u64.wrap off = off % 18446744073709551616 := by simp [IntKind.wrap, IntKind.bits, IntKind.signed]
  have h1 : 0 ≤ off % 18446744073709551616 := Int.emod_nonneg _ (by omega)
  rw [e, Int.tmod_eq_emod_of_nonneg h1]
  have h2 : 0 ≤ off % 18446744073709551616 % (n : Int) := Int.emod_nonneg _ (by omega)
  have h3 : off % 18446744073709551616 % (n : Int) < (n : Int) := Int.emod_lt_of_pos _ (by omega)
  refine ⟨(off % 18446744073709551616 % (n : Int)).toNat, by omega, ?_⟩
  rw [IntWalk.wrap64_in _ ⟨by omega, by omega⟩]; omega
theorem ownB_pos {w : World} {base p : Nat} {a : Option Addr} {c : Nat} {ys : List Bool} (h : OwnB w base a c ys) (hp : p < ys.length) : ∃ g x, a = some ⟨g, 0, none⟩ ∧ w.frozen? ⟨g, p, none⟩ = false ∧ w.cell? ⟨g, p, none⟩ = some (.bool x) ∧ g < w.heap.size ∧ base ≤ g := by
  rcases h.parts with ⟨_, _, rfl⟩ | ⟨g, cur, rfl, hb, hlt, hg, _⟩
  · simp at hp
  · exact ⟨g, ys[p], rfl, h.frozen p, h.cell (List.getElem?_eq_getElem hp), hlt, hb⟩

set_option maxHeartbeats 4000000 in
set_option maxRecDepth 100000 in
theorem fewerLaw (ad : Addr) (a o b da : Option Addr) (c oc e dc : Nat) (l : List Rc) (on ch : List Bool) (ds : List Dm) (off : Int) (w : World) (hC : Cho w a o b da c oc e dc l on ch ds) (hoff : I64 off) (hE : ErrR w ad) :
    Calls Tryd.prog 4 #[.agg #[.slice a l.length c, .slice o on.length oc, .slice b ch.length e, .slice da ds.length dc], .int .i64 off] w fun e w' => e = .returned (.bool true) ∧ Below w.heap.size w w' := by
  have HC := Lib.hid hC
  have HE := Lib.hid hE
  have hl1 := hC.recs.len
  have hl2 := hC.ons.len
  have hl3 := hC.chs.len
  have hl4 := hC.dms.len
  obtain ⟨ho1, ho2⟩ := hoff
  clear hC hE
  have hX : ChBox (w.alloc (Obj.cells #[.slice a l.length c, .slice o on.length oc, .slice b ch.length e, .slice da ds.length dc] 26)) w.heap.size a o b da c oc e dc l on ch ds := ⟨by simp, by simp, by simp, by simp, by simp⟩
  have HX := Lib.hid hX
  clear hX
  go_enter Tryd.func4, Tryd.ntmps4
  go_wp2_with fail
  refine (alive19 ad _ (HE.out.below (b1 _ _))).mono ?_
  rintro e w1 ⟨rfl, hb⟩
  have HXa := Lib.hid (HX.out.below hb)
  have HBa := Lib.hid (fin (b1 _ _) hb)
  clear hb HX
  obtain ⟨za, a0, a1, a2, a3⟩ := HXa.out
  go_wp2_with fail
  (with_reducible refine (bigAll_any a c l 40 _ (HC.out.below HBa.out).recs (by omega)).mono ?_)
  rintro e w2 ⟨q, rfl, hq, hb⟩
  have HXb := Lib.hid (HXa.out.below hb)
  have HBb := Lib.hid (fin HBa.out hb)
  clear hb a0 a1 a2 a3
  obtain ⟨zb, b0, b1, b2, b3⟩ := HXb.out
  cases q
  case true =>
    go_wp2
    go_ret
    exact ⟨rfl, HBb.out⟩
  have h40 := hq rfl
  clear hq
  by_cases h1 : on.length = l.length
  case neg =>
    have n1 : ((on.length : Int) != (l.length : Int)) = true := by rw [bne_iff_ne]; omega
    go_wp2
    go_ret
    exact ⟨rfl, HBb.out⟩
  have n1 : ((on.length : Int) != (l.length : Int)) = false := by simp [h1]
  have HL1 := Lib.hid h1
  clear h1
  by_cases h2 : ch.length = l.length
  case neg =>
    have n2 : ((ch.length : Int) != (l.length : Int)) = true := by rw [bne_iff_ne]; omega
    go_wp2
    go_ret
    exact ⟨rfl, HBb.out⟩
  have n2 : ((ch.length : Int) != (l.length : Int)) = false := by simp [h2]
  have HL2 := Lib.hid h2
  clear h2
  by_cases h3 : 0 < l.length
  case neg =>
    have n3 : ((l.length : Int) == 0) = true := by rw [beq_iff_eq]; omega
    go_wp2
    go_ret
    exact ⟨rfl, HBb.out⟩
  have n3 : ((l.length : Int) == 0) = false := by rw [beq_eq_false_iff_ne]; omega
  go_wp2_with fail
  (with_reducible refine (bigD_any da dc ds _ (HC.out.below HBb.out).dms).mono ?_)
  rintro e w3 ⟨q, rfl, hb⟩
  have HXc := Lib.hid (HXb.out.below hb)
  have HBc := Lib.hid (fin HBb.out hb)
  clear hb b0 b1 b2 b3
  obtain ⟨zc, c0, c1, c2, c3⟩ := HXc.out
  cases q
  case true =>
    go_wp2
    go_ret
    exact ⟨rfl, HBc.out⟩
  clear n1 n2 n3
  go_wp2_with (at_make; refine wpList_make_Bools rfl (.tmp 41) (.tmp 41) rfl w3.heap.size l.length rfl rfl (by omega) (Nat.le_refl _) ?_; intro w4 hown hb4 hlt4; have HO4 := Lib.hid hown; have HB4 := Lib.hid hb4; clear hown hb4)
  clear c0 c1 c2 c3
  go_loopw [7, 45] (fun _ i wr => ∃ k : Nat, k ≤ l.length ∧ i = .int .i64 k ∧ OwnB wr w3.heap.size (some ⟨w3.heap.size, 0, none⟩) l.length (allAt l.length k) ∧ Below w3.heap.size w3 wr) (fun _ i _ => l.length - (intOf i).toNat)
  case atStart => exact ⟨0, by omega, rfl, by rw [allAt_zero]; exact HO4.out, HB4.out⟩
  case round =>
    obtain ⟨k, hk, rfl, hown, hbr⟩ := hrel
    have HO := Lib.hid hown
    have HB := Lib.hid hbr
    clear hown hbr
    by_cases hlt : k < l.length
    · have hfz := HO.out.frozen k
      have hcell := HO.out.cell (allAt_at hlt)
      go_wp2
      go_roundw
      case rel => exact ⟨k + 1, by omega, by go_num, (by rw [← allAt_set hlt]; exact HO.out.stored k true), HB.out.setCell (Nat.le_refl _) _⟩
      case measure => simp [intOf]; omega
    · have hke : k = l.length := by omega
      have hall : OwnB wr w3.heap.size (some ⟨w3.heap.size, 0, none⟩) l.length (List.replicate l.length true) := by rw [← allAt_full, ← hke]; rw [← hke] at HO; exact HO.out
      have HAL := Lib.hid (hall.bools (by simp; omega))
      have HXd := Lib.hid (HXc.out.below HB.out)
      have HBd := Lib.hid (fin HBc.out HB.out)
      have HEd := Lib.hid (HE.out.below HBd.out)
      have HCd := Lib.hid (HC.out.below HBd.out)
      obtain ⟨p, hp, hoe⟩ := off_ok off (n := l.length) (by omega) (by omega)
      clear hall hke
      obtain ⟨zd, d0, d1, d2, d3⟩ := HXd.out
      have HV1 := Lib.hid (valid_any ad a b o da c e oc dc l on ch ds wr HCd.out.rin HCd.out.ons HCd.out.dms HEd.out)
      go_wp2_with fail
      refine HV1.out.mono ?_
      rintro e w5 ⟨rfl, hb⟩
      have HXe := Lib.hid (HXd.out.below hb)
      have HBe := Lib.hid (fin HBd.out hb)
      have HEe := Lib.hid (HE.out.below HBe.out)
      have HCe := Lib.hid (HC.out.below HBe.out)
      have HAe := Lib.hid (HAL.out.below hb)
      clear hb HV1 d0 d1 d2 d3
      obtain ⟨ze, e0, e1, e2, e3⟩ := HXe.out
      generalize hv : Q.valid l on ch ds = v
      have HV := Lib.hid hv
      clear hv
      cases v
      · have HXf := HXe
        have HBf := HBe
        have HEf := HEe
        have HCf := HCe
        obtain ⟨w6, rfl⟩ : ∃ w6 : World, w6 = w5 := ⟨_, rfl⟩
        clear e0 e1 e2 e3
        obtain ⟨zf, f0, f1, f2, f3⟩ := HXf.out
        obtain ⟨x, hx⟩ : ∃ x, ch[p]? = some x := ⟨ch[p]'(by have := HL2.out; omega), by simp⟩
        have HXX := Lib.hid hx
        clear hx
        have HFE := Lib.hid (Q.valid_fewer (ds := ds) hp HL1.out HXX.out)
        have hpo : p < on.length := by have := HL1.out; omega
        have hno : on.length ≤ 40 := by have := HL1.out; omega
        have HP := Lib.hid hp
        cases x
        all_goals
          go_wp2_with (at_builtin; refine wpList_append_flat (R := RBo) Tryd.infoBool rfl (by decide) rfl (.tmp 79) (.tmp 81) 23 rfl Tryd.underlying23 w6.heap.size _ _ _ [] rfl (Own.made0 _ _ w6 _ (Nat.le_refl _)) _ _ _ on rfl rfl (((HCf.out.ons).below (b1 _ _)).sl (by omega)) (RBo.ones _) HC.out.co.2 (by omega) (by omega) (by simp) ?_; intro a7 c7 w7 cells7 hown7 hF7 hg7 hB7; rw [hF7.bo] at hown7; simp only [Nat.zero_add, List.nil_append] at hown7; obtain ⟨g7, x7, rfl, hfz7, hcell7, hgl7, hbg7⟩ := ownB_pos (show OwnB w7 w6.heap.size a7 c7 on from hown7) hpo; have hbs : Below w6.heap.size w6 (w7.setCell ⟨g7, p, none⟩ (.bool false)) := (((b1 _ _).trans hB7)).setCell hbg7 _; obtain ⟨_, g0, g1, g2, g3⟩ := HXf.out.below hbs; have HBg := Lib.hid hbs; have HOg := Lib.hid (OwnB.stored (show OwnB w7 w6.heap.size (some ⟨g7, 0, none⟩) c7 on from hown7) p false); clear hown7 hF7 hg7 hB7 hbs)
          have HB7 := Lib.hid (fin HBf.out HBg.out)
          have hv3 := valid_any ad a b (some ⟨g7, 0, none⟩) da c e c7 dc l (on.set p false) ch ds (w7.setCell ⟨g7, p, none⟩ (.bool false)) (HC.out.below HB7.out).rin (HOg.out.bools (by rw [List.length_set]; omega)) (HC.out.below HB7.out).dms (HE.out.below HB7.out)
          rw [List.length_set, HFE.out, HV.out] at hv3
          have HV3 := Lib.hid hv3
          clear hv3
          refine HV3.out.mono ?_
          rintro e w8 ⟨rfl, hb⟩
          have HB8 := Lib.hid (fin HB7.out hb)
          obtain ⟨_, i0, i1, i2, i3⟩ := (HXf.out.below HBg.out).below hb
          obtain ⟨b9, o9, rfl, hbl9, hc9⟩ := (HC.out.below HB8.out).chs.addr (by have := HL2.out; omega)
          have d9 := hc9 p _ HXX.out
          have hpc : p < ch.length := by have := HL2.out; omega
          clear hc9 hb HV3 g0 g1 g2 g3
          go_wp2
          go_ret
          exact ⟨rfl, HB8.out⟩
      · have hv2 := valid_any ad a b (some ⟨w3.heap.size, 0, none⟩) da c e l.length dc l (List.replicate l.length true) ch ds w5 HCe.out.rin HAe.out HCe.out.dms HEe.out
        rw [List.length_replicate, Q.valid_all HV.out] at hv2
        have HV2 := Lib.hid hv2
        clear hv2
        go_wp2_with fail
        refine HV2.out.mono ?_
        rintro e w6 ⟨rfl, hb⟩
        have HXf := Lib.hid (HXe.out.below hb)
        have HBf := Lib.hid (fin HBe.out hb)
        have HEf := Lib.hid (HE.out.below HBf.out)
        have HCf := Lib.hid (HC.out.below HBf.out)
        clear hb HV2 e0 e1 e2 e3
        obtain ⟨zf, f0, f1, f2, f3⟩ := HXf.out
        obtain ⟨x, hx⟩ : ∃ x, ch[p]? = some x := ⟨ch[p]'(by have := HL2.out; omega), by simp⟩
        have HXX := Lib.hid hx
        clear hx
        have HFE := Lib.hid (Q.valid_fewer (ds := ds) hp HL1.out HXX.out)
        have hpo : p < on.length := by have := HL1.out; omega
        have hno : on.length ≤ 40 := by have := HL1.out; omega
        have HP := Lib.hid hp
        cases x
        all_goals
          go_wp2_with (at_builtin; refine wpList_append_flat (R := RBo) Tryd.infoBool rfl (by decide) rfl (.tmp 79) (.tmp 81) 23 rfl Tryd.underlying23 w6.heap.size _ _ _ [] rfl (Own.made0 _ _ w6 _ (Nat.le_refl _)) _ _ _ on rfl rfl (((HCf.out.ons).below (b1 _ _)).sl (by omega)) (RBo.ones _) HC.out.co.2 (by omega) (by omega) (by simp) ?_; intro a7 c7 w7 cells7 hown7 hF7 hg7 hB7; rw [hF7.bo] at hown7; simp only [Nat.zero_add, List.nil_append] at hown7; obtain ⟨g7, x7, rfl, hfz7, hcell7, hgl7, hbg7⟩ := ownB_pos (show OwnB w7 w6.heap.size a7 c7 on from hown7) hpo; have hbs : Below w6.heap.size w6 (w7.setCell ⟨g7, p, none⟩ (.bool false)) := (((b1 _ _).trans hB7)).setCell hbg7 _; obtain ⟨_, g0, g1, g2, g3⟩ := HXf.out.below hbs; have HBg := Lib.hid hbs; have HOg := Lib.hid (OwnB.stored (show OwnB w7 w6.heap.size (some ⟨g7, 0, none⟩) c7 on from hown7) p false); clear hown7 hF7 hg7 hB7 hbs)
          have HB7 := Lib.hid (fin HBf.out HBg.out)
          have hv3 := valid_any ad a b (some ⟨g7, 0, none⟩) da c e c7 dc l (on.set p false) ch ds (w7.setCell ⟨g7, p, none⟩ (.bool false)) (HC.out.below HB7.out).rin (HOg.out.bools (by rw [List.length_set]; omega)) (HC.out.below HB7.out).dms (HE.out.below HB7.out)
          rw [List.length_set, HFE.out, HV.out] at hv3
          have HV3 := Lib.hid hv3
          clear hv3
          refine HV3.out.mono ?_
          rintro e w8 ⟨rfl, hb⟩
          have HB8 := Lib.hid (fin HB7.out hb)
          obtain ⟨_, i0, i1, i2, i3⟩ := (HXf.out.below HBg.out).below hb
          obtain ⟨b9, o9, rfl, hbl9, hc9⟩ := (HC.out.below HB8.out).chs.addr (by have := HL2.out; omega)
          have d9 := hc9 p _ HXX.out
          have hpc : p < ch.length := by have := HL2.out; omega
          clear hc9 hb HV3 g0 g1 g2 g3
          go_wp2
          go_ret
          exact ⟨rfl, HB8.out⟩
end Go.Proofs.YtcbboomnonnofaaDoor
