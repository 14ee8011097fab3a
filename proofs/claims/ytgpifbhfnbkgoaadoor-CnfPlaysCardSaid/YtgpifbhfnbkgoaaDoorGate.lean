/- (*cnf.Formula).gate, And, Or, Xor, Most. -/
import Derived.Test.YtgpifbhfnbkgoaaDoorModels
namespace Go.Proofs.YtgpifbhfnbkgoaaDoor
open Go.RowKit Go.Shelf
variable {X : Nat → Prop}

/-- the formula with one variable more -/
theorem Fm.inc {w : World} {base p vars : Nat} {cs : List (List Int)} {a : Option Addr} {c : Nat} (h : Fm X w base p vars cs a c) (hv : vars < 20000) :
    Fm X (w.setCell ⟨p, 0, none⟩ (.int .i64 ((vars : Int) + 1))) base p (vars + 1) cs a c ∧ KeepsF p a w (w.setCell ⟨p, 0, none⟩ (.int .i64 ((vars : Int) + 1))) := by
  refine h.setV ⟨rfl, rfl, rfl, by simp [World.setCell], fun k hk hkp => Below.heap_setCell _ _ _ _ hkp⟩ ?_ (by omega)
  simp [World.setCell, Array.getElem?_modify, h.blk]
/-- what a gate hands back -/
def GateOk (X : Nat → Prop) (w : World) (base p vars : Nat) (cs : List (List Int)) (e : Ending) (w' : World) : Prop :=
  e = .returned (.tuple #[.int .i64 ((vars : Int) + 1), .nilIface]) ∧ FmPost X w base p (vars + 1) cs w'
theorem FmPost.kp_trans {w w1 w2 : World} {base p vars : Nat} {cs : List (List Int)} (h : Kp X base w w1) (h2 : FmPost X w1 base p vars cs w2) : FmPost X w base p vars cs w2 := by
  obtain ⟨a, c, h3, h4⟩ := h2
  exact ⟨a, c, h3, h.trans h4⟩
set_option maxHeartbeats 1000000 in
theorem gate_ok (base p vars : Nat) (cs cs' : List (List Int)) (a : Option Addr) (c : Nat) (b : Option Addr) (d : Nat) (zs : List Int) (n : Nat) (g : Nat) (cb : Array Value) (w : World) (hF : Fm X w base p vars cs a c) (hz : Ints w b zs)
    (hown : M.own vars zs = true) (hv : vars < 20000) (hn : cs.length + n ≤ 200000)
    (eg : ∀ args w, (callFunc g args).run Tryd.prog w = .ok (.enter g args) w)
    (hfill : Calls Tryd.prog g (#[.int .i64 ((vars : Int) + 1)] ++ cb) (w.setCell ⟨p, 0, none⟩ (.int .i64 ((vars : Int) + 1))) fun e w' => e = .returned (.tuple #[]) ∧ FmPost X (w.setCell ⟨p, 0, none⟩ (.int .i64 ((vars : Int) + 1))) base p (vars + 1) cs' w') :
    Calls Tryd.prog 59 #[.pointer (some ⟨p, 0, none⟩), .slice b zs.length d, .int .i64 n, .func (.func g) #[] cb] w (GateOk X w base p vars cs') := by
  have h0 := hF.cell0
  have h1 := hF.cell1
  have hfz := hF.frozen 0
  have hps := hF.lt
  have hhas := has_any p vars b d zs w h0 hF.vars hz
  rw [hown] at hhas
  have HH := Lib.hid hhas
  have HFI := Lib.hid hfill
  have hd1 : decide ((20000 : Int) ≤ (vars : Int)) = false := by simp; omega
  have hlen := hF.len
  clear hhas hfill
  go_enter Tryd.func59, Tryd.ntmps59
  go_wp2_with (go_at_call 40; refine HH.out.mono ?_; rintro e w' ⟨rfl, rfl⟩)
  refine HFI.out.mono ?_
  rintro e w2 ⟨rfl, a2, c2, hF2, hk2⟩
  have hc2 := hF2.cell0
  have hc2' : w2.cell? ⟨p, 0, none⟩ = some (.int .i64 ((vars : Int) + 1)) := by simpa using hc2
  have HF2 := Lib.hid hF2
  have HK2 := Lib.hid hk2
  clear hF2 hk2 hc2
  go_wp2
  go_ret2
  obtain ⟨r1, r2⟩ := hF.inc hv
  exact ⟨rfl, a2, c2, HF2.out, (r2.kp hF).trans HK2.out⟩
theorem OwnI.one (w : World) (base : Nat) (hb : base ≤ w.heap.size) (x : Int) : OwnI (w.alloc (.cells #[.int .i64 x] 3)) base (some ⟨w.heap.size, 0, none⟩) 1 [x] :=
  ⟨rfl, .inr ⟨w.heap.size, 1, #[.int .i64 x], rfl, hb, by show (w.heap.push _)[w.heap.size]? = _; simp, Nat.le_refl _, by decide, rfl, rfl⟩⟩
theorem opposites_any (x : Int) (b : Option Addr) (d : Nat) (zs : List Int) (w : World) (hz : Ints w b zs) (hx : M.isLit x = true) (hl : ∀ z ∈ zs, M.isLit z = true) (hsm : zs.length ≤ 1000000) :
    Calls Tryd.prog 62 #[.int .i64 x, .slice b zs.length d] w (NewIntsT w (x :: zs.map (- ·))) := by
  have HL := Lib.hid hl
  clear hl
  go_enter Tryd.func62, Tryd.ntmps62
  go_wp2
  go_loopw [5, 7, 12] (fun v _ i wr => ∃ (k : Nat) (a' : Option Addr) (c' : Nat), k ≤ zs.length ∧ i = .int .i64 k ∧ v = .slice a' (k + 1) c' ∧ OwnI wr w.heap.size a' c' (x :: (zs.take k).map (- ·)) ∧ Below w.heap.size w wr) (fun _ _ i _ => zs.length - (intOf i).toNat)
  case atStart => exact ⟨0, _, 1, Nat.zero_le _, rfl, rfl, OwnI.one w _ (Nat.le_refl _) x, (Below.refl _ _).alloc (Nat.le_refl _) _⟩
  case round =>
    obtain ⟨k, a', c', hk, rfl, rfl, ho, hb⟩ := hrel
    have HO := Lib.hid ho
    have HB := Lib.hid hb
    clear ho hb
    by_cases hlt : k < zs.length
    · have hzr := hz.below HB.out
      obtain ⟨bb, off, rfl, hbl, hcl⟩ := hzr.addr (by omega)
      obtain ⟨z, hzk⟩ : ∃ z, zs[k]? = some z := ⟨zs[k], by simp [hlt]⟩
      have hcell := hcl k z hzk
      have HZ := Lib.hid hzk
      have hlz := HL.out z (List.mem_of_getElem? hzk)
      have hz2 := (M.isLit_iff z).1 hlz
      have hzlo : -20000 ≤ z := hz2.2.1
      have hzhi : z ≤ 20000 := hz2.2.2
      clear hcl hzk hz2
      go_wp2_with (at_builtin; refine wpList_append_Ints rfl (.tmp 16) (.tmp 19) 30 rfl Tryd.underlying30 w.heap.size _ _ _ (x :: (zs.take k).map (- ·)) rfl (by simp; omega) (OwnI.alloc HO.out _) _ _ _ [-z] rfl rfl (Ints.one wr (-z) (I64.of_lit (by rw [M.isLit_neg]; exact hlz)) _) (fun h => by cases h) (by omega) (put_size1 HB.out) ?_; intro a2 c2 w2 hown2 hg2 hB2; have HB2 := Lib.hid (put_below2 HB.out hB2); have HO2 := Lib.hid hown2; clear hg2 hown2 hB2)
      go_roundw
      case rel =>
        refine ⟨k + 1, a2, c2, by omega, by go_num, rfl, ?_, HB2.out⟩
        have e : x :: (zs.take (k + 1)).map (- ·) = x :: (zs.take k).map (- ·) ++ [-z] := by rw [List.take_add_one, HZ.out]; simp
        rw [e]; exact HO2.out
      case measure => simp [intOf]; omega
    · go_wp2
      go_ret
      obtain rfl : k = zs.length := by omega
      have ho := HO.out
      rw [List.take_of_length_le (Nat.le_refl _)] at ho
      refine ⟨a', c', by simp, ho.ints ?_ (by simp; omega), ho.cap.1, ho.cap.2, HB.out, ho.tagN⟩
      intro y hy
      simp at hy
      rcases hy with rfl | ⟨z, hz', rfl⟩
      · exact I64.of_lit hx
      · exact I64.of_lit (by rw [M.isLit_neg]; exact HL.out z hz')
end Go.Proofs.YtgpifbhfnbkgoaaDoor
