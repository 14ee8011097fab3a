/- The contract of rules.Of. -/
import Derived.Test.YtnmcajinaigcjaaGreatDoorWWrite
namespace Go.Proofs.YtnmcajinaigcjaaGreatDoor
open Go.RowKit
open Q (It Ver Tm Sp Rc Dm)
open Go.Proofs.YtnmcajinaigcjaaGreatDoor.C
variable {w0 w w' : World} {q p : Nat} {a b : Option Addr} {c e : Nat} {l : List Rc} {on : List Bool} {X : Nat → Prop}

def W.unk (d : Dm) : Bool := decide (d.how < 1) || decide (3 < d.how)
set_option maxHeartbeats 1000000 in
theorem W.unk_any (d : Dm) (ra : Option Addr) (rc : Nat) (w : World) (hw : I64 d.how) :
    Calls Tryz.prog 40 #[.agg #[.int .i64 d.how, .string d.spec.chan, .string d.spec.name, .slice ra d.spec.rows.length rc, .string d.spec.build, .int .i64 d.spec.num]] w fun e w' => e = .returned (.bool (W.unk d)) ∧ Below w.heap.size w w' := by
  obtain ⟨h1, h2⟩ := hw
  have A1 := Lib.hid (fun o => (Below.refl w.heap.size w).alloc (Nat.le_refl _) o)
  have HU := Lib.hid (show W.unk d = (decide (d.how < 1) || decide (3 < d.how)) from rfl)
  generalize W.unk d = u at HU ⊢
  cases h3 : decide (d.how < 1)
  · have h4 : ¬ d.how < 1 := by simpa using h3
    cases h5 : decide (3 < d.how)
    · have h6 : ¬ 3 < d.how := by simpa using h5
      have h7 : decide (d.how > 3) = false := h5
      rw [h3, h5] at HU
      go_enter Tryz.func40, Tryz.ntmps40
      go_wp2
      go_ret
      exact ⟨ret_bool HU.out.symm, A1.out _⟩
    · have h7 : decide (d.how > 3) = true := h5
      rw [h3, h5] at HU
      go_enter Tryz.func40, Tryz.ntmps40
      go_wp2
      go_ret
      exact ⟨ret_bool HU.out.symm, A1.out _⟩
  · rw [h3] at HU
    go_enter Tryz.func40, Tryz.ntmps40
    go_wp2
    go_ret
    exact ⟨ret_bool (by rw [HU.out]; simp), A1.out _⟩
set_option maxHeartbeats 1000000 in
set_option maxRecDepth 100000 in
theorem W.indexD_any (row : List Dm) (a : Option Addr) (c : Nat) (w : World) (hz : Sl RDm 6 w a row) :
    Calls Tryz.prog 70 #[.slice a row.length c, .func (.func 40) #[] #[]] w (Found (row.any W.unk) w) := by
  have hlen := hz.len
  have HZ := Lib.hid hz
  clear hz
  generalize hr : row.any W.unk = z
  have HR := Lib.hid hr
  clear hr
  go_enter Tryz.func70, Tryz.ntmps70
  go_wp2
  go_loopw [5, 8] (fun _ i wr => ∃ k : Nat, k ≤ row.length ∧ i = .int .i64 k ∧ (row.take k).any W.unk = false ∧ Below w.heap.size w wr) (fun _ i _ => row.length - (intOf i).toNat)
  case atStart => exact ⟨0, Nat.zero_le _, rfl, rfl, Below.refl _ _⟩
  case round =>
    obtain ⟨k, hk, rfl, hf, hbr⟩ := hrel
    have HF := Lib.hid hf
    have HB := Lib.hid hbr
    clear hf hbr
    by_cases hlt : k < row.length
    · obtain ⟨x, hx⟩ : ∃ x, row[k]? = some x := ⟨row[k], by simp [hlt]⟩
      obtain ⟨b, off, ra, rc, rfl, hbl, ⟨c0, c1, c2, c3, c4, c5⟩, _, hhow⟩ := (HZ.out.below stays_RDm HB.out).cellsDm hx
      have HX := Lib.hid hx
      have HU := Lib.hid (rel HB.out (W.unk_any x ra rc wr hhow))
      clear hx hhow
      go_wp2_with fail
      (with_reducible refine HU.out.mono ?_)
      rintro e w2 ⟨rfl, hb⟩
      generalize hs : W.unk x = v
      have HS := Lib.hid hs
      clear hs
      cases v
      · go_wp2
        go_roundw
        case rel => exact ⟨k + 1, by omega, by go_num, any_snoc HX.out HF.out HS.out, hb⟩
        case measure => simp [intOf]; omega
      · go_wp2
        go_ret
        exact ⟨k, rfl, by rw [← HR.out, any_hit HX.out HS.out]; simp, hb⟩
    · go_wp2
      go_ret
      refine ⟨-1, rfl, ?_, HB.out⟩
      have := HF.out
      rw [List.take_of_length_le (by omega)] at this
      rw [← HR.out, this]; rfl
theorem W.containsD_any (row : List Dm) (a : Option Addr) (c : Nat) (w : World) (hz : Sl RDm 6 w a row) :
    Calls Tryz.prog 41 #[.slice a row.length c, .func (.func 40) #[] #[]] w fun e w' => e = .returned (.bool (row.any W.unk)) ∧ Below w.heap.size w w' := by
  generalize hq : row.any W.unk = q
  have HI := Lib.hid (hq ▸ W.indexD_any row a c w hz)
  clear hz hq
  go_enter Tryz.func41, Tryz.ntmps41
  go_wp2_with fail
  refine HI.out.mono ?_
  rintro e w2 ⟨k, rfl, hk, hb⟩
  have HK := Lib.hid hk
  clear hk
  go_wp2
  go_ret
  exact ⟨ret_bool HK.out, hb⟩
/-- is a request refused -/
def W.wrong (l : List Rc) (on : List Bool) (ds : List Dm) : Bool := decide (on.length ≠ l.length) || ds.any W.unk
set_option maxHeartbeats 4000000 in
set_option maxRecDepth 100000 in
theorem W.of_bad (ad : Addr) (a b da : Option Addr) (c e dc : Nat) (l : List Rc) (on : List Bool) (ds : List Dm) (w : World) (hD : Sl RDm 6 w da ds) (hE : ErrR w ad) (hl : l.length ≤ 60) (hw : W.wrong l on ds = true) :
    Calls Tryz.prog 17 #[.slice a l.length c, .slice b on.length e, .slice da ds.length dc] w fun e w' => e = .returned (.tuple #[.agg #[.pointer none, .slice none 0 0], .iface 226 (.pointer (some ad))]) ∧ Below w.heap.size w w' := by
  have A1 := Lib.hid (fun o => (Below.refl w.heap.size w).alloc (Nat.le_refl _) o)
  have n1 : decide ((l.length : Int) > 60) = false := decide_eq_false (by omega)
  have n2 : decide ((60 : Int) < (l.length : Int)) = false := decide_eq_false (by omega)
  have n3 : decide (60 < l.length) = false := decide_eq_false (by omega)
  have hdl := hD.len
  have hel := hE.lt
  unfold ErrR at hE
  have HE := Lib.hid hE
  by_cases h3 : on.length = l.length
  · have m1 : ((on.length : Int) != (l.length : Int)) = false := by simp [h3]
    have hu : ds.any W.unk = true := by
      unfold W.wrong at hw
      simpa [h3] using hw
    have HC := Lib.hid (fun (o : Obj) => W.containsD_any ds da dc (w.alloc o) (hD.below stays_RDm (A1.out o)))
    rw [hu] at HC
    clear hD hw h3 hu
    go_enter Tryz.func17, Tryz.ntmps17
    go_wp2_with fail
    (with_reducible refine (HC.out _).mono ?_)
    rintro e1 w2 ⟨rfl, hb⟩
    have HB := Lib.hid ((A1.out _).trans (hb.mono (A1.out _).size))
    have hE2 := (HB.out.cell (p := ⟨1, 0, none⟩) hel).trans HE.out
    have r0 : w2.cell? ⟨w.heap.size, 0, none⟩ = some (.pointer none) := (hb.cell (p := ⟨w.heap.size, 0, none⟩) (by simp)).trans (by simp)
    have r1 : w2.cell? ⟨w.heap.size, 1, none⟩ = some (.slice none 0 0) := (hb.cell (p := ⟨w.heap.size, 1, none⟩) (by simp)).trans (by simp)
    have f0 : w2.frozen? ⟨w.heap.size, 0, none⟩ = false := (hb.frozen (p := ⟨w.heap.size, 0, none⟩) (by simp)).trans (by simp)
    have f1 : w2.frozen? ⟨w.heap.size, 1, none⟩ = false := (hb.frozen (p := ⟨w.heap.size, 1, none⟩) (by simp)).trans (by simp)
    have hz2 : w.heap.size < w2.heap.size := by have := hb.size; simp at this; omega
    clear hb HC
    go_wp2
    go_region
    all_goals
      go_wp2
      refine bodyPost_ret (v := .tuple #[.agg #[.pointer none, .slice none 0 0], .iface 226 (.pointer (some ad))]) (by simp [results, Tryz.results17, go_sem, r0, r1]) rfl ⟨rfl, ?_⟩
      exact ((HB.out.setCell (p := ⟨w.heap.size, 0, none⟩) (Nat.le_refl _) _).setCell (p := ⟨w.heap.size, 1, none⟩) (Nat.le_refl _) _).drew
  · have m1 : ((on.length : Int) != (l.length : Int)) = true := by rw [bne_iff_ne]; omega
    clear hD hw h3
    go_enter Tryz.func17, Tryz.ntmps17
    go_wp2
    go_region
    all_goals
      go_wp2
      exact bodyPost_ret (v := .tuple #[.agg #[.pointer none, .slice none 0 0], .iface 226 (.pointer (some ad))]) (by simp [results, Tryz.results17, go_sem]) rfl ⟨rfl, (A1.out _).drew⟩
def W.OfPost (w : World) (l : List Rc) (on : List Bool) (ds : List Dm) (e : Ending) (w' : World) : Prop :=
  ∃ p sa fa fc, e = .returned (.tuple #[.agg #[.pointer (some ⟨p, 0, none⟩), .slice sa ds.length ds.length], .nilIface]) ∧ C.Fm C.NoX w' w.heap.size p (l.length + ds.length) (M.rulesC l on ds) fa fc ∧ C.OwnI w' w.heap.size sa ds.length (C.M.iota l.length ds.length) ∧ Below w.heap.size w w'
theorem W.set_two (w : World) (B : Nat) (x y : Value) : ((w.setCell ⟨B, 0, none⟩ x).setCell ⟨B, 1, none⟩ y).heap.size = w.heap.size ∧ ∀ k, k ≠ B → ((w.setCell ⟨B, 0, none⟩ x).setCell ⟨B, 1, none⟩ y).heap[k]? = w.heap[k]? :=
  ⟨by simp [World.setCell], fun k hk => by rw [Below.heap_setCell _ _ _ _ hk, Below.heap_setCell _ _ _ _ hk]⟩
theorem W.ofPost_set {base p V sc B : Nat} {cs : List (List Int)} {fa sa : Option Addr} {fc : Nat} {zs : List Int} {u v x y : Value} (hb : w'.heap[B]? = some (.cells #[u, v] 46 (0, 0))) (hf : C.Fm X w' base p V cs fa fc) (ho : C.OwnI w' base sa sc zs) (hbl : Below base w w') (hB : base ≤ B) :
    C.Fm X ((w'.setCell ⟨B, 0, none⟩ x).setCell ⟨B, 1, none⟩ y) base p V cs fa fc ∧ C.OwnI ((w'.setCell ⟨B, 0, none⟩ x).setCell ⟨B, 1, none⟩ y) base sa sc zs ∧ Below base w ((w'.setCell ⟨B, 0, none⟩ x).setCell ⟨B, 1, none⟩ y) := by
  obtain ⟨h1, h2⟩ := W.set_two w' B x y
  refine ⟨C.Fm.turn hf (by omega) (fun k hk _ hF => h2 k ?_) (fun k hk => .inl hk) (fun k hk => by rw [h1]; exact hf.xlt k hk), W.ownI_same ho fun ad e => h2 _ ?_, (hbl.setCell (p := ⟨B, 0, none⟩) hB _).setCell (p := ⟨B, 1, none⟩) hB _⟩
  · rintro rfl
    obtain ⟨cur, t, m, hc, ht⟩ := hF
    rw [hb] at hc; cases hc
    revert ht; decide
  · intro h
    obtain ⟨_, _, cur, hc⟩ := W.ownI_row ho e
    rw [h, hb] at hc; cases hc
set_option maxHeartbeats 4000000 in
set_option maxRecDepth 100000 in
theorem W.of_ok (ad : Addr) (a b da : Option Addr) (c e dc : Nat) (l : List Rc) (on : List Bool) (ds : List Dm) (w : World) (hR : RIn w a b l on) (hl : on.length = l.length) (hD : Sl RDm 6 w da ds) (hE : ErrR w ad) (hd : ∀ r ∈ l, r.deps.length ≤ 100) (h20 : l.length ≤ 20) (hk20 : ds.length ≤ 20) (hu : ds.any W.unk = false) :
    Calls Tryz.prog 17 #[.slice a l.length c, .slice b on.length e, .slice da ds.length dc] w (W.OfPost w l on ds) := by
  have A1 := Lib.hid (fun o => (Below.refl w.heap.size w).alloc (Nat.le_refl _) o)
  have n1 : decide ((l.length : Int) > 60) = false := decide_eq_false (by omega)
  have n2 : decide ((60 : Int) < (l.length : Int)) = false := decide_eq_false (by omega)
  have n3 : decide (60 < l.length) = false := decide_eq_false (by omega)
  have m1 : ((on.length : Int) != (l.length : Int)) = false := by simp [hl]
  have HC := Lib.hid (fun (o : Obj) => W.containsD_any ds da dc (w.alloc o) (hD.below stays_RDm (A1.out o)))
  rw [hu] at HC
  have HR := Lib.hid hR
  have HL := Lib.hid hl
  have HD := Lib.hid hD
  have HE := Lib.hid hE
  have HDL := Lib.hid hd
  clear hR hl hD hE hd hu
  go_enter Tryz.func17, Tryz.ntmps17
  go_wp2_with fail
  (with_reducible refine (HC.out _).mono ?_)
  rintro e1 w2 ⟨rfl, hb⟩
  have HB := Lib.hid ((A1.out _).trans (hb.mono (A1.out _).size))
  have HBK := Lib.hid ((hb.block w.heap.size (by simp)).trans (heap_alloc_new w (Obj.cells #[Value.pointer none, Value.slice none 0 0] 46)))
  have hz2 : w.heap.size < w2.heap.size := by have := hb.size; simp at this; omega
  have HNEW := Lib.hid (C.new_any w2)
  clear hb HC
  go_wp2_with fail
  (with_reducible refine HNEW.out.mono ?_)
  rintro e1 w3 ⟨rfl, hw3⟩
  have hf3 := C.Fm.new (X := C.NoX) w2 w.heap.size HB.out.size (C.NoX.lt _)
  have hb3 : Below w2.heap.size w2 w3 := hw3 ▸ (Below.refl _ _).alloc (Nat.le_refl _) _
  have hz3 : w2.heap.size < w3.heap.size := by rw [← hw3]; simp
  rw [hw3] at hf3
  have HF3 := Lib.hid hf3
  have HB3 := Lib.hid hb3
  clear hf3 hb3 hw3 HNEW
  have hb4 : ∀ o, Below w3.heap.size w3 (w3.alloc o) := fun o => (Below.refl _ _).alloc (Nat.le_refl _) o
  have hb24 : ∀ o, Below w.heap.size w (w3.alloc o) := fun o => (HB.out.trans (HB3.out.mono HB.out.size)).trans ((hb4 o).mono (by omega))
  have HW4 := Lib.hid (show W.Wr w (w3.alloc (Obj.cells #[.pointer (some ⟨w2.heap.size, 0, none⟩), .slice a l.length c, .slice b on.length e] 94)) w3.heap.size w2.heap.size a b c e l on from ⟨heap_alloc_new _ _, hb24 _⟩)
  have HWR := Lib.hid (W.write_any ad ds da dc HR.out HL.out HE.out HD.out HW4.out (HF3.out.below (hb4 _)) HDL.out h20 hk20)
  have HBK4 := Lib.hid (((hb4 (Obj.cells #[.pointer (some ⟨w2.heap.size, 0, none⟩), .slice a l.length c, .slice b on.length e] 94)).block w.heap.size (by omega)).trans ((HB3.out.block w.heap.size hz2).trans HBK.out))
  clear hb4 hb24
  go_wp2_with fail
  (with_reducible refine HWR.out.mono ?_)
  rintro e1 w5 ⟨sa, fa, fc, rfl, hf, ho, hk⟩
  have hW5 := HW4.out.kp hk
  obtain ⟨x0, x1, x2⟩ := hW5.cells
  have hq5 := hW5.lt
  have hbk5 := W.kp_blk hk HBK4.out (by decide) (by decide)
  have r0 : w5.cell? ⟨w.heap.size, 0, none⟩ = some (.pointer none) := (cell_of_cells hbk5 0).trans rfl
  have r1 : w5.cell? ⟨w.heap.size, 1, none⟩ = some (.slice none 0 0) := (cell_of_cells hbk5 1).trans rfl
  have f0 : w5.frozen? ⟨w.heap.size, 0, none⟩ = false := by simp [World.frozen?, hbk5]
  have f1 : w5.frozen? ⟨w.heap.size, 1, none⟩ = false := by simp [World.frozen?, hbk5]
  have hz5 : w.heap.size < w5.heap.size := (Array.getElem?_eq_some_iff.1 hbk5).1
  have HBK5 := Lib.hid hbk5
  have HF5 := Lib.hid hf
  have HO5 := Lib.hid ho
  have HW5 := Lib.hid hW5
  clear hf ho hk hW5 hbk5 HWR HW4 HF3
  go_wp2
  obtain ⟨y1, y2, y3⟩ := W.ofPost_set (x := .pointer (some ⟨w2.heap.size, 0, none⟩)) (y := .slice sa ds.length ds.length) HBK5.out HF5.out HO5.out HW5.out.bel (Nat.le_refl _)
  refine bodyPost_ret (v := .tuple #[.agg #[.pointer (some ⟨w2.heap.size, 0, none⟩), .slice sa ds.length ds.length], .nilIface]) (by simp [results, Tryz.results17, go_sem, r0, r1]) rfl ⟨_, sa, fa, fc, rfl, y1, y2, y3⟩
end Go.Proofs.YtnmcajinaigcjaaGreatDoor
