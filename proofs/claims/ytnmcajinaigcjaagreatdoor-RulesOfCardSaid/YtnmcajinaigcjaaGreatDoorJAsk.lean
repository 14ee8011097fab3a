/- One text of XWAsk, XWSome, XWNone, XWDem: a claim has at most 60 files. -/
import Derived.Test.YtnmcajinaigcjaaGreatDoorQFits
import Derived.Test.YtnmcajinaigcjaaGreatDoorQHolds2
import Derived.Test.YtnmcajinaigcjaaGreatDoorJWm
import Derived.Test.YtnmcajinaigcjaaGreatDoorJMem
namespace Go.Proofs.YtnmcajinaigcjaaGreatDoor
open Go.RowKit
open Q (It Ver Tm Sp Rc Dm)

/-- a record's value in a box -/
def W.rcArr (r : Rc) (pa la : Option Addr) (pc lc : Nat) (d1 d2 d3 : Value) : Array Value := #[.string r.chan, .string r.file, .string r.name, .string r.text, .int .i64 r.ver.ep, .slice pa r.ver.parts.length pc, .slice la r.ver.loc.length lc, .string r.build, .int .i64 r.num, .int .i64 r.time, d1, d2, d3]
structure W.RcBox (w : World) (B : Nat) (r : Rc) (pa la : Option Addr) (pc lc : Nat) (d1 d2 d3 : Value) : Prop where
  lt : B < w.heap.size
  at_ : ∀ i v, (W.rcArr r pa la pc lc d1 d2 d3)[i]? = some v → w.cell? ⟨B, i, none⟩ = some v
theorem W.RcBox.below {w w' : World} {B : Nat} {r : Rc} {pa la : Option Addr} {pc lc : Nat} {d1 d2 d3 : Value} (h : W.RcBox w B r pa la pc lc d1 d2 d3) (hb : Below w.heap.size w w') : W.RcBox w' B r pa la pc lc d1 d2 d3 :=
  ⟨Nat.lt_of_lt_of_le h.lt hb.size, fun i v e => (hb.cell (p := ⟨B, i, none⟩) h.lt).trans (h.at_ i v e)⟩
theorem W.RcBox.all {w : World} {B : Nat} {r : Rc} {pa la : Option Addr} {pc lc : Nat} {d1 d2 d3 : Value} (h : W.RcBox w B r pa la pc lc d1 d2 d3) :
    w.cell? ⟨B, 0, none⟩ = some (.string r.chan) ∧ w.cell? ⟨B, 1, none⟩ = some (.string r.file) ∧ w.cell? ⟨B, 2, none⟩ = some (.string r.name) ∧ w.cell? ⟨B, 3, none⟩ = some (.string r.text) ∧ w.cell? ⟨B, 4, none⟩ = some (.int .i64 r.ver.ep) ∧ w.cell? ⟨B, 5, none⟩ = some (.slice pa r.ver.parts.length pc) ∧ w.cell? ⟨B, 6, none⟩ = some (.slice la r.ver.loc.length lc) ∧ w.cell? ⟨B, 7, none⟩ = some (.string r.build) ∧ w.cell? ⟨B, 8, none⟩ = some (.int .i64 r.num) ∧ w.cell? ⟨B, 9, none⟩ = some (.int .i64 r.time) ∧ w.cell? ⟨B, 10, none⟩ = some (d1) ∧ w.cell? ⟨B, 11, none⟩ = some (d2) ∧ w.cell? ⟨B, 12, none⟩ = some (d3) :=
  ⟨h.at_ 0 _ rfl, h.at_ 1 _ rfl, h.at_ 2 _ rfl, h.at_ 3 _ rfl, h.at_ 4 _ rfl, h.at_ 5 _ rfl, h.at_ 6 _ rfl, h.at_ 7 _ rfl, h.at_ 8 _ rfl, h.at_ 9 _ rfl, h.at_ 10 _ rfl, h.at_ 11 _ rfl, h.at_ 12 _ rfl⟩
theorem W.RcBox.made (w : World) (r : Rc) (pa la : Option Addr) (pc lc : Nat) (d1 d2 d3 : Value) (t : TypeId) : W.RcBox (w.alloc (Obj.cells #[.string r.chan, .string r.file, .string r.name, .string r.text, .int .i64 r.ver.ep, .slice pa r.ver.parts.length pc, .slice la r.ver.loc.length lc, .string r.build, .int .i64 r.num, .int .i64 r.time, d1, d2, d3] t)) w.heap.size r pa la pc lc d1 d2 d3 :=
  ⟨by simp, fun i v e => by rw [World.cell?_alloc_new]; exact e⟩
set_option maxHeartbeats 1000000 in
theorem W.askM_any (d : Dm) (r : Rc) (ra pa la : Option Addr) (rc pc lc : Nat) (d1 d2 d3 : Value) (ad : Addr) (D : Nat) (w : World) (hd : DBox w D d ra rc) (hr : RcAt w r pa la pc lc) (hE : ErrR w ad) :
    Calls Tryz.prog 107 #[.agg #[.string r.chan, .string r.file, .string r.name, .string r.text, .int .i64 r.ver.ep, .slice pa r.ver.parts.length pc, .slice la r.ver.loc.length lc, .string r.build, .int .i64 r.num, .int .i64 r.time, d1, d2, d3], .pointer (some ⟨D, 0, none⟩)] w fun e w' => e = .returned (.bool (Q.mt d.spec r)) ∧ Below w.heap.size w w' := by
  have h1 : ∀ o, Below w.heap.size w (w.alloc o) := fun o => (Below.refl _ _).alloc (Nat.le_refl _) o
  have H1 := Lib.hid h1
  have HM := Lib.hid (fun W hb => match_any d.spec r ra pa la rc pc lc d1 d2 d3 ad W (hd.spec.below hb) (hr.below hb) (hE.below hb))
  obtain ⟨hl, c0, c1, c2, c3, c4, c5, _⟩ := hd
  clear hr hE h1
  go_enter Tryz.func107, Tryz.ntmps107
  go_wp2_with fail
  refine (HM.out _ (H1.out _)).mono ?_
  rintro e w2 ⟨rfl, hb⟩
  have HB := Lib.hid (fin (H1.out _) hb)
  clear hb
  go_wp2
  go_ret
  exact ⟨rfl, HB.out⟩
set_option maxHeartbeats 1000000 in
theorem W.askA_any (d : Dm) (r : Rc) (ra pa la : Option Addr) (rc pc lc : Nat) (d1 d2 d3 : Value) (ad : Addr) (D : Nat) (w : World) (hd : DBox w D d ra rc) (hr : RcAt w r pa la pc lc) (hE : ErrR w ad) :
    Calls Tryz.prog 108 #[.agg #[.string r.chan, .string r.file, .string r.name, .string r.text, .int .i64 r.ver.ep, .slice pa r.ver.parts.length pc, .slice la r.ver.loc.length lc, .string r.build, .int .i64 r.num, .int .i64 r.time, d1, d2, d3], .pointer (some ⟨D, 0, none⟩)] w fun e w' => e = .returned (.bool (Q.against d.spec r)) ∧ Below w.heap.size w w' := by
  have h1 : ∀ o, Below w.heap.size w (w.alloc o) := fun o => (Below.refl _ _).alloc (Nat.le_refl _) o
  have H1 := Lib.hid h1
  have HM := Lib.hid (fun W hb => against_any d.spec r ra pa la rc pc lc d1 d2 d3 ad W (hd.spec.below hb) (hr.below hb) (hE.below hb))
  obtain ⟨hl, c0, c1, c2, c3, c4, c5, _⟩ := hd
  clear hr hE h1
  go_enter Tryz.func108, Tryz.ntmps108
  go_wp2_with fail
  refine (HM.out _ (H1.out _)).mono ?_
  rintro e w2 ⟨rfl, hb⟩
  have HB := Lib.hid (fin (H1.out _) hb)
  clear hb
  go_wp2
  go_ret
  exact ⟨rfl, HB.out⟩
set_option maxHeartbeats 1000000 in
set_option maxRecDepth 100000 in
theorem W.askC1_any (s : Sp) (r : Rc) (ra pa la : Option Addr) (rc pc lc : Nat) (d1 d2 d3 : Value) (ad : Addr) (B : Nat) (w : World) (hB : W.RcBox w B r pa la pc lc d1 d2 d3) (hs : SpAt w s ra rc) (hr : RcAt w r pa la pc lc) (hE : ErrR w ad) :
    Calls Tryz.prog 105 #[.agg #[.string s.chan, .string s.name, .slice ra s.rows.length rc, .string s.build, .int .i64 s.num], .pointer (some ⟨B, 0, none⟩)] w fun e w' => e = .returned (.bool (Q.against s r)) ∧ Below w.heap.size w w' := by
  have h0 : ∀ o, Below w.heap.size w (w.alloc o) := fun o => (Below.refl _ _).alloc (Nat.le_refl _) o
  have hl := hB.lt
  obtain ⟨t0, t1, t2, t3, t4, t5, t6, t7, t8, t9, t10, t11, t12⟩ := hB.all
  have HI := Lib.hid (fun o => rel (h0 o) (against_any s r ra pa la rc pc lc d1 d2 d3 ad _ (hs.below (h0 o)) (hr.below (h0 o)) (hE.below (h0 o))))
  generalize hq : Q.against s r = q at HI ⊢
  clear hB hs hr hE h0 hq
  go_enter Tryz.func105, Tryz.ntmps105
  go_wp2_with fail
  (with_reducible refine (HI.out _).mono ?_)
  rintro e w2 ⟨rfl, hb⟩
  go_wp2
  go_ret
  exact ⟨rfl, hb⟩
set_option maxHeartbeats 1000000 in
set_option maxRecDepth 100000 in
theorem W.indexC_any (row : List Sp) (a : Option Addr) (c : Nat) (r : Rc) (pa la : Option Addr) (pc lc : Nat) (d1 d2 d3 : Value) (ad : Addr) (B : Nat) (w : World) (hz : Sl RSp 5 w a row) (hB : W.RcBox w B r pa la pc lc d1 d2 d3) (hr : RcAt w r pa la pc lc) (hE : ErrR w ad) :
    Calls Tryz.prog 64 #[.slice a row.length c, .func (.func 105) #[] #[.pointer (some ⟨B, 0, none⟩)]] w (Found (row.any fun s => Q.against s r) w) := by
  have hlen := hz.len
  have HZ := Lib.hid hz
  have HBX := Lib.hid hB
  have HV := Lib.hid hr
  have HE := Lib.hid hE
  clear hz hB hr hE
  generalize hr : (row.any fun s => Q.against s r) = z
  have HR := Lib.hid hr
  clear hr
  go_enter Tryz.func64, Tryz.ntmps64
  go_wp2
  go_loopw [5, 8] (fun _ i wr => ∃ k : Nat, k ≤ row.length ∧ i = .int .i64 k ∧ (row.take k).any (fun s => Q.against s r) = false ∧ Below w.heap.size w wr) (fun _ i _ => row.length - (intOf i).toNat)
  case atStart => exact ⟨0, Nat.zero_le _, rfl, rfl, Below.refl _ _⟩
  case round =>
    obtain ⟨k, hk, rfl, hf, hbr⟩ := hrel
    have HF := Lib.hid hf
    have HB := Lib.hid hbr
    clear hf hbr
    by_cases hlt : k < row.length
    · obtain ⟨x, hx⟩ : ∃ x, row[k]? = some x := ⟨row[k], by simp [hlt]⟩
      obtain ⟨b, off, ra, rc, rfl, hbl, ⟨c0, c1, c2, c3, c4⟩, hvx⟩ := (HZ.out.below stays_RSp HB.out).cellsSp hx
      have HX := Lib.hid hx
      have HVX := Lib.hid hvx
      clear hx hvx
      go_wp2_with fail
      (with_reducible refine (rel HB.out (W.askC1_any x r ra pa la rc pc lc d1 d2 d3 ad B _ (HBX.out.below HB.out) HVX.out (HV.out.below HB.out) (HE.out.below HB.out))).mono ?_)
      rintro e w2 ⟨rfl, hb⟩
      generalize hs : Q.against x r = v
      have HS := Lib.hid hs
      clear hs
      cases v
      · go_wp2
        go_roundw
        case rel => exact ⟨k + 1, by omega, by go_num, any_snoc HX.out HF.out HS.out, hb⟩
        case measure => simp [intOf]; omega
      · go_wp2
        go_ret
        exact ⟨k, rfl, by rw [← HR.out, any_hit HX.out HS.out]; simp, hb⟩
    · go_wp2
      go_ret
      refine ⟨-1, rfl, ?_, HB.out⟩
      have := HF.out
      rw [List.take_of_length_le (by omega)] at this
      rw [← HR.out, this]; rfl
theorem W.containsC_any (row : List Sp) (a : Option Addr) (c : Nat) (r : Rc) (pa la : Option Addr) (pc lc : Nat) (d1 d2 d3 : Value) (ad : Addr) (B : Nat) (w : World) (hz : Sl RSp 5 w a row) (hB : W.RcBox w B r pa la pc lc d1 d2 d3) (hr : RcAt w r pa la pc lc) (hE : ErrR w ad) :
    Calls Tryz.prog 34 #[.slice a row.length c, .func (.func 105) #[] #[.pointer (some ⟨B, 0, none⟩)]] w fun e w' => e = .returned (.bool (row.any fun s => Q.against s r)) ∧ Below w.heap.size w w' := by
  generalize hq : (row.any fun s => Q.against s r) = q
  have HI := Lib.hid (hq ▸ W.indexC_any row a c r pa la pc lc d1 d2 d3 ad B w hz hB hr hE)
  clear hz hB hr hE hq
  go_enter Tryz.func34, Tryz.ntmps34
  go_wp2_with fail
  refine HI.out.mono ?_
  rintro e w2 ⟨k, rfl, hk, hb⟩
  have HK := Lib.hid hk
  clear hk
  go_wp2
  go_ret
  exact ⟨ret_bool HK.out, hb⟩
/-- where a record's constraints lie, in a box -/
structure W.CBox (w : World) (D : Nat) (row : List Sp) (a : Option Addr) (c : Nat) : Prop where
  lt : D < w.heap.size
  c11 : w.cell? ⟨D, 11, none⟩ = some (.slice a row.length c)
  row : Sl RSp 5 w a row
theorem W.CBox.below {w w' : World} {D : Nat} {row : List Sp} {a : Option Addr} {c : Nat} (h : W.CBox w D row a c) (hb : Below w.heap.size w w') : W.CBox w' D row a c :=
  ⟨Nat.lt_of_lt_of_le h.lt hb.size, (hb.cell (p := ⟨D, 11, none⟩) h.lt).trans h.c11, h.row.below stays_RSp hb⟩
set_option maxHeartbeats 1000000 in
set_option maxRecDepth 100000 in
theorem W.askC_any (row : List Sp) (a : Option Addr) (c : Nat) (r : Rc) (pa la : Option Addr) (pc lc : Nat) (d1 d2 d3 : Value) (ad : Addr) (D : Nat) (w : World) (hd : W.CBox w D row a c) (hr : RcAt w r pa la pc lc) (hE : ErrR w ad) :
    Calls Tryz.prog 104 #[.agg #[.string r.chan, .string r.file, .string r.name, .string r.text, .int .i64 r.ver.ep, .slice pa r.ver.parts.length pc, .slice la r.ver.loc.length lc, .string r.build, .int .i64 r.num, .int .i64 r.time, d1, d2, d3], .pointer (some ⟨D, 0, none⟩)] w fun e w' => e = .returned (.bool (row.any fun s => Q.against s r)) ∧ Below w.heap.size w w' := by
  have h1 : ∀ o, Below w.heap.size w (w.alloc o) := fun o => (Below.refl _ _).alloc (Nat.le_refl _) o
  have HM := Lib.hid (rel (h1 _) (W.containsC_any row a c r pa la pc lc d1 d2 d3 ad w.heap.size _ (hd.below (h1 _)).row (W.RcBox.made w r pa la pc lc d1 d2 d3 69) (hr.below (h1 _)) (hE.below (h1 _))))
  have hl := hd.lt
  have c11 := hd.c11
  generalize hq : (row.any fun s => Q.against s r) = q at HM ⊢
  clear hr hE h1 hd hq
  go_enter Tryz.func104, Tryz.ntmps104
  go_wp2_with fail
  (with_reducible refine HM.out.mono ?_)
  rintro e w2 ⟨rfl, hb⟩
  go_wp2
  go_ret
  exact ⟨rfl, hb⟩
end Go.Proofs.YtnmcajinaigcjaaGreatDoor
namespace Go.Proofs.YtnmcajinaigcjaaGreatDoor
open Go.RowKit
open Q (It Ver Tm Sp Rc Dm)
open Go.Proofs.YtnmcajinaigcjaaGreatDoor.C

/-- the writer in its block -/
structure W.Wr (w0 w : World) (q p : Nat) (a b : Option Addr) (c e : Nat) (l : List Rc) (on : List Bool) : Prop where
  blk : w.heap[q]? = some (.cells #[.pointer (some ⟨p, 0, none⟩), .slice a l.length c, .slice b on.length e] 94 (0, 0))
  bel : Below w0.heap.size w0 w
variable {w0 w w' : World} {q p : Nat} {a b : Option Addr} {c e : Nat} {l : List Rc} {on : List Bool} {X : Nat → Prop}
theorem W.Wr.lt (h : W.Wr w0 w q p a b c e l on) : q < w.heap.size := (Array.getElem?_eq_some_iff.1 h.blk).1
theorem W.Wr.cells (h : W.Wr w0 w q p a b c e l on) : w.cell? ⟨q, 0, none⟩ = some (.pointer (some ⟨p, 0, none⟩)) ∧ w.cell? ⟨q, 1, none⟩ = some (.slice a l.length c) ∧ w.cell? ⟨q, 2, none⟩ = some (.slice b on.length e) :=
  ⟨by rw [cell_of_cells h.blk]; rfl, by rw [cell_of_cells h.blk]; rfl, by rw [cell_of_cells h.blk]; rfl⟩
theorem W.Wr.below (h : W.Wr w0 w q p a b c e l on) (hb : Below w.heap.size w w') : W.Wr w0 w' q p a b c e l on := ⟨(hb.block _ h.lt).trans h.blk, h.bel.trans (hb.mono h.bel.size)⟩
theorem W.Wr.kp (h : W.Wr w0 w q p a b c e l on) (hk : C.Kp X w0.heap.size w w') : W.Wr w0 w' q p a b c e l on :=
  ⟨(hk.block _ h.lt (.inr (.inr ⟨_, _, _, h.blk, by decide, by decide⟩))).trans h.blk, h.bel.trans (hk.below h.bel.size)⟩
theorem W.own_i64 {V : Nat} (hV : V ≤ 20000) {zs : List Int} (h : M.own V zs = true) : ∀ z ∈ zs, C.I64 z := fun z hz => by
  have := (M.own_iff _ _).1 h z hz
  exact ⟨by omega, by omega⟩
theorem W.mtB_at {s : Sp} {k : Nat} {r : Rc} (h : l[k]? = some r) : M.mtB l s k = Q.mt s r := by unfold M.mtB; rw [h]; rfl
theorem W.agB_at {s : Sp} {k : Nat} {r : Rc} (h : l[k]? = some r) : M.agB l s k = Q.against s r := by unfold M.agB; rw [h]; rfl
theorem W.onB_at {k : Nat} {y : Bool} (h : on[k]? = some y) : M.onB on k = y := by unfold M.onB; rw [h]; rfl
theorem W.someC_succ (v : Int) (k : Nat) (f : Nat → Bool) : M.someC v (k + 1) f = M.someC v k f ++ (if f k then [(k : Int) + 1] else []) := by
  unfold M.someC; rw [M.pl_succ]; rfl
theorem W.someC_len (v : Int) (k : Nat) (f : Nat → Bool) : (M.someC v k f).length ≤ k + 1 := by
  have := M.pl_length k f; unfold M.someC; simp; exact this
set_option maxHeartbeats 4000000 in
set_option maxRecDepth 100000 in
theorem W.some_any (ad : Addr) (V : Nat) (cs : List (List Int)) (fa : Option Addr) (fc : Nat) (v : Int) (s : Sp) (ra : Option Addr) (rc : Nat) (hR : RIn w0 a b l on) (hl : on.length = l.length) (hE : ErrR w0 ad)
    (hW : W.Wr w0 w q p a b c e l on) (hF : C.Fm X w w0.heap.size p V cs fa fc) (hs : SpAt w0 s ra rc) (hv : M.own V [v] = true) (hn : l.length ≤ V) (hsm : cs.length + 1 ≤ 200000) :
    Calls Tryz.prog 102 #[.pointer (some ⟨q, 0, none⟩), .int .i64 v, .agg #[.string s.chan, .string s.name, .slice ra s.rows.length rc, .string s.build, .int .i64 s.num]] w fun e w' => e = .returned .nilIface ∧ C.FmPost X w w0.heap.size p V (M.addC cs (M.depC l on v s)) w' := by
  have hvv := (M.own_iff _ _).1 hv v (by simp)
  have hV := hF.vars
  have hv1 : -20000 ≤ v := by omega
  have hv2 : v ≤ 20000 := by omega
  obtain ⟨q0, q1, q2⟩ := hW.cells
  have hql := hW.lt
  have HW := Lib.hid hW
  have HF := Lib.hid hF
  have HR := Lib.hid hR
  have HE := Lib.hid hE
  have HS := Lib.hid hs
  have HV := Lib.hid hv
  have HL := Lib.hid hl
  have HSM := Lib.hid hsm
  have HN := Lib.hid hn
  have hn2 : l.length ≤ 20000 := by omega
  have ha1 : ∀ (w : World) (o : Obj), Below w.heap.size w (w.alloc o) := fun w o => (Below.refl _ _).alloc (Nat.le_refl _) o
  have A1 := Lib.hid ha1
  clear hvv hW hF hR hE hs hv hl hsm hn ha1
  go_enter Tryz.func102, Tryz.ntmps102
  generalize hdc : M.depC l on v s = dc
  have HDC := Lib.hid hdc
  clear hdc
  have hneg : wrap64 (-v) = -v := by rw [IntWalk.wrap64_in _ ⟨by omega, by omega⟩]
  have hneg2 : IntKind.i64.wrap (-v) = -v := by rw [IntKind.wrap_i64]; omega
  go_wp2
  obtain ⟨W1, hW1⟩ : ∃ x, x = w.alloc (.cells #[.string s.chan, .string s.name, .slice ra s.rows.length rc, .string s.build, .int .i64 s.num] 53) := ⟨_, rfl⟩
  have hB1 : Below w.heap.size w W1 := hW1 ▸ A1.out _ _
  have hz1 : W1.heap.size = w.heap.size + 1 := by rw [hW1]; simp
  have d0 : W1.cell? ⟨w.heap.size, 0, none⟩ = some (.string s.chan) := by rw [hW1]; simp
  have d1 : W1.cell? ⟨w.heap.size, 1, none⟩ = some (.string s.name) := by rw [hW1]; simp
  have d2 : W1.cell? ⟨w.heap.size, 2, none⟩ = some (.slice ra s.rows.length rc) := by rw [hW1]; simp
  have d3 : W1.cell? ⟨w.heap.size, 3, none⟩ = some (.string s.build) := by rw [hW1]; simp
  have d4 : W1.cell? ⟨w.heap.size, 4, none⟩ = some (.int .i64 s.num) := by rw [hW1]; simp
  have h9 : C.OwnI (W1.alloc (.cells #[.int .i64 (-v)] 3)) W1.heap.size (some ⟨w.heap.size + 1, 0, none⟩) 1 [-v] := by
    have h := C.OwnI.one W1 _ (Nat.le_refl _) (-v)
    rw [← hz1]; exact h
  go_loopw [7, 8, 9, 18] (fun v' _ _ i wr => ∃ (k : Nat) (pa : Option Addr) (pc : Nat), k ≤ l.length ∧ i = .int .i64 k ∧ v' = .slice pa (M.someC v k fun j => M.onB on j && M.mtB l s j).length pc ∧ C.OwnI wr W1.heap.size pa pc (M.someC v k fun j => M.onB on j && M.mtB l s j) ∧ Below W1.heap.size W1 wr) (fun _ _ _ i _ => l.length - (intOf i).toNat)
  case atStart => exact ⟨0, _, 1, Nat.zero_le _, rfl, rfl, (by subst hW1; exact h9), (by subst hW1; exact A1.out _ _)⟩
  case round =>
    clear h9
    obtain ⟨k, pa, pc, hk, rfl, rfl, ho, hbr⟩ := hrel
    have HO := Lib.hid ho
    have HB := Lib.hid hbr
    have hzr := hbr.size
    have hWr := (HW.out.below hB1).below hbr
    have hRr := HR.out.below hWr.bel
    obtain ⟨x0, x1, x2⟩ := hWr.cells
    have hqr := hWr.lt
    have hkl := W.someC_len v k (fun j => M.onB on j && M.mtB l s j)
    have hbw : Below w.heap.size w wr := hB1.trans (hbr.mono hB1.size)
    have e0 := (hbr.cell (p := ⟨w.heap.size, 0, none⟩) (show w.heap.size < W1.heap.size by omega)).trans d0
    have e1 := (hbr.cell (p := ⟨w.heap.size, 1, none⟩) (show w.heap.size < W1.heap.size by omega)).trans d1
    have e2 := (hbr.cell (p := ⟨w.heap.size, 2, none⟩) (show w.heap.size < W1.heap.size by omega)).trans d2
    have e3 := (hbr.cell (p := ⟨w.heap.size, 3, none⟩) (show w.heap.size < W1.heap.size by omega)).trans d3
    have e4 := (hbr.cell (p := ⟨w.heap.size, 4, none⟩) (show w.heap.size < W1.heap.size by omega)).trans d4
    have hlen := hRr.recs.len
    have hlb := hRr.bools.len
    have HWR := Lib.hid hWr
    have HBW := Lib.hid hbw
    have hzw : w.heap.size < wr.heap.size := by omega
    clear ho hbr hWr hbw
    by_cases hlt : k < l.length
    · obtain ⟨r, hx⟩ : ∃ x, l[k]? = some x := ⟨l[k], by simp [hlt]⟩
      obtain ⟨bb, off, pv, la, pvc, lc, da, dc, ca, cc, fa', fc', rfl, hbl, ⟨t0, t1, t2, t3, t4, t5, t6, t7, t8, t9, t10, t11, t12⟩, hat, _, _, _⟩ := hRr.recs.cellsRc hx
      have hlc : k < on.length := by have := HL.out; omega
      obtain ⟨y, hy⟩ : ∃ y, on[k]? = some y := ⟨on[k], by simp [hlc]⟩
      obtain ⟨b2, off2, rfl, hbl2, hcb⟩ := hRr.bools.addr (by omega)
      have hcy := hcb k y hy
      have HSK := Lib.hid (W.someC_succ v k (fun j => M.onB on j && M.mtB l s j))
      have HX := Lib.hid hx
      have HY := Lib.hid hy
      have HA := Lib.hid hat
      clear hx hy hat hcb hRr
      cases y
      · have HSK2 := Lib.hid (show M.someC v (k + 1) (fun j => M.onB on j && M.mtB l s j) = M.someC v k (fun j => M.onB on j && M.mtB l s j) by rw [HSK.out, W.onB_at HY.out]; simp)
        go_wp2
        go_roundw
        case rel => exact ⟨k + 1, pa, pc, by omega, by go_num, by rw [HSK2.out], by rw [HSK2.out]; exact HO.out.alloc _, HB.out.alloc HB.out.size _⟩
        case measure => simp [intOf]; omega
      · go_wp2_with fail
        have hb1 : ∀ o, Below wr.heap.size wr (wr.alloc o) := fun o => A1.out _ _
        refine (match_any s r ra pv la rc pvc lc _ _ _ ad _ ((HS.out.below HWR.out.bel).below (hb1 _)) (HA.out.below (hb1 _)) ((HE.out.below HWR.out.bel).below (hb1 _))).mono ?_
        rintro e w2 ⟨rfl, hb⟩
        have HB2 := Lib.hid (fin (hb1 _) hb)
        have hz2 := HB2.out.size
        clear hb hb1
        generalize hs2 : Q.mt s r = z
        have HS2 := Lib.hid hs2
        clear hs2
        cases z
        · have HSK2 := Lib.hid (show M.someC v (k + 1) (fun j => M.onB on j && M.mtB l s j) = M.someC v k (fun j => M.onB on j && M.mtB l s j) by rw [HSK.out, W.mtB_at HX.out, HS2.out]; simp)
          go_wp2
          go_roundw
          case rel => exact ⟨k + 1, pa, pc, by omega, by go_num, by rw [HSK2.out], by rw [HSK2.out]; exact HO.out.below HB2.out, HB.out.trans (HB2.out.mono HB.out.size)⟩
          case measure => simp [intOf]; omega
        · have HSK2 := Lib.hid (show M.someC v (k + 1) (fun j => M.onB on j && M.mtB l s j) = M.someC v k (fun j => M.onB on j && M.mtB l s j) ++ [(k : Int) + 1] by rw [HSK.out, W.mtB_at HX.out, HS2.out, W.onB_at HY.out]; rfl)
          go_wp2_with (at_builtin; refine C.wpList_append_Ints rfl (.tmp 35) (.tmp 38) 31 rfl Tryz.underlying31 W1.heap.size pa _ pc _ rfl rfl ((HO.out.below HB2.out).alloc _) _ _ _ [(k : Int) + 1] rfl rfl (C.Ints.one w2 _ ⟨by omega, by omega⟩ _) (fun h => by cases h) (by omega) (by simp; omega) ?_; intro a3 c3 w3 hO3 hG3 hB3; have HO3 := Lib.hid hO3; have HB3 := Lib.hid hB3; clear hO3 hG3 hB3)
          go_roundw
          case rel => exact ⟨k + 1, a3, c3, by omega, by go_num, by rw [HSK2.out]; simp, by rw [HSK2.out]; exact HO3.out, (((HB.out.trans (HB2.out.mono HB.out.size)).alloc (by omega) _)).trans HB3.out⟩
          case measure => simp [intOf]; omega
    · obtain rfl : k = l.length := by omega
      have ho := HO.out
      have howner : M.own V (M.someC v l.length fun j => M.onB on j && M.mtB l s j) = true := M.someC_own HV.out HN.out
      have HOW := Lib.hid howner
      have hI := ho.ints (W.own_i64 hV howner) (by omega)
      have hadd := C.add_ok w0.heap.size p V cs fa fc pa pc _ wr (HF.out.below HBW.out) hI howner HSM.out
      rw [show M.addC cs (M.someC v l.length fun j => M.onB on j && M.mtB l s j) = M.addC cs dc from by rw [← HDC.out]; rfl] at hadd
      have HAD := Lib.hid hadd
      clear ho howner hI hadd
      go_wp2_with fail
      (with_reducible refine HAD.out.mono ?_)
      rintro e w2 ⟨rfl, hpost⟩
      have HP := Lib.hid (C.FmPost.of_below HBW.out hpost)
      clear hpost
      go_wp2
      go_ret
      exact ⟨rfl, HP.out⟩
end Go.Proofs.YtnmcajinaigcjaaGreatDoor
namespace Go.Proofs.YtnmcajinaigcjaaGreatDoor
open Go.RowKit
open Q (It Ver Tm Sp Rc Dm)
open Go.Proofs.YtnmcajinaigcjaaGreatDoor.C
variable {w0 w w' : World} {q p : Nat} {a b : Option Addr} {c e : Nat} {l : List Rc} {on : List Bool} {X : Nat → Prop}

def W.askB (l : List Rc) (ask : Rc → Bool) (i : Nat) : Bool := (l[i]?.map ask).getD false
theorem W.askB_at {ask : Rc → Bool} {k : Nat} {r : Rc} (h : l[k]? = some r) : W.askB l ask k = ask r := by unfold W.askB; rw [h]; rfl
/-- the function at g, with one captured pointer, answers ask, as long as what is no formula stays -/
def W.Asks (X : Nat → Prop) (base : Nat) (w : World) (g D : Nat) (ask : Rc → Bool) : Prop :=
  ∀ (wx : World) (r : Rc) (pa la : Option Addr) (pc lc : Nat) (d1 d2 d3 : Value), C.Kp X base w wx → RcAt wx r pa la pc lc →
    Calls Tryz.prog g #[.agg #[.string r.chan, .string r.file, .string r.name, .string r.text, .int .i64 r.ver.ep, .slice pa r.ver.parts.length pc, .slice la r.ver.loc.length lc, .string r.build, .int .i64 r.num, .int .i64 r.time, d1, d2, d3], .pointer (some ⟨D, 0, none⟩)] wx fun e w' => e = .returned (.bool (ask r)) ∧ Below wx.heap.size wx w'
theorem W.foldC_len (cs : List (List Int)) (v : Int) (k : Nat) (f : Nat → Bool) : ((M.noneC v k f).foldl M.addC cs).length ≤ cs.length + k := by
  have h1 := M.addCs_length cs (M.noneC v k f)
  have h2 := M.noneC_length v k f
  omega
set_option maxHeartbeats 4000000 in
set_option maxRecDepth 100000 in
theorem W.noneC_any (D V : Nat) (ask : Rc → Bool) (cs : List (List Int)) (fa : Option Addr) (fc : Nat) (v : Int) (hR : RIn w0 a b l on) (hl : on.length = l.length)
    (hW : W.Wr w0 w q p a b c e l on) (hF : C.Fm X w w0.heap.size p V cs fa fc) (hA : W.Asks X w0.heap.size w 104 D ask) (hv : M.own V [v] = true) (hn : l.length ≤ V) (hsm : cs.length + l.length ≤ 200000) :
    Calls Tryz.prog 103 #[.pointer (some ⟨q, 0, none⟩), .int .i64 v, .func (.func 104) #[] #[.pointer (some ⟨D, 0, none⟩)]] w fun e w' => e = .returned .nilIface ∧ C.FmPost X w w0.heap.size p V ((M.noneC v l.length fun j => M.onB on j && W.askB l ask j).foldl M.addC cs) w' := by
  have hvv := (M.own_iff _ _).1 hv v (by simp)
  have hV := hF.vars
  have hv1 : -20000 ≤ v := by omega
  have hv2 : v ≤ 20000 := by omega
  obtain ⟨q0, q1, q2⟩ := hW.cells
  have hql := hW.lt
  have hbw0 := hW.bel.size
  have HW := Lib.hid hW
  have HF := Lib.hid hF
  have HR := Lib.hid hR
  have HA := Lib.hid hA
  have HV := Lib.hid hv
  have HL := Lib.hid hl
  have HSM := Lib.hid hsm
  have HN := Lib.hid hn
  have hn2 : l.length ≤ 20000 := by omega
  have ha1 : ∀ (w : World) (o : Obj), Below w.heap.size w (w.alloc o) := fun w o => (Below.refl _ _).alloc (Nat.le_refl _) o
  have A1 := Lib.hid ha1
  clear hvv hW hF hR hA hv hl hsm hn ha1
  go_enter Tryz.func103, Tryz.ntmps103
  go_wp2
  go_loopw [7, 8, 9, 15] (fun _ _ _ i wr => ∃ (k : Nat) (fa : Option Addr) (fc : Nat), k ≤ l.length ∧ i = .int .i64 k ∧ C.Fm X wr w0.heap.size p V ((M.noneC v k fun j => M.onB on j && W.askB l ask j).foldl M.addC cs) fa fc ∧ C.Kp X w0.heap.size w wr) (fun _ _ _ i _ => l.length - (intOf i).toNat)
  case atStart => exact ⟨0, fa, fc, Nat.zero_le _, rfl, HF.out, C.Kp.refl _ _ _⟩
  case round =>
    obtain ⟨k, fa2, fc2, hk, rfl, hf, hkp⟩ := hrel
    have HFR := Lib.hid hf
    have HKP := Lib.hid hkp
    have hzr := hkp.size
    have hWr := HW.out.kp hkp
    have hRr := HR.out.below hWr.bel
    obtain ⟨x0, x1, x2⟩ := hWr.cells
    have hqr := hWr.lt
    have hlen := hRr.recs.len
    have hlb := hRr.bools.len
    clear hf hkp hWr
    by_cases hlt : k < l.length
    · obtain ⟨r, hx⟩ : ∃ x, l[k]? = some x := ⟨l[k], by simp [hlt]⟩
      obtain ⟨bb, off, pv, la, pvc, lc, da, dc, ca, cc, fa', fc', rfl, hbl, ⟨t0, t1, t2, t3, t4, t5, t6, t7, t8, t9, t10, t11, t12⟩, hat, _, _, _⟩ := hRr.recs.cellsRc hx
      have hlc : k < on.length := by have := HL.out; omega
      obtain ⟨y, hy⟩ : ∃ y, on[k]? = some y := ⟨on[k], by simp [hlc]⟩
      obtain ⟨b2, off2, rfl, hbl2, hcb⟩ := hRr.bools.addr (by omega)
      have hcy := hcb k y hy
      have hsk := M.noneC_succ v k (fun j => M.onB on j && W.askB l ask j)
      rw [W.askB_at hx, W.onB_at hy] at hsk
      have HSK := Lib.hid hsk
      have HA2 := Lib.hid hat
      clear hx hy hat hcb hRr hsk
      cases y
      · have hs2 : M.noneC v (k + 1) (fun j => M.onB on j && W.askB l ask j) = M.noneC v k (fun j => M.onB on j && W.askB l ask j) := by rw [HSK.out]; simp
        have HS2 := Lib.hid hs2
        clear hs2
        go_wp2
        go_roundw
        case rel => exact ⟨k + 1, fa2, fc2, by omega, by go_num, by rw [HS2.out]; exact HFR.out.below (A1.out _ _), HKP.out.trans (C.Kp.of_below (A1.out _ _))⟩
        case measure => simp [intOf]; omega
      · go_wp2_with fail
        have hb1 : ∀ o, Below wr.heap.size wr (wr.alloc o) := fun o => A1.out _ _
        refine (HA.out _ r pv la pvc lc _ _ _ (HKP.out.trans (C.Kp.of_below (hb1 _))) (HA2.out.below (hb1 _))).mono ?_
        rintro e w2 ⟨rfl, hb⟩
        have HB2 := Lib.hid (fin (hb1 _) hb)
        have hz2 := HB2.out.size
        clear hb hb1
        generalize hs2 : ask r = z
        rw [hs2] at HSK
        clear hs2
        cases z
        · have hs2 : M.noneC v (k + 1) (fun j => M.onB on j && W.askB l ask j) = M.noneC v k (fun j => M.onB on j && W.askB l ask j) := by rw [HSK.out]; simp
          have HS2 := Lib.hid hs2
          clear hs2
          go_wp2
          go_roundw
          case rel => exact ⟨k + 1, fa2, fc2, by omega, by go_num, by rw [HS2.out]; exact HFR.out.below HB2.out, HKP.out.trans (C.Kp.of_below HB2.out)⟩
          case measure => simp [intOf]; omega
        · have hs2 : M.noneC v (k + 1) (fun j => M.onB on j && W.askB l ask j) = M.noneC v k (fun j => M.onB on j && W.askB l ask j) ++ [[-v, -((k : Int) + 1)]] := by rw [HSK.out]; rfl
          have hlen2 := W.foldC_len cs v k (fun j => M.onB on j && W.askB l ask j)
          have hs3 : (M.noneC v (k + 1) (fun j => M.onB on j && W.askB l ask j)).foldl M.addC cs = M.addC ((M.noneC v k (fun j => M.onB on j && W.askB l ask j)).foldl M.addC cs) [-v, -((k : Int) + 1)] := by rw [hs2, List.foldl_append]; rfl
          have hown2 : M.own V [-v, -((k : Int) + 1)] = true := (M.own_iff _ _).2 fun z hz => by
            have h0 := (M.own_iff _ _).1 HV.out v (by simp)
            have := HN.out
            simp at hz
            rcases hz with rfl | rfl <;> omega
          have HS3 := Lib.hid hs3
          have hW2 := (HW.out.kp HKP.out).below HB2.out
          obtain ⟨y0, y1, y2⟩ := hW2.cells
          have hq2 := hW2.lt
          have HAD := Lib.hid (fun (o : Obj) (b : Option Addr) (d : Nat) (hI : C.Ints (w2.alloc o) b [-v, -((k : Int) + 1)]) => (show Calls Tryz.prog 100 #[.pointer (some ⟨p, 0, none⟩), .slice b 2 d] (w2.alloc o) _ from C.add_ok w0.heap.size p V _ fa2 fc2 b d [-v, -((k : Int) + 1)] (w2.alloc o) ((HFR.out.below HB2.out).below (A1.out w2 o)) hI hown2 (by have := HSM.out; omega)))
          clear hs2 hs3 hown2 hlen2 hW2
          go_wp2_with fail
          (with_reducible refine (HAD.out _ _ _ (C.Ints.two w2 (-v) (-((k : Int) + 1)) (by unfold C.I64; omega) (by unfold C.I64; omega) _)).mono ?_)
          rintro e w3 ⟨rfl, fa3, fc3, hf3, hk3⟩
          have HF3 := Lib.hid hf3
          have HK3 := Lib.hid (HKP.out.trans ((C.Kp.of_below (HB2.out.trans ((A1.out w2 _).mono hz2))).trans hk3))
          clear hf3 hk3 HAD
          go_wp2
          go_roundw
          case rel => exact ⟨k + 1, fa3, fc3, by omega, by go_num, by rw [HS3.out]; exact HF3.out, HK3.out⟩
          case measure => simp [intOf]; omega
    · obtain rfl : k = l.length := by omega
      go_wp2
      go_ret
      exact ⟨rfl, fa2, fc2, HFR.out, HKP.out⟩
set_option maxHeartbeats 4000000 in
set_option maxRecDepth 100000 in
theorem W.noneM_any (D V : Nat) (ask : Rc → Bool) (cs : List (List Int)) (fa : Option Addr) (fc : Nat) (v : Int) (hR : RIn w0 a b l on) (hl : on.length = l.length)
    (hW : W.Wr w0 w q p a b c e l on) (hF : C.Fm X w w0.heap.size p V cs fa fc) (hA : W.Asks X w0.heap.size w 107 D ask) (hv : M.own V [v] = true) (hn : l.length ≤ V) (hsm : cs.length + l.length ≤ 200000) :
    Calls Tryz.prog 103 #[.pointer (some ⟨q, 0, none⟩), .int .i64 v, .func (.func 107) #[] #[.pointer (some ⟨D, 0, none⟩)]] w fun e w' => e = .returned .nilIface ∧ C.FmPost X w w0.heap.size p V ((M.noneC v l.length fun j => M.onB on j && W.askB l ask j).foldl M.addC cs) w' := by
  have hvv := (M.own_iff _ _).1 hv v (by simp)
  have hV := hF.vars
  have hv1 : -20000 ≤ v := by omega
  have hv2 : v ≤ 20000 := by omega
  obtain ⟨q0, q1, q2⟩ := hW.cells
  have hql := hW.lt
  have hbw0 := hW.bel.size
  have HW := Lib.hid hW
  have HF := Lib.hid hF
  have HR := Lib.hid hR
  have HA := Lib.hid hA
  have HV := Lib.hid hv
  have HL := Lib.hid hl
  have HSM := Lib.hid hsm
  have HN := Lib.hid hn
  have hn2 : l.length ≤ 20000 := by omega
  have ha1 : ∀ (w : World) (o : Obj), Below w.heap.size w (w.alloc o) := fun w o => (Below.refl _ _).alloc (Nat.le_refl _) o
  have A1 := Lib.hid ha1
  clear hvv hW hF hR hA hv hl hsm hn ha1
  go_enter Tryz.func103, Tryz.ntmps103
  go_wp2
  go_loopw [7, 8, 9, 15] (fun _ _ _ i wr => ∃ (k : Nat) (fa : Option Addr) (fc : Nat), k ≤ l.length ∧ i = .int .i64 k ∧ C.Fm X wr w0.heap.size p V ((M.noneC v k fun j => M.onB on j && W.askB l ask j).foldl M.addC cs) fa fc ∧ C.Kp X w0.heap.size w wr) (fun _ _ _ i _ => l.length - (intOf i).toNat)
  case atStart => exact ⟨0, fa, fc, Nat.zero_le _, rfl, HF.out, C.Kp.refl _ _ _⟩
  case round =>
    obtain ⟨k, fa2, fc2, hk, rfl, hf, hkp⟩ := hrel
    have HFR := Lib.hid hf
    have HKP := Lib.hid hkp
    have hzr := hkp.size
    have hWr := HW.out.kp hkp
    have hRr := HR.out.below hWr.bel
    obtain ⟨x0, x1, x2⟩ := hWr.cells
    have hqr := hWr.lt
    have hlen := hRr.recs.len
    have hlb := hRr.bools.len
    clear hf hkp hWr
    by_cases hlt : k < l.length
    · obtain ⟨r, hx⟩ : ∃ x, l[k]? = some x := ⟨l[k], by simp [hlt]⟩
      obtain ⟨bb, off, pv, la, pvc, lc, da, dc, ca, cc, fa', fc', rfl, hbl, ⟨t0, t1, t2, t3, t4, t5, t6, t7, t8, t9, t10, t11, t12⟩, hat, _, _, _⟩ := hRr.recs.cellsRc hx
      have hlc : k < on.length := by have := HL.out; omega
      obtain ⟨y, hy⟩ : ∃ y, on[k]? = some y := ⟨on[k], by simp [hlc]⟩
      obtain ⟨b2, off2, rfl, hbl2, hcb⟩ := hRr.bools.addr (by omega)
      have hcy := hcb k y hy
      have hsk := M.noneC_succ v k (fun j => M.onB on j && W.askB l ask j)
      rw [W.askB_at hx, W.onB_at hy] at hsk
      have HSK := Lib.hid hsk
      have HA2 := Lib.hid hat
      clear hx hy hat hcb hRr hsk
      cases y
      · have hs2 : M.noneC v (k + 1) (fun j => M.onB on j && W.askB l ask j) = M.noneC v k (fun j => M.onB on j && W.askB l ask j) := by rw [HSK.out]; simp
        have HS2 := Lib.hid hs2
        clear hs2
        go_wp2
        go_roundw
        case rel => exact ⟨k + 1, fa2, fc2, by omega, by go_num, by rw [HS2.out]; exact HFR.out.below (A1.out _ _), HKP.out.trans (C.Kp.of_below (A1.out _ _))⟩
        case measure => simp [intOf]; omega
      · go_wp2_with fail
        have hb1 : ∀ o, Below wr.heap.size wr (wr.alloc o) := fun o => A1.out _ _
        refine (HA.out _ r pv la pvc lc _ _ _ (HKP.out.trans (C.Kp.of_below (hb1 _))) (HA2.out.below (hb1 _))).mono ?_
        rintro e w2 ⟨rfl, hb⟩
        have HB2 := Lib.hid (fin (hb1 _) hb)
        have hz2 := HB2.out.size
        clear hb hb1
        generalize hs2 : ask r = z
        rw [hs2] at HSK
        clear hs2
        cases z
        · have hs2 : M.noneC v (k + 1) (fun j => M.onB on j && W.askB l ask j) = M.noneC v k (fun j => M.onB on j && W.askB l ask j) := by rw [HSK.out]; simp
          have HS2 := Lib.hid hs2
          clear hs2
          go_wp2
          go_roundw
          case rel => exact ⟨k + 1, fa2, fc2, by omega, by go_num, by rw [HS2.out]; exact HFR.out.below HB2.out, HKP.out.trans (C.Kp.of_below HB2.out)⟩
          case measure => simp [intOf]; omega
        · have hs2 : M.noneC v (k + 1) (fun j => M.onB on j && W.askB l ask j) = M.noneC v k (fun j => M.onB on j && W.askB l ask j) ++ [[-v, -((k : Int) + 1)]] := by rw [HSK.out]; rfl
          have hlen2 := W.foldC_len cs v k (fun j => M.onB on j && W.askB l ask j)
          have hs3 : (M.noneC v (k + 1) (fun j => M.onB on j && W.askB l ask j)).foldl M.addC cs = M.addC ((M.noneC v k (fun j => M.onB on j && W.askB l ask j)).foldl M.addC cs) [-v, -((k : Int) + 1)] := by rw [hs2, List.foldl_append]; rfl
          have hown2 : M.own V [-v, -((k : Int) + 1)] = true := (M.own_iff _ _).2 fun z hz => by
            have h0 := (M.own_iff _ _).1 HV.out v (by simp)
            have := HN.out
            simp at hz
            rcases hz with rfl | rfl <;> omega
          have HS3 := Lib.hid hs3
          have hW2 := (HW.out.kp HKP.out).below HB2.out
          obtain ⟨y0, y1, y2⟩ := hW2.cells
          have hq2 := hW2.lt
          have HAD := Lib.hid (fun (o : Obj) (b : Option Addr) (d : Nat) (hI : C.Ints (w2.alloc o) b [-v, -((k : Int) + 1)]) => (show Calls Tryz.prog 100 #[.pointer (some ⟨p, 0, none⟩), .slice b 2 d] (w2.alloc o) _ from C.add_ok w0.heap.size p V _ fa2 fc2 b d [-v, -((k : Int) + 1)] (w2.alloc o) ((HFR.out.below HB2.out).below (A1.out w2 o)) hI hown2 (by have := HSM.out; omega)))
          clear hs2 hs3 hown2 hlen2 hW2
          go_wp2_with fail
          (with_reducible refine (HAD.out _ _ _ (C.Ints.two w2 (-v) (-((k : Int) + 1)) (by unfold C.I64; omega) (by unfold C.I64; omega) _)).mono ?_)
          rintro e w3 ⟨rfl, fa3, fc3, hf3, hk3⟩
          have HF3 := Lib.hid hf3
          have HK3 := Lib.hid (HKP.out.trans ((C.Kp.of_below (HB2.out.trans ((A1.out w2 _).mono hz2))).trans hk3))
          clear hf3 hk3 HAD
          go_wp2
          go_roundw
          case rel => exact ⟨k + 1, fa3, fc3, by omega, by go_num, by rw [HS3.out]; exact HF3.out, HK3.out⟩
          case measure => simp [intOf]; omega
    · obtain rfl : k = l.length := by omega
      go_wp2
      go_ret
      exact ⟨rfl, fa2, fc2, HFR.out, HKP.out⟩
set_option maxHeartbeats 4000000 in
set_option maxRecDepth 100000 in
theorem W.noneA_any (D V : Nat) (ask : Rc → Bool) (cs : List (List Int)) (fa : Option Addr) (fc : Nat) (v : Int) (hR : RIn w0 a b l on) (hl : on.length = l.length)
    (hW : W.Wr w0 w q p a b c e l on) (hF : C.Fm X w w0.heap.size p V cs fa fc) (hA : W.Asks X w0.heap.size w 108 D ask) (hv : M.own V [v] = true) (hn : l.length ≤ V) (hsm : cs.length + l.length ≤ 200000) :
    Calls Tryz.prog 103 #[.pointer (some ⟨q, 0, none⟩), .int .i64 v, .func (.func 108) #[] #[.pointer (some ⟨D, 0, none⟩)]] w fun e w' => e = .returned .nilIface ∧ C.FmPost X w w0.heap.size p V ((M.noneC v l.length fun j => M.onB on j && W.askB l ask j).foldl M.addC cs) w' := by
  have hvv := (M.own_iff _ _).1 hv v (by simp)
  have hV := hF.vars
  have hv1 : -20000 ≤ v := by omega
  have hv2 : v ≤ 20000 := by omega
  obtain ⟨q0, q1, q2⟩ := hW.cells
  have hql := hW.lt
  have hbw0 := hW.bel.size
  have HW := Lib.hid hW
  have HF := Lib.hid hF
  have HR := Lib.hid hR
  have HA := Lib.hid hA
  have HV := Lib.hid hv
  have HL := Lib.hid hl
  have HSM := Lib.hid hsm
  have HN := Lib.hid hn
  have hn2 : l.length ≤ 20000 := by omega
  have ha1 : ∀ (w : World) (o : Obj), Below w.heap.size w (w.alloc o) := fun w o => (Below.refl _ _).alloc (Nat.le_refl _) o
  have A1 := Lib.hid ha1
  clear hvv hW hF hR hA hv hl hsm hn ha1
  go_enter Tryz.func103, Tryz.ntmps103
  go_wp2
  go_loopw [7, 8, 9, 15] (fun _ _ _ i wr => ∃ (k : Nat) (fa : Option Addr) (fc : Nat), k ≤ l.length ∧ i = .int .i64 k ∧ C.Fm X wr w0.heap.size p V ((M.noneC v k fun j => M.onB on j && W.askB l ask j).foldl M.addC cs) fa fc ∧ C.Kp X w0.heap.size w wr) (fun _ _ _ i _ => l.length - (intOf i).toNat)
  case atStart => exact ⟨0, fa, fc, Nat.zero_le _, rfl, HF.out, C.Kp.refl _ _ _⟩
  case round =>
    obtain ⟨k, fa2, fc2, hk, rfl, hf, hkp⟩ := hrel
    have HFR := Lib.hid hf
    have HKP := Lib.hid hkp
    have hzr := hkp.size
    have hWr := HW.out.kp hkp
    have hRr := HR.out.below hWr.bel
    obtain ⟨x0, x1, x2⟩ := hWr.cells
    have hqr := hWr.lt
    have hlen := hRr.recs.len
    have hlb := hRr.bools.len
    clear hf hkp hWr
    by_cases hlt : k < l.length
    · obtain ⟨r, hx⟩ : ∃ x, l[k]? = some x := ⟨l[k], by simp [hlt]⟩
      obtain ⟨bb, off, pv, la, pvc, lc, da, dc, ca, cc, fa', fc', rfl, hbl, ⟨t0, t1, t2, t3, t4, t5, t6, t7, t8, t9, t10, t11, t12⟩, hat, _, _, _⟩ := hRr.recs.cellsRc hx
      have hlc : k < on.length := by have := HL.out; omega
      obtain ⟨y, hy⟩ : ∃ y, on[k]? = some y := ⟨on[k], by simp [hlc]⟩
      obtain ⟨b2, off2, rfl, hbl2, hcb⟩ := hRr.bools.addr (by omega)
      have hcy := hcb k y hy
      have hsk := M.noneC_succ v k (fun j => M.onB on j && W.askB l ask j)
      rw [W.askB_at hx, W.onB_at hy] at hsk
      have HSK := Lib.hid hsk
      have HA2 := Lib.hid hat
      clear hx hy hat hcb hRr hsk
      cases y
      · have hs2 : M.noneC v (k + 1) (fun j => M.onB on j && W.askB l ask j) = M.noneC v k (fun j => M.onB on j && W.askB l ask j) := by rw [HSK.out]; simp
        have HS2 := Lib.hid hs2
        clear hs2
        go_wp2
        go_roundw
        case rel => exact ⟨k + 1, fa2, fc2, by omega, by go_num, by rw [HS2.out]; exact HFR.out.below (A1.out _ _), HKP.out.trans (C.Kp.of_below (A1.out _ _))⟩
        case measure => simp [intOf]; omega
      · go_wp2_with fail
        have hb1 : ∀ o, Below wr.heap.size wr (wr.alloc o) := fun o => A1.out _ _
        refine (HA.out _ r pv la pvc lc _ _ _ (HKP.out.trans (C.Kp.of_below (hb1 _))) (HA2.out.below (hb1 _))).mono ?_
        rintro e w2 ⟨rfl, hb⟩
        have HB2 := Lib.hid (fin (hb1 _) hb)
        have hz2 := HB2.out.size
        clear hb hb1
        generalize hs2 : ask r = z
        rw [hs2] at HSK
        clear hs2
        cases z
        · have hs2 : M.noneC v (k + 1) (fun j => M.onB on j && W.askB l ask j) = M.noneC v k (fun j => M.onB on j && W.askB l ask j) := by rw [HSK.out]; simp
          have HS2 := Lib.hid hs2
          clear hs2
          go_wp2
          go_roundw
          case rel => exact ⟨k + 1, fa2, fc2, by omega, by go_num, by rw [HS2.out]; exact HFR.out.below HB2.out, HKP.out.trans (C.Kp.of_below HB2.out)⟩
          case measure => simp [intOf]; omega
        · have hs2 : M.noneC v (k + 1) (fun j => M.onB on j && W.askB l ask j) = M.noneC v k (fun j => M.onB on j && W.askB l ask j) ++ [[-v, -((k : Int) + 1)]] := by rw [HSK.out]; rfl
          have hlen2 := W.foldC_len cs v k (fun j => M.onB on j && W.askB l ask j)
          have hs3 : (M.noneC v (k + 1) (fun j => M.onB on j && W.askB l ask j)).foldl M.addC cs = M.addC ((M.noneC v k (fun j => M.onB on j && W.askB l ask j)).foldl M.addC cs) [-v, -((k : Int) + 1)] := by rw [hs2, List.foldl_append]; rfl
          have hown2 : M.own V [-v, -((k : Int) + 1)] = true := (M.own_iff _ _).2 fun z hz => by
            have h0 := (M.own_iff _ _).1 HV.out v (by simp)
            have := HN.out
            simp at hz
            rcases hz with rfl | rfl <;> omega
          have HS3 := Lib.hid hs3
          have hW2 := (HW.out.kp HKP.out).below HB2.out
          obtain ⟨y0, y1, y2⟩ := hW2.cells
          have hq2 := hW2.lt
          have HAD := Lib.hid (fun (o : Obj) (b : Option Addr) (d : Nat) (hI : C.Ints (w2.alloc o) b [-v, -((k : Int) + 1)]) => (show Calls Tryz.prog 100 #[.pointer (some ⟨p, 0, none⟩), .slice b 2 d] (w2.alloc o) _ from C.add_ok w0.heap.size p V _ fa2 fc2 b d [-v, -((k : Int) + 1)] (w2.alloc o) ((HFR.out.below HB2.out).below (A1.out w2 o)) hI hown2 (by have := HSM.out; omega)))
          clear hs2 hs3 hown2 hlen2 hW2
          go_wp2_with fail
          (with_reducible refine (HAD.out _ _ _ (C.Ints.two w2 (-v) (-((k : Int) + 1)) (by unfold C.I64; omega) (by unfold C.I64; omega) _)).mono ?_)
          rintro e w3 ⟨rfl, fa3, fc3, hf3, hk3⟩
          have HF3 := Lib.hid hf3
          have HK3 := Lib.hid (HKP.out.trans ((C.Kp.of_below (HB2.out.trans ((A1.out w2 _).mono hz2))).trans hk3))
          clear hf3 hk3 HAD
          go_wp2
          go_roundw
          case rel => exact ⟨k + 1, fa3, fc3, by omega, by go_num, by rw [HS3.out]; exact HF3.out, HK3.out⟩
          case measure => simp [intOf]; omega
    · obtain rfl : k = l.length := by omega
      go_wp2
      go_ret
      exact ⟨rfl, fa2, fc2, HFR.out, HKP.out⟩
end Go.Proofs.YtnmcajinaigcjaaGreatDoor
namespace Go.Proofs.YtnmcajinaigcjaaGreatDoor
open Go.RowKit
open Q (It Ver Tm Sp Rc Dm)
open Go.Proofs.YtnmcajinaigcjaaGreatDoor.C
variable {w0 w w' : World} {q p : Nat} {a b : Option Addr} {c e : Nat} {l : List Rc} {on : List Bool} {X : Nat → Prop}

theorem W.dbox_of {D : Nat} {d : Dm} {ra : Option Addr} {rc t : Nat} {m : Nat × Nat} (h : w.heap[D]? = some (.cells #[.int .i64 d.how, .string d.spec.chan, .string d.spec.name, .slice ra d.spec.rows.length rc, .string d.spec.build, .int .i64 d.spec.num] t m)) (hs : SpAt w d.spec ra rc) : DBox w D d ra rc :=
  ⟨(Array.getElem?_eq_some_iff.1 h).1, by rw [cell_of_cells h]; rfl, by rw [cell_of_cells h]; rfl, by rw [cell_of_cells h]; rfl, by rw [cell_of_cells h]; rfl, by rw [cell_of_cells h]; rfl, by rw [cell_of_cells h]; rfl, hs⟩
/-- a block that is no formula's nor a clauses' row stays -/
theorem W.kp_blk {base D t : Nat} {cur : Array Value} {m : Nat × Nat} (hk : C.Kp X base w w') (h : w.heap[D]? = some (.cells cur t m)) (h1 : t ≠ 98) (h2 : t ≠ 97) : w'.heap[D]? = some (.cells cur t m) :=
  (hk.block _ (Array.getElem?_eq_some_iff.1 h).1 (.inr (.inr ⟨cur, t, m, h, h1, h2⟩))).trans h
theorem W.asks_dem (d : Dm) (ra : Option Addr) (rc : Nat) (ad : Addr) (hE : ErrR w0 ad) (hs : SpAt w0 d.spec ra rc) {D : Nat} (hb : Below w0.heap.size w0 w) (h : w.heap[D]? = some (.cells #[.int .i64 d.how, .string d.spec.chan, .string d.spec.name, .slice ra d.spec.rows.length rc, .string d.spec.build, .int .i64 d.spec.num] 55 (0, 0))) :
    W.Asks X w0.heap.size w 107 D (Q.mt d.spec) ∧ W.Asks X w0.heap.size w 108 D (Q.against d.spec) := by
  constructor
  · intro wx r pa la pc lc d1 d2 d3 hk hr
    have hbx := hb.trans (hk.below hb.size)
    exact W.askM_any d r ra pa la rc pc lc d1 d2 d3 ad D wx (W.dbox_of (W.kp_blk hk h (by decide) (by decide)) (hs.below hbx)) hr (hE.below hbx)
  · intro wx r pa la pc lc d1 d2 d3 hk hr
    have hbx := hb.trans (hk.below hb.size)
    exact W.askA_any d r ra pa la rc pc lc d1 d2 d3 ad D wx (W.dbox_of (W.kp_blk hk h (by decide) (by decide)) (hs.below hbx)) hr (hE.below hbx)
set_option maxHeartbeats 4000000 in
set_option maxRecDepth 100000 in
theorem W.dem_any (ad : Addr) (V : Nat) (cs : List (List Int)) (fa : Option Addr) (fc : Nat) (v : Int) (d : Dm) (ra : Option Addr) (rc : Nat) (hR : RIn w0 a b l on) (hl : on.length = l.length) (hE : ErrR w0 ad)
    (hW : W.Wr w0 w q p a b c e l on) (hF : C.Fm X w w0.heap.size p V cs fa fc) (hs : SpAt w0 d.spec ra rc) (hw : I64 d.how) (hv : M.own V [v] = true) (hn : l.length ≤ V) (hsm : cs.length + l.length + 1 ≤ 200000) :
    Calls Tryz.prog 74 #[.pointer (some ⟨q, 0, none⟩), .int .i64 v, .agg #[.int .i64 d.how, .string d.spec.chan, .string d.spec.name, .slice ra d.spec.rows.length rc, .string d.spec.build, .int .i64 d.spec.num]] w fun e w' => e = .returned .nilIface ∧ C.FmPost X w w0.heap.size p V ((M.dmC l on v d).foldl M.addC cs) w' := by
  obtain ⟨hw1, hw2⟩ := hw
  have ha1 : ∀ (w : World) (o : Obj), Below w.heap.size w (w.alloc o) := fun w o => (Below.refl _ _).alloc (Nat.le_refl _) o
  obtain ⟨k1, k2⟩ := W.asks_dem (X := X) (w := w.alloc (Obj.cells #[.int .i64 d.how, .string d.spec.chan, .string d.spec.name, .slice ra d.spec.rows.length rc, .string d.spec.build, .int .i64 d.spec.num] 55)) d ra rc ad hE hs (D := w.heap.size) (hW.below (ha1 _ _)).bel (heap_alloc_new _ _)
  have c1 := W.some_any ad V cs fa fc v d.spec ra rc hR hl hE (hW.below (ha1 w (Obj.cells #[.int .i64 d.how, .string d.spec.chan, .string d.spec.name, .slice ra d.spec.rows.length rc, .string d.spec.build, .int .i64 d.spec.num] 55))) (hF.below (ha1 _ _)) hs hv hn (by omega)
  have c2 := W.noneM_any w.heap.size V (Q.mt d.spec) cs fa fc v hR hl (hW.below (ha1 _ _)) (hF.below (ha1 _ _)) k1 hv hn (by omega)
  have c3 := W.noneA_any w.heap.size V (Q.against d.spec) cs fa fc v hR hl (hW.below (ha1 _ _)) (hF.below (ha1 _ _)) k2 hv hn (by omega)
  have HC1 := Lib.hid c1
  have HC2 := Lib.hid c2
  have HC3 := Lib.hid c3
  have A1 := Lib.hid (fun o => ha1 w o)
  have HD := Lib.hid (show M.dmC l on v d = if d.how = 1 then [M.depC l on v d.spec] else if d.how = 2 then M.noneC v l.length (fun j => M.onB on j && M.mtB l d.spec j) else M.noneC v l.length (fun j => M.onB on j && M.agB l d.spec j) from rfl)
  generalize M.dmC l on v d = dc at HD ⊢
  clear c1 c2 c3 k1 k2 hR hl hE hW hF hs hv hn hsm ha1
  by_cases e1 : d.how = 1
  · have f1 : (d.how == 1) = true := by simp [e1]
    have E1 := Lib.hid e1
    clear e1
    go_enter Tryz.func74, Tryz.ntmps74
    go_wp2_with fail
    (with_reducible refine HC1.out.mono ?_)
    rintro e w2 ⟨rfl, hp⟩
    have HP := Lib.hid (C.FmPost.of_below (A1.out _) hp)
    clear hp
    go_wp2
    go_ret
    refine ⟨rfl, ?_⟩
    rw [HD.out, if_pos E1.out]; exact HP.out
  · have f1 : (d.how == 1) = false := by simp [e1]
    by_cases e2 : d.how = 2
    · have f2 : (d.how == 2) = true := by simp [e2]
      have E1 := Lib.hid e1
      have E2 := Lib.hid e2
      clear e1 e2
      go_enter Tryz.func74, Tryz.ntmps74
      go_wp2_with fail
      (with_reducible refine HC2.out.mono ?_)
      rintro e w2 ⟨rfl, hp⟩
      have HP := Lib.hid (C.FmPost.of_below (A1.out _) hp)
      clear hp
      go_wp2
      go_ret
      refine ⟨rfl, ?_⟩
      rw [HD.out, if_neg E1.out, if_pos E2.out]; exact HP.out
    · have f2 : (d.how == 2) = false := by simp [e2]
      have E1 := Lib.hid e1
      have E2 := Lib.hid e2
      clear e1 e2
      go_enter Tryz.func74, Tryz.ntmps74
      go_wp2_with fail
      (with_reducible refine HC3.out.mono ?_)
      rintro e w2 ⟨rfl, hp⟩
      have HP := Lib.hid (C.FmPost.of_below (A1.out _) hp)
      clear hp
      go_wp2
      go_ret
      refine ⟨rfl, ?_⟩
      rw [HD.out, if_neg E1.out, if_neg E2.out]; exact HP.out
theorem W.asks_rec (r : Rc) (ad : Addr) (hE : ErrR w0 ad) {pv la da ca : Option Addr} {pvc lc dc cc : Nat} {fv : Value} (hs : Sl RSp 5 w0 ca r.cons) {D : Nat} (hb : Below w0.heap.size w0 w)
    (h : w.heap[D]? = some (.cells #[.string r.chan, .string r.file, .string r.name, .string r.text, .int .i64 r.ver.ep, .slice pv r.ver.parts.length pvc, .slice la r.ver.loc.length lc, .string r.build, .int .i64 r.num, .int .i64 r.time, .slice da r.deps.length dc, .slice ca r.cons.length cc, fv] 69 (0, 0))) :
    W.Asks X w0.heap.size w 104 D (fun x => r.cons.any fun s => Q.against s x) := by
  intro wx r2 pa la2 pc lc2 d1 d2 d3 hk hr
  have hbx := hb.trans (hk.below hb.size)
  have h2 := W.kp_blk hk h (by decide) (by decide)
  exact W.askC_any r.cons ca cc r2 pa la2 pc lc2 d1 d2 d3 ad D wx ⟨(Array.getElem?_eq_some_iff.1 h2).1, by rw [cell_of_cells h2]; rfl, hs.below stays_RSp hbx⟩ hr (hE.below hbx)
theorem W.deps_succ {l : List Rc} {on : List Bool} {v : Int} {ds : List Sp} {k : Nat} {s : Sp} (h : ds[k]? = some s) (cs : List (List Int)) : ((ds.take (k + 1)).map (M.depC l on v)).foldl M.addC cs = M.addC (((ds.take k).map (M.depC l on v)).foldl M.addC cs) (M.depC l on v s) := by
  rw [List.take_add_one, h, List.map_append, List.foldl_append]; rfl
theorem W.deps_len (l : List Rc) (on : List Bool) (v : Int) (ds : List Sp) (k : Nat) (cs : List (List Int)) : (((ds.take k).map (M.depC l on v)).foldl M.addC cs).length ≤ cs.length + ds.length := by
  have h1 := M.addCs_length cs ((ds.take k).map (M.depC l on v))
  rw [List.length_map, List.length_take] at h1
  omega
theorem W.rec_eq {l : List Rc} {on : List Bool} {i : Nat} {r : Rc} (hr : l[i]? = some r) (ho : on[i]? = some true) (cs : List (List Int)) :
    (M.noneC ((i : Int) + 1) l.length fun j => M.onB on j && W.askB l (fun x => r.cons.any fun s => Q.against s x) j).foldl M.addC ((r.deps.map (M.depC l on ((i : Int) + 1))).foldl M.addC cs) = (M.recC l on i).foldl M.addC cs := by
  unfold M.recC
  rw [hr]
  simp only
  rw [W.onB_at ho, if_pos rfl, List.foldl_append]
  refine congrArg (fun z => List.foldl M.addC _ z) (M.noneC_congr fun j hj => ?_)
  have hx : l[j]? = some l[j] := List.getElem?_eq_getElem hj
  rw [W.askB_at hx]
  unfold M.cnB
  congr 2
  funext s
  rw [W.agB_at hx]
theorem W.rec_off {l : List Rc} {on : List Bool} {i : Nat} {r : Rc} (hr : l[i]? = some r) (ho : on[i]? = some false) : M.recC l on i = [] := by
  unfold M.recC
  rw [hr]
  simp only
  rw [W.onB_at ho]; rfl
set_option maxHeartbeats 4000000 in
set_option maxRecDepth 100000 in
theorem W.rec_any (ad : Addr) (V : Nat) (cs : List (List Int)) (fa : Option Addr) (fc : Nat) (i : Nat) (hi : i < l.length) (hd : ∀ r, l[i]? = some r → r.deps.length ≤ 100) (hR : RIn w0 a b l on) (hl : on.length = l.length) (hE : ErrR w0 ad)
    (hW : W.Wr w0 w q p a b c e l on) (hF : C.Fm X w w0.heap.size p V cs fa fc) (hn : l.length ≤ V) (hsm : cs.length + l.length + 101 ≤ 200000) :
    Calls Tryz.prog 73 #[.pointer (some ⟨q, 0, none⟩), .int .i64 (i : Int)] w fun e w' => e = .returned .nilIface ∧ C.FmPost X w w0.heap.size p V ((M.recC l on i).foldl M.addC cs) w' := by
  have hV := hF.vars
  obtain ⟨r, hr⟩ : ∃ r, l[i]? = some r := ⟨l[i], by simp [hi]⟩
  have hd2 := hd r hr
  obtain ⟨q0, q1, q2⟩ := hW.cells
  have hql := hW.lt
  have hlen := hR.recs.len
  have hlb := hR.bools.len
  obtain ⟨bb, off, pv, la, pvc, lc, da, dc, ca, cc, fv, fvc, rfl, hbl0, ⟨s0, s1, s2, s3, s4, s5, s6, s7, s8, s9, s10, s11, s12⟩, _, hdeps, hcons, _⟩ := hR.recs.cellsRc hr
  have hbl : bb < w.heap.size := Nat.lt_of_lt_of_le hbl0 hW.bel.size
  have t0 := ((bcell hW.bel).1 bb (off + i * 13) hbl0).trans s0
  have t1 := ((bcell hW.bel).1 bb (off + i * 13 + 1) hbl0).trans s1
  have t2 := ((bcell hW.bel).1 bb (off + i * 13 + 2) hbl0).trans s2
  have t3 := ((bcell hW.bel).1 bb (off + i * 13 + 3) hbl0).trans s3
  have t4 := ((bcell hW.bel).1 bb (off + i * 13 + 4) hbl0).trans s4
  have t5 := ((bcell hW.bel).1 bb (off + i * 13 + 5) hbl0).trans s5
  have t6 := ((bcell hW.bel).1 bb (off + i * 13 + 6) hbl0).trans s6
  have t7 := ((bcell hW.bel).1 bb (off + i * 13 + 7) hbl0).trans s7
  have t8 := ((bcell hW.bel).1 bb (off + i * 13 + 8) hbl0).trans s8
  have t9 := ((bcell hW.bel).1 bb (off + i * 13 + 9) hbl0).trans s9
  have t10 := ((bcell hW.bel).1 bb (off + i * 13 + 10) hbl0).trans s10
  have t11 := ((bcell hW.bel).1 bb (off + i * 13 + 11) hbl0).trans s11
  have t12 := ((bcell hW.bel).1 bb (off + i * 13 + 12) hbl0).trans s12
  have hic : i < on.length := by omega
  obtain ⟨y, hy⟩ : ∃ y, on[i]? = some y := ⟨on[i], by simp [hic]⟩
  obtain ⟨b2, off2, rfl, hbl20, hcb⟩ := hR.bools.addr (by omega)
  have hbl2 : b2 < w.heap.size := Nat.lt_of_lt_of_le hbl20 hW.bel.size
  have hcy := ((bcell hW.bel).1 b2 (off2 + i) hbl20).trans (hcb i y hy)
  have hv : M.own V [(i : Int) + 1] = true := (M.own_iff _ _).2 fun z hz => by simp at hz; subst hz; omega
  have ha1 : ∀ (w : World) (o : Obj), Below w.heap.size w (w.alloc o) := fun w o => (Below.refl _ _).alloc (Nat.le_refl _) o
  have hdl := hdeps.len
  have HHR := Lib.hid hR
  have HHL := Lib.hid hl
  have HHE := Lib.hid hE
  have HHW := Lib.hid hW
  have HHF := Lib.hid hF
  have HHV := Lib.hid hv
  have HR := Lib.hid hr
  have HY := Lib.hid hy
  have HDE := Lib.hid hdeps
  have HCO := Lib.hid hcons
  have HN := Lib.hid hn
  have HSM := Lib.hid hsm
  have A1 := Lib.hid ha1
  have hil : i ≤ 20000 := by omega
  clear hd hR hl hE hW hF hn hsm hr s0 s1 s2 s3 s4 s5 s6 s7 s8 s9 s10 s11 s12 hdeps hcons hy hcb ha1 hv
  cases y
  · go_enter Tryz.func73, Tryz.ntmps73
    go_wp2
    go_ret
    exact ⟨rfl, by rw [W.rec_off HR.out HY.out]; exact ⟨fa, fc, HHF.out, C.Kp.refl _ _ _⟩⟩
  · obtain ⟨W1, hW1⟩ : ∃ x, x = w.alloc (Obj.cells #[.string r.chan, .string r.file, .string r.name, .string r.text, .int .i64 r.ver.ep, .slice pv r.ver.parts.length pvc, .slice la r.ver.loc.length lc, .string r.build, .int .i64 r.num, .int .i64 r.time, .slice da r.deps.length dc, .slice ca r.cons.length cc, .slice fv r.feats.length fvc] 69) := ⟨_, rfl⟩
    have hB1 : Below w.heap.size w W1 := hW1 ▸ A1.out w _
    have hblk : W1.heap[w.heap.size]? = some (.cells #[.string r.chan, .string r.file, .string r.name, .string r.text, .int .i64 r.ver.ep, .slice pv r.ver.parts.length pvc, .slice la r.ver.loc.length lc, .string r.build, .int .i64 r.num, .int .i64 r.time, .slice da r.deps.length dc, .slice ca r.cons.length cc, .slice fv r.feats.length fvc] 69 (0, 0)) := hW1 ▸ heap_alloc_new _ _
    have hst : C.Fm X W1 w0.heap.size p V ((((r.deps.take 0).map (M.depC l on ((i : Int) + 1)))).foldl M.addC cs) fa fc := HHF.out.below hB1
    have HB1 := Lib.hid hB1
    have HBLK := Lib.hid hblk
    have HST := Lib.hid hst
    have HW1 := Lib.hid hW1
    clear hB1 hblk hst hW1
    go_enter Tryz.func73, Tryz.ntmps73
    go_wp2
    go_loopw [7, 8, 27] (fun _ _ j wr => ∃ (k : Nat) (fa : Option Addr) (fc : Nat), k ≤ r.deps.length ∧ j = .int .i64 k ∧ C.Fm X wr w0.heap.size p V (((r.deps.take k).map (M.depC l on ((i : Int) + 1))).foldl M.addC cs) fa fc ∧ C.Kp X w0.heap.size W1 wr) (fun _ _ j _ => r.deps.length - (intOf j).toNat)
    case atStart => exact ⟨0, fa, fc, Nat.zero_le _, rfl, by rw [← HW1.out]; exact HST.out, by rw [← HW1.out]; exact C.Kp.refl _ _ _⟩
    case round =>
      obtain ⟨k, fa2, fc2, hk, rfl, hf, hkp⟩ := hrel
      have HFR := Lib.hid hf
      have HKP := Lib.hid hkp
      have hzr := hkp.size
      have hWr := (HHW.out.below HB1.out).kp hkp
      have HWR := Lib.hid hWr
      have hdl2 := W.deps_len l on ((i : Int) + 1) r.deps k cs
      have hz1 : w0.heap.size ≤ wr.heap.size := hWr.bel.size
      clear hf hkp hWr
      by_cases hlt : k < r.deps.length
      · obtain ⟨s, hx⟩ : ∃ x, r.deps[k]? = some x := ⟨r.deps[k], by simp [hlt]⟩
        obtain ⟨b3, off3, ra, rc, rfl, hbl3, ⟨g0, g1, g2, g3, g4⟩, hs⟩ := HDE.out.cellsSp hx
        have hbl4 : b3 < wr.heap.size := by omega
        have c0 := ((bcell HWR.out.bel).1 b3 (off3 + k * 5) hbl3).trans g0
        have c1 := ((bcell HWR.out.bel).1 b3 (off3 + k * 5 + 1) hbl3).trans g1
        have c2 := ((bcell HWR.out.bel).1 b3 (off3 + k * 5 + 2) hbl3).trans g2
        have c3 := ((bcell HWR.out.bel).1 b3 (off3 + k * 5 + 3) hbl3).trans g3
        have c4 := ((bcell HWR.out.bel).1 b3 (off3 + k * 5 + 4) hbl3).trans g4
        have HCL := Lib.hid (fun (o : Obj) => W.some_any ad V _ fa2 fc2 ((i : Int) + 1) s ra rc HHR.out HHL.out HHE.out (HWR.out.below (A1.out wr o)) (HFR.out.below (A1.out wr o)) hs HHV.out HN.out (by have := HSM.out; omega))
        have HSU := Lib.hid (W.deps_succ (l := l) (on := on) (v := (i : Int) + 1) hx cs)
        clear hx hs g0 g1 g2 g3 g4
        go_wp2_with fail
        (with_reducible refine (HCL.out _).mono ?_)
        rintro e w2 ⟨rfl, fa3, fc3, hf3, hk3⟩
        have HF3 := Lib.hid hf3
        have HK3 := Lib.hid (HKP.out.trans ((C.Kp.of_below (A1.out wr _)).trans hk3))
        clear hf3 hk3 HCL
        go_wp2
        go_roundw
        case rel => exact ⟨k + 1, fa3, fc3, by omega, by go_num, by rw [HSU.out]; exact HF3.out, HK3.out⟩
        case measure => simp [intOf]; omega
      · obtain rfl : k = r.deps.length := by omega
        have hfr := HFR.out
        rw [List.take_length] at hfr hdl2
        have hcl := W.noneC_any w.heap.size V _ _ fa2 fc2 ((i : Int) + 1) HHR.out HHL.out HWR.out hfr (W.asks_rec r ad HHE.out HCO.out HWR.out.bel (W.kp_blk HKP.out HBLK.out (by decide) (by decide))) HHV.out HN.out (by have := HSM.out; omega)
        rw [W.rec_eq HR.out HY.out] at hcl
        have HCL := Lib.hid hcl
        clear hfr hcl
        go_wp2_with fail
        (with_reducible refine HCL.out.mono ?_)
        rintro e w2 ⟨rfl, hp⟩
        have HP := Lib.hid (C.FmPost.kp_trans ((C.Kp.of_below HB1.out).trans HKP.out) hp)
        clear hp
        go_wp2
        go_ret
        exact ⟨rfl, HP.out⟩
end Go.Proofs.YtnmcajinaigcjaaGreatDoor
