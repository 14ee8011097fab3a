/- Contracts of rules.against, rules.Holds. -/
import Derived.Test.YtnmcajinaigcjaaGreatDoorQMatch
import Derived.Test.YtnmcajinaigcjaaGreatDoorQRulesMath
namespace Go.Proofs.YtnmcajinaigcjaaGreatDoor
open Go.RowKit
open Q (It Ver Tm Sp Rc Dm)

set_option maxHeartbeats 1000000 in
set_option maxRecDepth 100000 in
theorem against_any (s : Sp) (r : Rc) (ra pa la : Option Addr) (rc pc lc : Nat) (d1 d2 d3 : Value) (ad : Addr) (w : World) (hs : SpAt w s ra rc) (hr : RcAt w r pa la pc lc) (hE : ErrR w ad) :
    Calls Tryz.prog 106 #[.agg #[.string s.chan, .string s.name, .slice ra s.rows.length rc, .string s.build, .int .i64 s.num], .agg #[.string r.chan, .string r.file, .string r.name, .string r.text, .int .i64 r.ver.ep, .slice pa r.ver.parts.length pc, .slice la r.ver.loc.length lc, .string r.build, .int .i64 r.num, .int .i64 r.time, d1, d2, d3]] w fun e w' => e = .returned (.bool (Q.against s r)) ∧ Below w.heap.size w w' := by
  have h2 : ∀ o o', Below w.heap.size w ((w.alloc o).alloc o') := fun o o' => ((Below.refl _ _).alloc (Nat.le_refl _) o).alloc (by simp) o'
  have H2 := Lib.hid h2
  have HM := Lib.hid (fun W hb => match_any s r ra pa la rc pc lc d1 d2 d3 ad W (hs.below hb) (hr.below hb) (hE.below hb))
  generalize hq : Q.against s r = q
  have HQ := Lib.hid hq
  clear hs hr hE hq h2
  go_enter Tryz.func106, Tryz.ntmps106
  cases hn : (r.name.toList == s.name.toList)
  · go_wp2
    go_ret
    refine ⟨ret_bool ?_, H2.out _ _⟩
    rw [← HQ.out]; unfold Q.against; rw [hn]; rfl
  · go_wp2_with fail
    refine (HM.out _ (H2.out _ _)).mono ?_
    rintro e w2 ⟨rfl, hb⟩
    have HB := Lib.hid (fin (H2.out _ _) hb)
    clear hb
    go_wp2
    go_ret
    refine ⟨ret_bool ?_, HB.out⟩
    rw [← HQ.out]; unfold Q.against; rw [hn]; simp
/-- a demand in its box -/
structure DBox (w : World) (D : Nat) (d : Dm) (ra : Option Addr) (rc : Nat) : Prop where
  lt : D < w.heap.size
  c0 : w.cell? ⟨D, 0, none⟩ = some (.int .i64 d.how)
  c1 : w.cell? ⟨D, 1, none⟩ = some (.string d.spec.chan)
  c2 : w.cell? ⟨D, 2, none⟩ = some (.string d.spec.name)
  c3 : w.cell? ⟨D, 3, none⟩ = some (.slice ra d.spec.rows.length rc)
  c4 : w.cell? ⟨D, 4, none⟩ = some (.string d.spec.build)
  c5 : w.cell? ⟨D, 5, none⟩ = some (.int .i64 d.spec.num)
  spec : SpAt w d.spec ra rc
theorem DBox.below {w w' : World} {D : Nat} {d : Dm} {ra : Option Addr} {rc : Nat} (h : DBox w D d ra rc) (hb : Below w.heap.size w w') : DBox w' D d ra rc :=
  ⟨Nat.lt_of_lt_of_le h.lt hb.size, (hb.cell (p := ⟨D, 0, none⟩) h.lt).trans h.c0, (hb.cell (p := ⟨D, 1, none⟩) h.lt).trans h.c1, (hb.cell (p := ⟨D, 2, none⟩) h.lt).trans h.c2, (hb.cell (p := ⟨D, 3, none⟩) h.lt).trans h.c3, (hb.cell (p := ⟨D, 4, none⟩) h.lt).trans h.c4, (hb.cell (p := ⟨D, 5, none⟩) h.lt).trans h.c5, h.spec.below hb⟩
theorem Sl.cellsRc {w : World} {a : Option Addr} {xs : List Rc} (h : Sl RRc 13 w a xs) {i : Nat} {r : Rc} (hx : xs[i]? = some r) :
    ∃ b off pa la pc lc da dc ca cc fa fc, a = some ⟨b, off, none⟩ ∧ b < w.heap.size ∧ (w.cell? ⟨b, off + i * 13, none⟩ = some (.string r.chan) ∧ w.cell? ⟨b, off + i * 13 + 1, none⟩ = some (.string r.file) ∧ w.cell? ⟨b, off + i * 13 + 2, none⟩ = some (.string r.name) ∧ w.cell? ⟨b, off + i * 13 + 3, none⟩ = some (.string r.text) ∧ w.cell? ⟨b, off + i * 13 + 4, none⟩ = some (.int .i64 r.ver.ep) ∧ w.cell? ⟨b, off + i * 13 + 5, none⟩ = some (.slice pa r.ver.parts.length pc) ∧ w.cell? ⟨b, off + i * 13 + 6, none⟩ = some (.slice la r.ver.loc.length lc) ∧ w.cell? ⟨b, off + i * 13 + 7, none⟩ = some (.string r.build) ∧ w.cell? ⟨b, off + i * 13 + 8, none⟩ = some (.int .i64 r.num) ∧ w.cell? ⟨b, off + i * 13 + 9, none⟩ = some (.int .i64 r.time) ∧ w.cell? ⟨b, off + i * 13 + 10, none⟩ = some (.slice da r.deps.length dc) ∧ w.cell? ⟨b, off + i * 13 + 11, none⟩ = some (.slice ca r.cons.length cc) ∧ w.cell? ⟨b, off + i * 13 + 12, none⟩ = some (.slice fa r.feats.length fc)) ∧ RcAt w r pa la pc lc ∧ Sl RSp 5 w da r.deps ∧ Sl RSp 5 w ca r.cons ∧ Strs w fa r.feats := by
  obtain ⟨b, off, e, hlt, hc⟩ := h.addr (by have := (List.getElem?_eq_some_iff.1 hx).1; omega)
  obtain ⟨us, u1, u2, ve, vp, vl, vd, vc, vf, u3, z1, z2, z3, z4, z5, z6, z7, z8, ⟨da, dc, e1, _, z9⟩, ⟨ca, cc, e2, _, z10⟩, ⟨fa, fc, e3, _, z11⟩⟩ := hc i r hx
  obtain ⟨pa, la, pc, lc, u5, u6⟩ := z8.at
  simp at u5 e1 e2 e3
  obtain ⟨rfl, rfl, rfl⟩ := u5
  subst e1 e2 e3
  rw [u3] at u2
  exact ⟨b, off, pa, la, pc, lc, da, dc, ca, cc, fa, fc, e, hlt, ⟨by simpa using u2 0 (by omega), by simpa using u2 1 (by omega), by simpa using u2 2 (by omega), by simpa using u2 3 (by omega), by simpa using u2 4 (by omega), by simpa using u2 5 (by omega), by simpa using u2 6 (by omega), by simpa using u2 7 (by omega), by simpa using u2 8 (by omega), by simpa using u2 9 (by omega), by simpa using u2 10 (by omega), by simpa using u2 11 (by omega), by simpa using u2 12 (by omega)⟩, ⟨u6, z5⟩, z9, z10, z11⟩
set_option maxHeartbeats 1000000 in
theorem ask2_any (d : Dm) (r : Rc) (ra pa la : Option Addr) (rc pc lc : Nat) (d1 d2 d3 : Value) (ad : Addr) (D : Nat) (w : World) (hd : DBox w D d ra rc) (hr : RcAt w r pa la pc lc) (hE : ErrR w ad) :
    Calls Tryz.prog 136 #[.agg #[.string r.chan, .string r.file, .string r.name, .string r.text, .int .i64 r.ver.ep, .slice pa r.ver.parts.length pc, .slice la r.ver.loc.length lc, .string r.build, .int .i64 r.num, .int .i64 r.time, d1, d2, d3], .pointer (some ⟨D, 0, none⟩)] w fun e w' => e = .returned (.bool (Q.mt d.spec r)) ∧ Below w.heap.size w w' := by
  have h1 : ∀ o, Below w.heap.size w (w.alloc o) := fun o => (Below.refl _ _).alloc (Nat.le_refl _) o
  have H1 := Lib.hid h1
  have HM := Lib.hid (fun W hb => match_any d.spec r ra pa la rc pc lc d1 d2 d3 ad W (hd.spec.below hb) (hr.below hb) (hE.below hb))
  obtain ⟨hl, c0, c1, c2, c3, c4, c5, _⟩ := hd
  clear hr hE h1
  go_enter Tryz.func136, Tryz.ntmps136
  go_wp2_with fail
  refine (HM.out _ (H1.out _)).mono ?_
  rintro e w2 ⟨rfl, hb⟩
  have HB := Lib.hid (fin (H1.out _) hb)
  clear hb
  go_wp2
  go_ret
  exact ⟨rfl, HB.out⟩
set_option maxHeartbeats 1000000 in
theorem ask3_any (d : Dm) (r : Rc) (ra pa la : Option Addr) (rc pc lc : Nat) (d1 d2 d3 : Value) (ad : Addr) (D : Nat) (w : World) (hd : DBox w D d ra rc) (hr : RcAt w r pa la pc lc) (hE : ErrR w ad) :
    Calls Tryz.prog 137 #[.agg #[.string r.chan, .string r.file, .string r.name, .string r.text, .int .i64 r.ver.ep, .slice pa r.ver.parts.length pc, .slice la r.ver.loc.length lc, .string r.build, .int .i64 r.num, .int .i64 r.time, d1, d2, d3], .pointer (some ⟨D, 0, none⟩)] w fun e w' => e = .returned (.bool (Q.mt d.spec r)) ∧ Below w.heap.size w w' := by
  have h1 : ∀ o, Below w.heap.size w (w.alloc o) := fun o => (Below.refl _ _).alloc (Nat.le_refl _) o
  have H1 := Lib.hid h1
  have HM := Lib.hid (fun W hb => match_any d.spec r ra pa la rc pc lc d1 d2 d3 ad W (hd.spec.below hb) (hr.below hb) (hE.below hb))
  obtain ⟨hl, c0, c1, c2, c3, c4, c5, _⟩ := hd
  clear hr hE h1
  go_enter Tryz.func137, Tryz.ntmps137
  go_wp2_with fail
  refine (HM.out _ (H1.out _)).mono ?_
  rintro e w2 ⟨rfl, hb⟩
  have HB := Lib.hid (fin (H1.out _) hb)
  clear hb
  go_wp2
  go_ret
  exact ⟨rfl, HB.out⟩
set_option maxHeartbeats 1000000 in
theorem ask4_any (d : Dm) (r : Rc) (ra pa la : Option Addr) (rc pc lc : Nat) (d1 d2 d3 : Value) (ad : Addr) (D : Nat) (w : World) (hd : DBox w D d ra rc) (hr : RcAt w r pa la pc lc) (hE : ErrR w ad) :
    Calls Tryz.prog 138 #[.agg #[.string r.chan, .string r.file, .string r.name, .string r.text, .int .i64 r.ver.ep, .slice pa r.ver.parts.length pc, .slice la r.ver.loc.length lc, .string r.build, .int .i64 r.num, .int .i64 r.time, d1, d2, d3], .pointer (some ⟨D, 0, none⟩)] w fun e w' => e = .returned (.bool (Q.against d.spec r)) ∧ Below w.heap.size w w' := by
  have h1 : ∀ o, Below w.heap.size w (w.alloc o) := fun o => (Below.refl _ _).alloc (Nat.le_refl _) o
  have H1 := Lib.hid h1
  have HM := Lib.hid (fun W hb => against_any d.spec r ra pa la rc pc lc d1 d2 d3 ad W (hd.spec.below hb) (hr.below hb) (hE.below hb))
  obtain ⟨hl, c0, c1, c2, c3, c4, c5, _⟩ := hd
  clear hr hE h1
  go_enter Tryz.func138, Tryz.ntmps138
  go_wp2_with fail
  refine (HM.out _ (H1.out _)).mono ?_
  rintro e w2 ⟨rfl, hb⟩
  have HB := Lib.hid (fin (H1.out _) hb)
  clear hb
  go_wp2
  go_ret
  exact ⟨rfl, HB.out⟩
/-- the boxes of records and of what is chosen -/
structure RBox (w : World) (R C : Nat) (a b : Option Addr) (c e : Nat) (l : List Rc) (ch : List Bool) : Prop where
  rlt : R < w.heap.size
  clt : C < w.heap.size
  r0 : w.cell? ⟨R, 0, none⟩ = some (.slice a l.length c)
  c0 : w.cell? ⟨C, 0, none⟩ = some (.slice b ch.length e)
  recs : Sl RRc 13 w a l
  bools : Bools w b ch
  len : ch.length = l.length
theorem RBox.below {w w' : World} {R C : Nat} {a b : Option Addr} {c e : Nat} {l : List Rc} {ch : List Bool} (h : RBox w R C a b c e l ch) (hb : Below w.heap.size w w') : RBox w' R C a b c e l ch :=
  ⟨Nat.lt_of_lt_of_le h.rlt hb.size, Nat.lt_of_lt_of_le h.clt hb.size, (hb.cell (p := ⟨R, 0, none⟩) h.rlt).trans h.r0, (hb.cell (p := ⟨C, 0, none⟩) h.clt).trans h.c0, h.recs.below stays_RRc hb, h.bools.below hb, h.len⟩
set_option maxHeartbeats 2000000 in
set_option maxRecDepth 100000 in
theorem some2_any (d : Dm) (ra : Option Addr) (rc : Nat) (ad : Addr) (D R C : Nat) (a b : Option Addr) (c e : Nat) (l : List Rc) (ch : List Bool) (w : World) (hd : DBox w D d ra rc) (hR : RBox w R C a b c e l ch) (hE : ErrR w ad) :
    Calls Tryz.prog 135 #[.func (.func 136) #[] #[.pointer (some ⟨D, 0, none⟩)], .pointer (some ⟨R, 0, none⟩), .pointer (some ⟨C, 0, none⟩)] w fun e w' => e = .returned (.bool (Q.some_ (Q.mt d.spec) l ch)) ∧ Below w.heap.size w w' := by
  have hlen := hR.recs.len
  have hr0 := hR.r0
  have HD := Lib.hid hd
  have HR := Lib.hid hR
  have HE := Lib.hid hE
  generalize hq : Q.some_ (Q.mt d.spec) l ch = q
  have HQ := Lib.hid hq
  clear hd hR hE hq
  go_enter Tryz.func135, Tryz.ntmps135
  go_wp2
  go_loopw [5, 6, 9] (fun _ _ i wr => ∃ k : Nat, k ≤ l.length ∧ i = .int .i64 k ∧ Q.some_ (Q.mt d.spec) (l.take k) (ch.take k) = false ∧ Below w.heap.size w wr) (fun _ _ i _ => l.length - (intOf i).toNat)
  case atStart => exact ⟨0, Nat.zero_le _, rfl, rfl, Below.refl _ _⟩
  case round =>
    obtain ⟨k, hk, rfl, hf, hbr⟩ := hrel
    have HF := Lib.hid hf
    have HB := Lib.hid hbr
    have hRr := HR.out.below hbr
    have hcc := hRr.c0
    have hcl := hRr.clt
    clear hf hbr
    by_cases hlt : k < l.length
    · obtain ⟨r, hx⟩ : ∃ x, l[k]? = some x := ⟨l[k], by simp [hlt]⟩
      obtain ⟨bb, off, pa, la, pc, lc, da, dc, ca, cc, fa, fc, rfl, hbl, ⟨t0, t1, t2, t3, t4, t5, t6, t7, t8, t9, t10, t11, t12⟩, hat, _, _, _⟩ := hRr.recs.cellsRc hx
      have hlc : k < ch.length := by have := hRr.len; omega
      obtain ⟨y, hy⟩ : ∃ y, ch[k]? = some y := ⟨ch[k], by simp [hlc]⟩
      obtain ⟨b2, off2, rfl, hbl2, hcb⟩ := hRr.bools.addr (by omega)
      have hcy := hcb k y hy
      have hml := hRr.bools.len
      have HX := Lib.hid hx
      have HY := Lib.hid hy
      have HA := Lib.hid hat
      clear hx hy hat hcb hRr
      cases y
      · go_wp2
        go_roundw
        case rel => exact ⟨k + 1, by omega, by go_num, Q.some_snoc HX.out HY.out HF.out rfl, HB.out.alloc HB.out.size _⟩
        case measure => simp [intOf]; omega
      · go_wp2_with fail
        have hb1 : ∀ o, Below wr.heap.size wr (wr.alloc o) := fun o => (Below.refl _ _).alloc (Nat.le_refl _) o
        refine (ask2_any d r ra pa la rc pc lc _ _ _ ad D _ ((HD.out.below HB.out).below (hb1 _)) (HA.out.below (hb1 _)) ((HE.out.below HB.out).below (hb1 _))).mono ?_
        rintro e w2 ⟨rfl, hb⟩
        have HB2 := Lib.hid (fin (fin HB.out (hb1 _)) hb)
        clear hb hb1
        generalize hs : Q.mt d.spec r = s
        have HS := Lib.hid hs
        clear hs
        cases s
        · go_wp2
          go_roundw
          case rel => exact ⟨k + 1, by omega, by go_num, Q.some_snoc HX.out HY.out HF.out (by rw [HS.out]; rfl), HB2.out⟩
          case measure => simp [intOf]; omega
        · go_wp2
          go_ret
          exact ⟨ret_bool (by rw [← HQ.out, Q.some_hit HX.out HY.out HS.out]), HB2.out⟩
    · go_wp2
      go_ret
      refine ⟨ret_bool ?_, HB.out⟩
      have h1 := HF.out
      have h2 := HR.out.len
      rw [List.take_of_length_le (by omega), List.take_of_length_le (by omega)] at h1
      rw [← HQ.out, h1]
set_option maxHeartbeats 2000000 in
set_option maxRecDepth 100000 in
theorem some3_any (d : Dm) (ra : Option Addr) (rc : Nat) (ad : Addr) (D R C : Nat) (a b : Option Addr) (c e : Nat) (l : List Rc) (ch : List Bool) (w : World) (hd : DBox w D d ra rc) (hR : RBox w R C a b c e l ch) (hE : ErrR w ad) :
    Calls Tryz.prog 135 #[.func (.func 137) #[] #[.pointer (some ⟨D, 0, none⟩)], .pointer (some ⟨R, 0, none⟩), .pointer (some ⟨C, 0, none⟩)] w fun e w' => e = .returned (.bool (Q.some_ (Q.mt d.spec) l ch)) ∧ Below w.heap.size w w' := by
  have hlen := hR.recs.len
  have hr0 := hR.r0
  have HD := Lib.hid hd
  have HR := Lib.hid hR
  have HE := Lib.hid hE
  generalize hq : Q.some_ (Q.mt d.spec) l ch = q
  have HQ := Lib.hid hq
  clear hd hR hE hq
  go_enter Tryz.func135, Tryz.ntmps135
  go_wp2
  go_loopw [5, 6, 9] (fun _ _ i wr => ∃ k : Nat, k ≤ l.length ∧ i = .int .i64 k ∧ Q.some_ (Q.mt d.spec) (l.take k) (ch.take k) = false ∧ Below w.heap.size w wr) (fun _ _ i _ => l.length - (intOf i).toNat)
  case atStart => exact ⟨0, Nat.zero_le _, rfl, rfl, Below.refl _ _⟩
  case round =>
    obtain ⟨k, hk, rfl, hf, hbr⟩ := hrel
    have HF := Lib.hid hf
    have HB := Lib.hid hbr
    have hRr := HR.out.below hbr
    have hcc := hRr.c0
    have hcl := hRr.clt
    clear hf hbr
    by_cases hlt : k < l.length
    · obtain ⟨r, hx⟩ : ∃ x, l[k]? = some x := ⟨l[k], by simp [hlt]⟩
      obtain ⟨bb, off, pa, la, pc, lc, da, dc, ca, cc, fa, fc, rfl, hbl, ⟨t0, t1, t2, t3, t4, t5, t6, t7, t8, t9, t10, t11, t12⟩, hat, _, _, _⟩ := hRr.recs.cellsRc hx
      have hlc : k < ch.length := by have := hRr.len; omega
      obtain ⟨y, hy⟩ : ∃ y, ch[k]? = some y := ⟨ch[k], by simp [hlc]⟩
      obtain ⟨b2, off2, rfl, hbl2, hcb⟩ := hRr.bools.addr (by omega)
      have hcy := hcb k y hy
      have hml := hRr.bools.len
      have HX := Lib.hid hx
      have HY := Lib.hid hy
      have HA := Lib.hid hat
      clear hx hy hat hcb hRr
      cases y
      · go_wp2
        go_roundw
        case rel => exact ⟨k + 1, by omega, by go_num, Q.some_snoc HX.out HY.out HF.out rfl, HB.out.alloc HB.out.size _⟩
        case measure => simp [intOf]; omega
      · go_wp2_with fail
        have hb1 : ∀ o, Below wr.heap.size wr (wr.alloc o) := fun o => (Below.refl _ _).alloc (Nat.le_refl _) o
        refine (ask3_any d r ra pa la rc pc lc _ _ _ ad D _ ((HD.out.below HB.out).below (hb1 _)) (HA.out.below (hb1 _)) ((HE.out.below HB.out).below (hb1 _))).mono ?_
        rintro e w2 ⟨rfl, hb⟩
        have HB2 := Lib.hid (fin (fin HB.out (hb1 _)) hb)
        clear hb hb1
        generalize hs : Q.mt d.spec r = s
        have HS := Lib.hid hs
        clear hs
        cases s
        · go_wp2
          go_roundw
          case rel => exact ⟨k + 1, by omega, by go_num, Q.some_snoc HX.out HY.out HF.out (by rw [HS.out]; rfl), HB2.out⟩
          case measure => simp [intOf]; omega
        · go_wp2
          go_ret
          exact ⟨ret_bool (by rw [← HQ.out, Q.some_hit HX.out HY.out HS.out]), HB2.out⟩
    · go_wp2
      go_ret
      refine ⟨ret_bool ?_, HB.out⟩
      have h1 := HF.out
      have h2 := HR.out.len
      rw [List.take_of_length_le (by omega), List.take_of_length_le (by omega)] at h1
      rw [← HQ.out, h1]
set_option maxHeartbeats 2000000 in
set_option maxRecDepth 100000 in
theorem some4_any (d : Dm) (ra : Option Addr) (rc : Nat) (ad : Addr) (D R C : Nat) (a b : Option Addr) (c e : Nat) (l : List Rc) (ch : List Bool) (w : World) (hd : DBox w D d ra rc) (hR : RBox w R C a b c e l ch) (hE : ErrR w ad) :
    Calls Tryz.prog 135 #[.func (.func 138) #[] #[.pointer (some ⟨D, 0, none⟩)], .pointer (some ⟨R, 0, none⟩), .pointer (some ⟨C, 0, none⟩)] w fun e w' => e = .returned (.bool (Q.some_ (Q.against d.spec) l ch)) ∧ Below w.heap.size w w' := by
  have hlen := hR.recs.len
  have hr0 := hR.r0
  have HD := Lib.hid hd
  have HR := Lib.hid hR
  have HE := Lib.hid hE
  generalize hq : Q.some_ (Q.against d.spec) l ch = q
  have HQ := Lib.hid hq
  clear hd hR hE hq
  go_enter Tryz.func135, Tryz.ntmps135
  go_wp2
  go_loopw [5, 6, 9] (fun _ _ i wr => ∃ k : Nat, k ≤ l.length ∧ i = .int .i64 k ∧ Q.some_ (Q.against d.spec) (l.take k) (ch.take k) = false ∧ Below w.heap.size w wr) (fun _ _ i _ => l.length - (intOf i).toNat)
  case atStart => exact ⟨0, Nat.zero_le _, rfl, rfl, Below.refl _ _⟩
  case round =>
    obtain ⟨k, hk, rfl, hf, hbr⟩ := hrel
    have HF := Lib.hid hf
    have HB := Lib.hid hbr
    have hRr := HR.out.below hbr
    have hcc := hRr.c0
    have hcl := hRr.clt
    clear hf hbr
    by_cases hlt : k < l.length
    · obtain ⟨r, hx⟩ : ∃ x, l[k]? = some x := ⟨l[k], by simp [hlt]⟩
      obtain ⟨bb, off, pa, la, pc, lc, da, dc, ca, cc, fa, fc, rfl, hbl, ⟨t0, t1, t2, t3, t4, t5, t6, t7, t8, t9, t10, t11, t12⟩, hat, _, _, _⟩ := hRr.recs.cellsRc hx
      have hlc : k < ch.length := by have := hRr.len; omega
      obtain ⟨y, hy⟩ : ∃ y, ch[k]? = some y := ⟨ch[k], by simp [hlc]⟩
      obtain ⟨b2, off2, rfl, hbl2, hcb⟩ := hRr.bools.addr (by omega)
      have hcy := hcb k y hy
      have hml := hRr.bools.len
      have HX := Lib.hid hx
      have HY := Lib.hid hy
      have HA := Lib.hid hat
      clear hx hy hat hcb hRr
      cases y
      · go_wp2
        go_roundw
        case rel => exact ⟨k + 1, by omega, by go_num, Q.some_snoc HX.out HY.out HF.out rfl, HB.out.alloc HB.out.size _⟩
        case measure => simp [intOf]; omega
      · go_wp2_with fail
        have hb1 : ∀ o, Below wr.heap.size wr (wr.alloc o) := fun o => (Below.refl _ _).alloc (Nat.le_refl _) o
        refine (ask4_any d r ra pa la rc pc lc _ _ _ ad D _ ((HD.out.below HB.out).below (hb1 _)) (HA.out.below (hb1 _)) ((HE.out.below HB.out).below (hb1 _))).mono ?_
        rintro e w2 ⟨rfl, hb⟩
        have HB2 := Lib.hid (fin (fin HB.out (hb1 _)) hb)
        clear hb hb1
        generalize hs : Q.against d.spec r = s
        have HS := Lib.hid hs
        clear hs
        cases s
        · go_wp2
          go_roundw
          case rel => exact ⟨k + 1, by omega, by go_num, Q.some_snoc HX.out HY.out HF.out (by rw [HS.out]; rfl), HB2.out⟩
          case measure => simp [intOf]; omega
        · go_wp2
          go_ret
          exact ⟨ret_bool (by rw [← HQ.out, Q.some_hit HX.out HY.out HS.out]), HB2.out⟩
    · go_wp2
      go_ret
      refine ⟨ret_bool ?_, HB.out⟩
      have h1 := HF.out
      have h2 := HR.out.len
      rw [List.take_of_length_le (by omega), List.take_of_length_le (by omega)] at h1
      rw [← HQ.out, h1]
end Go.Proofs.YtnmcajinaigcjaaGreatDoor
