/- One text of XORefN, XORefC: a claim has at most 60 files. -/
import Derived.Test.YtnmcajinaigcjaaGreatDoorOC
import Derived.Test.YtnmcajinaigcjaaGreatDoorDDoc
import Derived.BigRegion
import Derived.BigQuiet
namespace Go.Proofs.YtnmcajinaigcjaaGreatDoor
open Go.RowKit
open Q (It Ver Tm Sp Rc Dm)

theorem any_take {α : Type} {p : α → Bool} {xs : List α} {k : Nat} {x : α} (hx : xs[k]? = some x) : (xs.take (k + 1)).any p = ((xs.take k).any p || p x) := by
  rw [List.take_add_one, hx]; simp
set_option maxHeartbeats 4000000 in
set_option maxRecDepth 100000 in
theorem rneeds_any (a b : Option Addr) (c e : Nat) (l : List Rc) (ch : List Bool) (i : Nat) (w : World) (hR : RIn w a b l ch) (hl : ch.length = l.length) (hi : i < l.length) (hm : l.length ≤ 1000000) :
    Calls Tryz.prog 13 #[.slice a l.length c, .slice b ch.length e, .int .i64 (i : Int)] w (NewRow w (O.needs l ch i)) := by
  have HR := Lib.hid hR
  have HL := Lib.hid hl
  have hl3 := hR.bools.len
  have n8 : i < ch.length := by omega
  obtain ⟨b2, o2, rfl, hbl2, hcb⟩ := hR.bools.addr (by omega)
  obtain ⟨x0, hon⟩ : ∃ x, ch[i]? = some x := ⟨ch[i], by simp [n8]⟩
  have hcy := hcb i x0 hon
  have HON := Lib.hid hon
  have HCB := Lib.hid hcb
  obtain ⟨ri, hri⟩ : ∃ x, l[i]? = some x := ⟨l[i], by simp [hi]⟩
  have HRI := Lib.hid hri
  have h0 : OwnN (w.alloc (Obj.cells #[] 3)) w.heap.size (some ⟨w.heap.size, 0, none⟩) 0 [] :=
    ⟨by simp [enN], .inr ⟨w.heap.size, 0, #[], rfl, Nat.le_refl _, heap_new1 _ _, Nat.le_refl _, by unfold maxLen; omega, by simp, by simp [enN]⟩⟩
  have H0 := Lib.hid h0
  clear hR hl hon hri hcb h0
  cases x0
  case false =>
    have HOF := Lib.hid (O.needs_off (l := l) (O.chB_get HON.out))
    go_enter Tryz.func13, Tryz.ntmps13
    go_wp2
    go_ret
    refine ⟨some ⟨w.heap.size, 0, none⟩, 0, by rw [HOF.out]; rfl, ?_, b1 _ _⟩
    rw [HOF.out]
    exact OwnN.iv H0.out (Nat.le_refl _) (by simp)
  case true =>
    go_enter Tryz.func13, Tryz.ntmps13
    go_wp2
    go_loopw [7, 22] (fun s j wr => ∃ (k : Nat) (pa : Option Addr) (pc : Nat), k ≤ l.length ∧ j = .int .i64 k ∧ s = .slice pa (O.needsTo l ch i k).length pc ∧ OwnN wr w.heap.size pa pc (O.needsTo l ch i k) ∧ Below w.heap.size w wr) (fun _ j _ => l.length - (intOf j).toNat)
    case atStart => exact ⟨0, _, _, Nat.zero_le _, rfl, rfl, H0.out, b1 _ _⟩
    case round =>
      obtain ⟨k, pa0, pc0, hk, rfl, rfl, hown, hbr⟩ := hrel
      have HO := Lib.hid hown
      have HB := Lib.hid hbr
      have hz2 : w.heap.size ≤ wr.heap.size := hbr.size
      have hnl := O.needsTo_length l ch i k
      clear hown hbr
      by_cases hlt : k < l.length
      · have hltc : k < ch.length := by have := HL.out; omega
        obtain ⟨r, hx⟩ : ∃ x, l[k]? = some x := ⟨l[k], by simp [hlt]⟩
        obtain ⟨y, hy⟩ : ∃ x, ch[k]? = some x := ⟨ch[k], by simp [hltc]⟩
        obtain ⟨bb, off, pa, la, pc, lc, da, dc, ca, cc, fa, fc, e1, hbl, ⟨t0, t1, t2, t3, t4, t5, t6, t7, t8, t9, t10, t11, t12⟩, hat, _⟩ := (HR.out.recs.below stays_RRc HB.out).cellsRc hx
        obtain ⟨bb', off', pa2, la2, pc2, lc2, da2, dc2, ca2, cc2, fa2, fc2, e9, hbl9, ⟨_, _, _, _, _, _, _, _, _, _, u10, _⟩, _, hdep, _⟩ := (HR.out.recs.below stays_RRc HB.out).cellsRc HRI.out
        subst e1
        cases e9
        have hcy2 := (HB.out.cell (p := ⟨b2, o2 + k, none⟩) hbl2).trans (HCB.out k y hy)
        have hbl3 : b2 < wr.heap.size := by omega
        have HND := Lib.hid (O.ndB_at HRI.out hx HON.out hy)
        have HAT := Lib.hid hat
        have HDE := Lib.hid hdep
        have HBX := Lib.hid (RcBox.made wr r pa la pc lc (.slice da r.deps.length dc) (.slice ca r.cons.length cc) (.slice fa r.feats.length fc) 69)
        clear hx hy hat hdep
        have hBo := Lib.hid (b1 wr (Obj.cells #[.string r.chan, .string r.file, .string r.name, .string r.text, .int .i64 r.ver.ep, .slice pa r.ver.parts.length pc, .slice la r.ver.loc.length lc, .string r.build, .int .i64 r.num, .int .i64 r.time, .slice da r.deps.length dc, .slice ca r.cons.length cc, .slice fa r.feats.length fc] 69))
        have hdl := HDE.out.len
        go_wp2
        generalize wr.alloc (Obj.cells #[.string r.chan, .string r.file, .string r.name, .string r.text, .int .i64 r.ver.ep, .slice pa r.ver.parts.length pc, .slice la r.ver.loc.length lc, .string r.build, .int .i64 r.num, .int .i64 r.time, .slice da r.deps.length dc, .slice ca r.cons.length cc, .slice fa r.feats.length fc] 69) = W0 at HBX hBo ⊢
        have HBo := hBo
        have hz0 := HBo.out.size
        go_loopw [10, 33] (fun v j wr => ∃ m : Nat, m ≤ ri.deps.length ∧ j = .int .i64 m ∧ v = .bool ((ri.deps.take m).any fun s => Q.mt s r) ∧ Below W0.heap.size W0 wr) (fun _ j _ => ri.deps.length - (intOf j).toNat)
        case atStart => exact ⟨0, Nat.zero_le _, rfl, rfl, Below.refl _ _⟩
        case round =>
          obtain ⟨m, hm2, rfl, rfl, hbr⟩ := hrel
          rename World => w6
          have HB6 := Lib.hid hbr
          have HBW := Lib.hid (fin HBo.out hbr)
          clear hbr
          by_cases hlm : m < ri.deps.length
          · obtain ⟨s, hs⟩ : ∃ s, ri.deps[m]? = some s := ⟨ri.deps[m], by simp [hlm]⟩
            obtain ⟨sb, so, ra, rc, rfl, hsl, ⟨c0, c1, c2, c3, c4⟩, hvx⟩ := (HDE.out.below stays_RSp HBW.out).cellsSp hs
            have hbx := HBX.out.below HB6.out
            obtain ⟨q0, q1, q2, q3, q4, q5, q6, q7, q8, q9, q10, q11, q12⟩ := hbx.all
            have hbl6 := hbx.lt
            have HNX := Lib.hid (any_take (p := fun s => Q.mt s r) hs)
            have HVX := Lib.hid hvx
            have HMT := Lib.hid (fun o => dmatch_any s r ra pa la rc pc lc (.slice da r.deps.length dc) (.slice ca r.cons.length cc) (.slice fa r.feats.length fc) (w6.alloc o) (HVX.out.below (b1 _ _)) ((HAT.out.below HBW.out).below (b1 _ _)))
            clear hs hvx hbx
            generalize (ri.deps.take m).any (fun s => Q.mt s r) = v at HNX ⊢
            cases v
            · go_wp2_with fail
              (with_reducible refine (HMT.out _).mono ?_)
              rintro e1 w7 ⟨rfl, hb7⟩
              have HB7 := Lib.hid (HB6.out.trans ((fin (b1 w6 _) hb7).mono HB6.out.size))
              clear hb7
              go_wp2
              go_roundw
              case rel => exact ⟨m + 1, by omega, by go_num, by rw [HNX.out]; simp, HB7.out⟩
              case measure => simp [intOf]; omega
            · go_wp2
              go_roundw
              case rel => exact ⟨m + 1, by omega, by go_num, by rw [HNX.out]; rfl, HB6.out.alloc HB6.out.size _⟩
              case measure => simp [intOf]; omega
          · obtain rfl : m = ri.deps.length := by omega
            have hall : ((ri.deps.take ri.deps.length).any fun s => Q.mt s r) = ri.deps.any fun s => Q.mt s r := by rw [List.take_length]
            rw [hall]
            clear hall
            have hcy6 := (HBW.out.cell (p := ⟨b2, o2 + k, none⟩) hbl3).trans hcy2
            have hbl6 : b2 < w6.heap.size := Nat.lt_of_lt_of_le hbl3 HBW.out.size
            have hz6 : w.heap.size ≤ w6.heap.size := Nat.le_trans hz2 HBW.out.size
            have HO6 := Lib.hid (HO.out.below HBW.out)
            have HB06 := Lib.hid (fin HB.out HBW.out)
            generalize hq : (ri.deps.any fun s => Q.mt s r) = q at HND
            clear hq
            cases q
            · have HBK := Lib.hid (O.needsTo_skip (l := l) (ch := ch) (i := i) (k := k) (by rw [HND.out]; simp))
              go_wp2
              go_roundw
              case rel => exact ⟨k + 1, pa0, pc0, by omega, by go_num, by rw [HBK.out], by rw [HBK.out]; exact HO6.out, HB06.out⟩
              case measure => simp [intOf]; omega
            · cases y
              · have HBK := Lib.hid (O.needsTo_skip (l := l) (ch := ch) (i := i) (k := k) (by rw [HND.out]; simp))
                go_wp2
                go_roundw
                case rel => exact ⟨k + 1, pa0, pc0, by omega, by go_num, by rw [HBK.out], by rw [HBK.out]; exact HO6.out, HB06.out⟩
                case measure => simp [intOf]; omega
              · by_cases hki2 : k = i
                · have hkf : (k != i) = false := by simp [hki2]
                  have hkz : ((k : Int) != (i : Int)) = false := by simp [hki2]
                  have HBK := Lib.hid (O.needsTo_skip (l := l) (ch := ch) (i := i) (k := k) (by rw [HND.out, hkf]; simp))
                  clear hki2
                  go_wp2
                  go_roundw
                  case rel => exact ⟨k + 1, pa0, pc0, by omega, by go_num, by rw [HBK.out], by rw [HBK.out]; exact HO6.out, HB06.out⟩
                  case measure => simp [intOf]; omega
                · have hkf : (k != i) = true := by simp [hki2]
                  have hkz : ((k : Int) != (i : Int)) = true := by rw [bne_iff_ne]; omega
                  have HBK := Lib.hid (O.needsTo_put (l := l) (ch := ch) (i := i) (k := k) (by rw [HND.out, hkf]; simp))
                  go_wp2_with (at_builtin; refine wpList_append_flat Tryz.infoInt rfl (by decide) rfl (.tmp 56) (.tmp 58) 31 rfl Tryz.underlying31 w.heap.size _ _ _ _ rfl (HO6.out.below (b1 _ _)) _ _ _ [.int .i64 k] rfl rfl (oneNV (by simp) (.int .i64 k) rfl _) (RV.ones _) (fun e => by cases e) (by omega) (by omega) (by simp; omega) ?_; intro a1 c1 w1 cells1 hown1 hF1 hg1 hB1; have HB1 := Lib.hid hB1; have HO1 := Lib.hid hown1; have HF1 := Lib.hid hF1.rv; clear hg1 hown1 hB1 hF1)
                  go_roundw
                  case rel =>
                    refine ⟨k + 1, a1, c1, by omega, by go_num, by rw [HBK.out]; simp, ?_, (HB06.out.alloc HB06.out.size _).trans HB1.out⟩
                    have := HO1.out
                    rw [HF1.out] at this
                    rw [HBK.out]
                    show Own _ _ _ _ _ _ _ (enN _)
                    rw [enN_append]; simpa [enN] using this
                  case measure => simp [intOf]; omega
      · obtain rfl : k = l.length := by omega
        go_wp2
        go_ret
        exact ⟨pa0, pc0, rfl, HO.out.iv (Nat.le_refl _) (by omega), HB.out⟩
set_option maxHeartbeats 1000000 in
theorem rless_any (a : Option Addr) (c : Nat) (l : List Rc) (i j : Nat) (w : World) (hR : Sl RRc 13 w a l) (hi : i < l.length) (hj : j < l.length) :
    Calls Tryz.prog 36 #[.slice a l.length c, .int .i64 (i : Int), .int .i64 (j : Int)] w fun e w' => e = .returned (.bool (O.lt l i j)) ∧ Below w.heap.size w w' := by
  obtain ⟨r, hr⟩ : ∃ x, l[i]? = some x := ⟨l[i], by simp [hi]⟩
  obtain ⟨q, hq⟩ : ∃ x, l[j]? = some x := ⟨l[j], by simp [hj]⟩
  obtain ⟨bb, off, pa, la, pc, lc, da, dc, ca, cc, fa, fc, e1, hbl, ⟨_, _, t2, _⟩, _⟩ := hR.cellsRc hr
  obtain ⟨bb', off', pa2, la2, pc2, lc2, da2, dc2, ca2, cc2, fa2, fc2, e9, _, ⟨_, _, u2, _⟩, _⟩ := hR.cellsRc hq
  subst e1
  cases e9
  have hlt := O.lt_iff (l := l) (i := i) (j := j)
  rw [O.nm_at hr, O.nm_at hq] at hlt
  obtain ⟨v, hv⟩ : ∃ v, v = O.lt l i j := ⟨_, rfl⟩
  rw [← hv] at hlt ⊢
  have HLT := Lib.hid hlt
  clear hlt hr hq hR hv
  cases h1 : Op.bytesLess r.name.toList q.name.toList
  · cases h2 : (r.name.toList == q.name.toList)
    · go_enter Tryz.func36, Tryz.ntmps36
      go_wp2
      go_quiet (fail)
      go_wp2
      go_ret
      refine ⟨ret_bool ?_, bDr (Below.refl _ _)⟩
      rw [Bool.eq_iff_iff, HLT.out]
      simp at h2
      simp [Q.less, h1, h2]
    · by_cases h3 : i < j
      · have n1 : decide ((i : Int) < (j : Int)) = true := decide_eq_true (by omega)
        go_enter Tryz.func36, Tryz.ntmps36
        go_wp2
        go_quiet (fail)
        go_wp2
        go_ret
        refine ⟨ret_bool ?_, bDr (Below.refl _ _)⟩
        rw [Bool.eq_iff_iff, HLT.out]
        simp at h2
        simp [h2, h3]
      · have n1 : decide ((i : Int) < (j : Int)) = false := decide_eq_false (by omega)
        go_enter Tryz.func36, Tryz.ntmps36
        go_wp2
        go_quiet (fail)
        go_wp2
        go_ret
        refine ⟨ret_bool ?_, bDr (Below.refl _ _)⟩
        rw [Bool.eq_iff_iff, HLT.out]
        simp [Q.less, h1, h3]
  · go_enter Tryz.func36, Tryz.ntmps36
    go_wp2
    go_quiet (fail)
    go_wp2
    go_ret
    refine ⟨ret_bool ?_, bDr (Below.refl _ _)⟩
    rw [Bool.eq_iff_iff, HLT.out]
    simp [Q.less, h1]
end Go.Proofs.YtnmcajinaigcjaaGreatDoor
namespace Go.Proofs.YtnmcajinaigcjaaGreatDoor
open Go.RowKit
open Q (It Ver Tm Sp Rc Dm)

/-- a table of bools: a row of rows, each in a block of its own -/
structure TabM (w : World) (base : Nat) (xa : Option Addr) (xc : Nat) (gs : List Nat) (n : Nat) (c : Nat → Nat → Bool) : Prop where
  hd : Own 23 1 w base xa xc gs.length (gs.map fun g => .slice (some ⟨g, 0, none⟩) n n)
  row : ∀ (i g : Nat), gs[i]? = some g → OwnB w base (some ⟨g, 0, none⟩) n ((List.range n).map (c i))
  off : ∀ g ∈ gs, ∀ ad, xa = some ad → ad.block ≠ g
  nd : gs.Nodup
theorem OwnB.same {w w' : World} {base g c : Nat} {m : List Bool} (h : OwnB w base (some ⟨g, 0, none⟩) c m) (he : w'.heap[g]? = w.heap[g]?) : OwnB w' base (some ⟨g, 0, none⟩) c m := Own.same h fun b e => by cases e; exact he
theorem OwnB.blk {w : World} {base g c : Nat} {m : List Bool} (h : OwnB w base (some ⟨g, 0, none⟩) c m) : base ≤ g ∧ g < w.heap.size := by
  rcases h.parts with ⟨e, _⟩ | ⟨g', cur, e, h1, h2, _⟩
  · cases e
  · cases e; exact ⟨h1, h2⟩
theorem TabM.keep {w w' : World} {base : Nat} {xa : Option Addr} {xc : Nat} {gs : List Nat} {n : Nat} {c : Nat → Nat → Bool} (h : TabM w base xa xc gs n c) (he : ∀ b, b < w.heap.size → w'.heap[b]? = w.heap[b]?) : TabM w' base xa xc gs n c :=
  ⟨Own.same h.hd fun g e => he g (h.hd.tag _ e).2.1, fun i g hg => (h.row i g hg).same (he g (h.row i g hg).blk.2), h.off, h.nd⟩
theorem TabM.below {w w' : World} {base : Nat} {xa : Option Addr} {xc : Nat} {gs : List Nat} {n : Nat} {c : Nat → Nat → Bool} (h : TabM w base xa xc gs n c) (hb : Below w.heap.size w w') : TabM w' base xa xc gs n c := h.keep fun b hlt => hb.block b hlt
theorem TabM.congr {w : World} {base : Nat} {xa : Option Addr} {xc : Nat} {gs : List Nat} {n : Nat} {c c' : Nat → Nat → Bool} (h : TabM w base xa xc gs n c) (he : ∀ i j, i < gs.length → j < n → c' i j = c i j) : TabM w base xa xc gs n c' := by
  refine ⟨h.hd, fun i g hg => ?_, h.off, h.nd⟩
  have e : (List.range n).map (c' i) = (List.range n).map (c i) := List.map_congr_left fun j hj => he i j (List.getElem?_eq_some_iff.1 hg).1 (List.mem_range.1 hj)
  rw [e]; exact h.row i g hg
theorem TabM.cell {w : World} {base : Nat} {xa : Option Addr} {xc : Nat} {gs : List Nat} {n : Nat} {c : Nat → Nat → Bool} (h : TabM w base xa xc gs n c) {i g : Nat} (hg : gs[i]? = some g) : ∃ x, xa = some ⟨x, 0, none⟩ ∧ x < w.heap.size ∧ base ≤ x ∧ x ≠ g ∧ w.cell? ⟨x, i, none⟩ = some (.slice (some ⟨g, 0, none⟩) n n) := by
  obtain ⟨x, rfl, h2, h3, h4⟩ := Own.cell h.hd (i := i) (v := .slice (some ⟨g, 0, none⟩) n n) (by simp [hg])
  exact ⟨x, rfl, h2, h3, h.off g (List.mem_of_getElem? hg) _ rfl, h4⟩
theorem TabM.bit {w : World} {base : Nat} {xa : Option Addr} {xc : Nat} {gs : List Nat} {n : Nat} {c : Nat → Nat → Bool} (h : TabM w base xa xc gs n c) {i g j : Nat} (hg : gs[i]? = some g) (hj : j < n) : w.cell? ⟨g, j, none⟩ = some (.bool (c i j)) ∧ w.frozen? ⟨g, j, none⟩ = false ∧ g < w.heap.size ∧ base ≤ g := by
  have h1 := h.row i g hg
  exact ⟨h1.cell (by simp [hj]), h1.frozen j, h1.blk.2, h1.blk.1⟩
theorem row_set (n : Nat) (c : Nat → Bool) (j : Nat) (v : Bool) : ((List.range n).map c).set j v = (List.range n).map fun b => if b = j then v else c b := by
  apply List.ext_getElem?
  intro b
  rw [List.getElem?_set, List.getElem?_map, List.getElem?_map]
  by_cases hb : b < n
  · rw [List.getElem?_range hb]
    by_cases e : j = b
    · subst e; simp [hb]
    · rw [if_neg e]; simp [Ne.symm e]
  · rw [List.getElem?_eq_none (by simpa using hb)]
    split
    · split
      · rename_i h1 h2; simp at h2; omega
      · rfl
    · rfl
theorem TabM.store {w : World} {base : Nat} {xa : Option Addr} {xc : Nat} {gs : List Nat} {n : Nat} {c : Nat → Nat → Bool} (h : TabM w base xa xc gs n c) {i g : Nat} (hg : gs[i]? = some g) (j : Nat) (v : Bool) : TabM (w.setCell ⟨g, j, none⟩ (.bool v)) base xa xc gs n (O.upd c i j v) := by
  have hgm := List.mem_of_getElem? hg
  refine ⟨Own.same h.hd fun x e => Below.heap_setCell _ _ _ _ (show x ≠ g from h.off g hgm _ e), fun p q hq => ?_, h.off, h.nd⟩
  by_cases e : p = i
  · subst e
    rw [hg] at hq; cases hq
    have h1 := (h.row p g hg).stored j v
    rw [row_set] at h1
    have e2 : (List.range n).map (O.upd c p j v p) = (List.range n).map fun b => if b = j then v else c p b := by
      apply List.map_congr_left; intro b _; simp [O.upd]
    rw [e2]; exact h1
  · have hne : q ≠ g := fun e1 => e (by
      have h1 := (List.getElem?_eq_some_iff.1 hq)
      have h2 := (List.getElem?_eq_some_iff.1 hg)
      obtain ⟨a1, a2⟩ := h1
      obtain ⟨b1, b2⟩ := h2
      exact (List.getElem_inj h.nd).1 (a2.trans (e1.trans b2.symm)))
    have e2 : (List.range n).map (O.upd c i j v p) = (List.range n).map (c p) := by
      apply List.map_congr_left; intro b _; simp [O.upd, e]
    rw [e2]
    exact (h.row p q hq).same (Below.heap_setCell _ _ _ _ (show q ≠ g from hne))
theorem TabM.push {w w6 w7 : World} {base : Nat} {xa a3 : Option Addr} {xc c3 : Nat} {gs : List Nat} {n : Nat} {c : Nat → Nat → Bool} {o : Obj} (h : TabM w base xa xc gs n c) (hb : Below w.heap.size w w6) (hr : OwnB w6 base (some ⟨w.heap.size, 0, none⟩) n ((List.range n).map (c gs.length)))
    (hO : Own 23 1 w7 base a3 c3 (gs.length + 1) ((gs.map fun g => .slice (some ⟨g, 0, none⟩) n n) ++ [.slice (some ⟨w.heap.size, 0, none⟩) n n]))
    (hG : (w6.alloc o).grownBy w7 (Value.slice xa gs.length xc).ownBlock) (hat : ∀ ad', a3 = some ad' → (∃ ad, xa = some ad ∧ ad.block = ad'.block) ∨ (w6.alloc o).heap.size ≤ ad'.block) : TabM w7 base a3 c3 (gs ++ [w.heap.size]) n c := by
  have hsz : (w6.alloc o).heap.size = w6.heap.size + 1 := by simp
  have hbs := hb.size
  have hrb := hr.blk
  have hold : ∀ b, b < w6.heap.size → (∀ ad, xa = some ad → ad.block ≠ b) → w7.heap[b]? = w6.heap[b]? := fun b hlt hne =>
    (hG.block b (by omega) (row_ne hne)).trans ((b1 w6 o).block b hlt)
  refine ⟨?_, fun i g hg => ?_, fun g hg ad e => ?_, ?_⟩
  · rw [List.length_append, List.map_append]; exact hO
  · rcases Nat.lt_or_ge i gs.length with h1 | h1
    · rw [List.getElem?_append_left h1] at hg
      have h2 := h.row i g hg
      exact h2.same ((hold g (by have := h2.blk.2; omega) (h.off g (List.mem_of_getElem? hg))).trans (hb.block g h2.blk.2))
    · rw [List.getElem?_append_right h1] at hg
      have : i = gs.length := by have := (List.getElem?_eq_some_iff.1 hg).1; simp at this; omega
      subst this
      simp at hg; subst hg
      exact hr.same (hold _ hrb.2 fun ad e => by have := (h.hd.tag ad e).2.1; omega)
  · rcases List.mem_append.1 hg with h1 | h1
    · obtain ⟨i, hi⟩ := List.getElem?_of_mem h1
      rcases hat ad e with ⟨ad0, e1, e2⟩ | h2
      · rw [← e2]; exact h.off g h1 ad0 e1
      · have := (h.row i g hi).blk.2; omega
    · simp at h1; subst h1
      rcases hat ad e with ⟨ad0, e1, e2⟩ | h2
      · rw [← e2]; have := (h.hd.tag ad0 e1).2.1; show _ ≠ w.heap.size; omega
      · show _ ≠ w.heap.size; omega
  · rw [List.nodup_append]
    refine ⟨h.nd, by simp, fun a ha b hb e => ?_⟩
    obtain ⟨i, hi⟩ := List.getElem?_of_mem ha
    simp at hb; subst hb
    have := (h.row i a hi).blk.2; omega
/-- a row while it is filled -/
def rowTo (l : List Rc) (ch : List Bool) (i m : Nat) : List Bool := (List.range l.length).map fun j => j == i || ((O.needs l ch i).take m).contains j
theorem rowTo_length (l : List Rc) (ch : List Bool) (i m : Nat) : (rowTo l ch i m).length = l.length := by simp [rowTo]
theorem rowTo_start (l : List Rc) (ch : List Bool) (i : Nat) : (List.replicate l.length false).set i true = rowTo l ch i 0 := by
  have e : List.replicate l.length false = (List.range l.length).map fun _ => false := by
    apply List.ext_getElem?; intro j; by_cases h : j < l.length <;> simp [h]
  rw [e, row_set]
  unfold rowTo
  apply List.map_congr_left; intro j _
  by_cases h : j = i <;> simp [h]
theorem rowTo_next {l : List Rc} {ch : List Bool} {i m x : Nat} (hx : (O.needs l ch i)[m]? = some x) : (rowTo l ch i m).set x true = rowTo l ch i (m + 1) := by
  unfold rowTo
  rw [row_set]
  apply List.map_congr_left; intro j _
  rw [List.take_add_one, hx]
  by_cases h : j = x
  · simp [h]
  · rw [if_neg h]; simp [h]
def c0B (l : List Rc) (ch : List Bool) (i j : Nat) : Bool := i == j || O.ndB l ch i j
theorem rowTo_all (l : List Rc) (ch : List Bool) (i : Nat) : rowTo l ch i (O.needs l ch i).length = (List.range l.length).map (c0B l ch i) := by
  unfold rowTo c0B
  rw [List.take_length]
  apply List.map_congr_left; intro j _
  rw [Bool.eq_iff_iff]
  simp only [Bool.or_eq_true, beq_iff_eq, List.contains_iff_mem, O.mem_needs]
  constructor
  · rintro (h | h)
    · exact .inl h.symm
    · exact .inr h
  · rintro (h | h)
    · exact .inl h.symm
    · exact .inr h
def ComesPost (l : List Rc) (ch : List Bool) (w : World) (e : Ending) (w' : World) : Prop :=
  ∃ xa xc gs, e = .returned (.slice xa l.length xc) ∧ gs.length = l.length ∧ TabM w' w.heap.size xa xc gs l.length (O.comes (O.ndB l ch)) ∧ Below w.heap.size w w'
set_option maxHeartbeats 8000000 in
set_option maxRecDepth 100000 in
theorem rcomes_any (a b : Option Addr) (c e : Nat) (l : List Rc) (ch : List Bool) (w : World) (hR : RIn w a b l ch) (hl : ch.length = l.length) (hm : l.length ≤ 1000) :
    Calls Tryz.prog 35 #[.slice a l.length c, .slice b ch.length e] w (ComesPost l ch w) := by
  have HR := Lib.hid hR
  have HL := Lib.hid hl
  have h0 : Own 23 1 (w.alloc (Obj.cells #[] 23)) w.heap.size (some ⟨w.heap.size, 0, none⟩) 0 0 [] :=
    ⟨by simp, .inr ⟨w.heap.size, 0, #[], rfl, Nat.le_refl _, heap_new1 _ _, Nat.le_refl _, by unfold maxLen; omega, by simp, by simp⟩⟩
  have H0 := Lib.hid h0
  clear hR hl h0
  go_enter Tryz.func35, Tryz.ntmps35
  go_wp2
  go_loopw [5, 16] (fun s i wr => ∃ (gs : List Nat) (xa : Option Addr) (xc : Nat), gs.length ≤ l.length ∧ i = .int .i64 gs.length ∧ s = .slice xa gs.length xc ∧ TabM wr w.heap.size xa xc gs l.length (c0B l ch) ∧ Below w.heap.size w wr) (fun _ i _ => l.length - (intOf i).toNat)
  case atStart => exact ⟨[], _, _, Nat.zero_le _, rfl, rfl, ⟨H0.out, fun i g h => by simp at h, by simp, by simp⟩, b1 _ _⟩
  case round =>
    obtain ⟨gs, xa, xc, hk, rfl, rfl, htb, hbr⟩ := hrel
    rename World => wo
    have HTB := Lib.hid htb
    have HB := Lib.hid hbr
    have hzo := hbr.size
    clear htb hbr
    obtain ⟨k, hgk⟩ : ∃ k, gs.length = k := ⟨_, rfl⟩
    have HGK := Lib.hid hgk
    rw [hgk] at hk ⊢
    clear hgk
    by_cases hlt : k < l.length
    · go_wp2_with (at_make; refine wpList_make_Bools rfl (.tmp 20) (.tmp 20) rfl w.heap.size l.length rfl rfl (by omega) hzo ?_; intro w1 hown hb1 hlt1; have hc1 := OwnB.cell hown (i := k) (z := false) (by simp [hlt]); have hf1 := OwnB.frozen hown k; have HO1 := Lib.hid hown; have HB1 := Lib.hid hb1; clear hown hb1)
      obtain ⟨W2, hW2⟩ : ∃ x, x = w1.setCell ⟨wo.heap.size, k, none⟩ (.bool true) := ⟨_, rfl⟩
      rw [← hW2]
      have hO2 : OwnB W2 w.heap.size (some ⟨wo.heap.size, 0, none⟩) l.length (rowTo l ch k 0) := by
        rw [hW2, ← rowTo_start]; exact HO1.out.stored k true
      have hB2 : Below wo.heap.size wo W2 := by rw [hW2]; exact HB1.out.setCell (p := ⟨wo.heap.size, k, none⟩) (Nat.le_refl _) _
      have HO2 := Lib.hid hO2
      have HB2 := Lib.hid hB2
      have hz2 : wo.heap.size < W2.heap.size := hO2.blk.2
      clear hW2 hO2 hB2 hc1 hf1 HO1 HB1 hlt1
      (with_reducible refine (rneeds_any a b c e l ch k _ (HR.out.below (fin HB.out HB2.out)) HL.out hlt (by omega)).mono ?_)
      rintro e1 w3 ⟨na, nc, rfl, hiv, hb3⟩
      have HIV := Lib.hid hiv
      have HO3 := Lib.hid (HO2.out.below hb3)
      have HB3 := Lib.hid (fin HB2.out hb3)
      have hz3 := hb3.size
      have hnl := O.needs_length l ch k
      clear hiv hb3
      go_wp2
      go_loopw [30] (fun j wr => ∃ m : Nat, m ≤ (O.needs l ch k).length ∧ j = .int .i64 m ∧ OwnB wr w.heap.size (some ⟨wo.heap.size, 0, none⟩) l.length (rowTo l ch k m) ∧ w3.grownBy wr (some wo.heap.size)) (fun j _ => (O.needs l ch k).length - (intOf j).toNat)
      case atStart => exact ⟨0, Nat.zero_le _, rfl, HO3.out, World.grownBy.refl _ _⟩
      case round =>
        obtain ⟨m, hm2, rfl, hob, hgr⟩ := hrel
        rename World => w6
        have HO6 := Lib.hid hob
        have HG6 := Lib.hid hgr
        have hz6 := hgr.size
        clear hob hgr
        by_cases hlm : m < (O.needs l ch k).length
        · obtain ⟨x, hx⟩ : ∃ x, (O.needs l ch k)[m]? = some x := ⟨(O.needs l ch k)[m], by simp [hlm]⟩
          have hxl : x < l.length := (O.hnd l ch k x (O.mem_needs.1 (List.mem_of_getElem? hx))).2.1
          have hrow := (HIV.out.keep hz6 fun b h1 h2 => HG6.out.block b h2 fun e => by have := Option.some.inj e; omega).row
          obtain ⟨ib, io, rfl, hib, hix⟩ := hrow.2.2.cellN hx
          obtain ⟨v, hv⟩ : ∃ v, (rowTo l ch k m)[x]? = some v := ⟨(rowTo l ch k m)[x]'(by rw [rowTo_length]; exact hxl), by simp⟩
          have hcv := HO6.out.cell hv
          have hfv := HO6.out.frozen x
          have HX := Lib.hid hx
          clear hx hrow hv
          go_wp2
          go_roundw
          case rel => exact ⟨m + 1, by omega, by go_num, by rw [← rowTo_next HX.out]; exact HO6.out.stored x true, HG6.out.andThen (World.ownsRow.stored HO6.out x (.bool true)).2 fun _ e => .inr e⟩
          case measure => simp [intOf]; omega
        · obtain rfl : m = (O.needs l ch k).length := by omega
          have hob := HO6.out
          rw [rowTo_all] at hob
          have hb6 : Below wo.heap.size wo w6 := HB3.out.grown HG6.out (by omega) fun j hj => by have := Option.some.inj hj; omega
          have hd6 : Own 23 1 w6 w.heap.size xa xc k (gs.map fun g => .slice (some ⟨g, 0, none⟩) l.length l.length) := by
            have := HTB.out.hd.below hb6
            rwa [HGK.out] at this
          have HOB := Lib.hid hob
          have HB6 := Lib.hid hb6
          have HD6 := Lib.hid hd6
          clear hob hb6 hd6
          go_wp2_with (at_builtin; refine wpList_append_flatAt (R := RV) Tryz.infoBools rfl (by decide) rfl (.tmp 38) (.tmp 40) 85 rfl Tryz.underlying85 w.heap.size xa k xc _ rfl (HD6.out.below (b1 _ _)) _ _ _ [.slice (some ⟨wo.heap.size, 0, none⟩) l.length l.length] rfl rfl (oneNV (by simp) (.slice (some ⟨wo.heap.size, 0, none⟩) l.length l.length) rfl _) (RV.ones _) (by omega) (by omega) (by simp; omega) ?_; intro a3 c3 w7 cells1 hO7 hF7 hG7 hB7 hat7; have HTP := Lib.hid (HTB.out.push HB6.out (by rw [HGK.out]; exact HOB.out) (by rw [HGK.out]; exact hF7.rv ▸ hO7) (by rw [HGK.out]; exact hG7) hat7); have HB7 := Lib.hid (((fin HB.out HB6.out).alloc (Nat.le_trans hzo (by omega)) _).trans hB7); clear hO7 hF7 hG7 hB7 hat7)
          go_roundw
          case rel => exact ⟨gs ++ [wo.heap.size], a3, c3, by rw [List.length_append, HGK.out]; exact hlt, by rw [List.length_append, HGK.out]; go_num, by rw [List.length_append, HGK.out]; rfl, HTP.out, HB7.out⟩
          case measure => simp [intOf]; omega
    · obtain rfl : k = l.length := by omega
      have HHND := Lib.hid (fun i j (h : O.ndB l ch i j = true) => (O.hnd l ch i j h).2.1)
      have HT0 := Lib.hid (O.Tab.start (nd := O.ndB l ch) (n := l.length) (c := c0B l ch) fun a b _ _ => rfl)
      go_wp2
      go_loopw [45] (fun kk wr => ∃ (k : Nat) (c : Nat → Nat → Bool), k ≤ l.length ∧ kk = .int .i64 k ∧ TabM wr w.heap.size xa xc gs l.length c ∧ O.Tab (O.ndB l ch) l.length k 0 0 c ∧ Below w.heap.size w wr) (fun kk _ => l.length - (intOf kk).toNat)
      case atStart => exact ⟨0, _, Nat.zero_le _, rfl, HTB.out, HT0.out, HB.out⟩
      case round =>
        obtain ⟨k, c1, hk1, rfl, htm, htb, hbr⟩ := hrel
        rename World => w3
        have HT1 := Lib.hid htm
        have HK1 := Lib.hid htb
        have HB1 := Lib.hid hbr
        clear htm htb hbr
        by_cases hlk : k < l.length
        · go_wp2
          go_loopw [50] (fun ii wr => ∃ (i : Nat) (c : Nat → Nat → Bool), i ≤ l.length ∧ ii = .int .i64 i ∧ TabM wr w.heap.size xa xc gs l.length c ∧ O.Tab (O.ndB l ch) l.length k i 0 c ∧ Below w.heap.size w wr) (fun ii _ => l.length - (intOf ii).toNat)
          case atStart => exact ⟨0, c1, Nat.zero_le _, rfl, HT1.out, HK1.out, HB1.out⟩
          case round =>
            obtain ⟨i, c2, hi1, rfl, htm, htb, hbr⟩ := hrel
            rename World => w4
            have HT2 := Lib.hid htm
            have HK2 := Lib.hid htb
            have HB2 := Lib.hid hbr
            clear htm htb hbr
            by_cases hli : i < l.length
            · go_wp2
              go_loopw [55] (fun jj wr => ∃ (j : Nat) (c : Nat → Nat → Bool), j ≤ l.length ∧ jj = .int .i64 j ∧ TabM wr w.heap.size xa xc gs l.length c ∧ O.Tab (O.ndB l ch) l.length k i j c ∧ Below w.heap.size w wr) (fun jj _ => l.length - (intOf jj).toNat)
              case atStart => exact ⟨0, c2, Nat.zero_le _, rfl, HT2.out, HK2.out, HB2.out⟩
              case round =>
                obtain ⟨j, c3, hj1, rfl, htm, htb, hbr⟩ := hrel
                rename World => w6
                have HT3 := Lib.hid htm
                have HK3 := Lib.hid htb
                have HB3 := Lib.hid hbr
                clear htm htb hbr
                by_cases hlj : j < l.length
                · obtain ⟨gi, hgi⟩ : ∃ g, gs[i]? = some g := ⟨gs[i]'(by rw [HGK.out]; exact hli), by simp⟩
                  obtain ⟨gk, hgk⟩ : ∃ g, gs[k]? = some g := ⟨gs[k]'(by rw [HGK.out]; exact hlk), by simp⟩
                  obtain ⟨x, rfl, hxl, hxb, hxi, hci⟩ := HT3.out.cell hgi
                  obtain ⟨x', e9, _, _, hxk, hck⟩ := HT3.out.cell hgk
                  cases e9
                  obtain ⟨b1', f1, s1, s2⟩ := HT3.out.bit hgi hlj
                  obtain ⟨b2', _, _, _⟩ := HT3.out.bit hgi hlk
                  obtain ⟨b3', _, s3, _⟩ := HT3.out.bit hgk hlj
                  have hst := HK3.out.step hlk hli hlj
                  obtain ⟨p1, hp1⟩ : ∃ p, p = c3 i j := ⟨_, rfl⟩
                  obtain ⟨p2, hp2⟩ : ∃ p, p = c3 i k := ⟨_, rfl⟩
                  obtain ⟨p3, hp3⟩ : ∃ p, p = c3 k j := ⟨_, rfl⟩
                  rw [← hp1] at b1'
                  rw [← hp2] at b2'
                  rw [← hp3] at b3'
                  rw [← hp1, ← hp2, ← hp3] at hst
                  have HST := Lib.hid hst
                  have HGI := Lib.hid hgi
                  clear hp1 hp2 hp3 hst hgi hgk
                  have hd6 : TabM w6.drew w.heap.size (some ⟨x, 0, none⟩) xc gs l.length c3 := HT3.out.below ((Below.refl _ _).drew)
                  have HTD := Lib.hid hd6
                  clear hd6
                  cases p1
                  · cases p2
                    · go_wp2
                      go_region
                      all_goals
                        go_wp2
                        go_roundw
                        case rel => exact ⟨j + 1, _, by omega, by go_num, HTD.out.store HGI.out j _, HST.out, HB3.out.drew.setCell (p := ⟨gi, j, none⟩) s2 _⟩
                        case measure => simp [intOf]; omega
                    · go_wp2
                      go_region
                      all_goals
                        go_wp2
                        go_roundw
                        case rel => exact ⟨j + 1, _, by omega, by go_num, HTD.out.store HGI.out j _, by simpa using HST.out, HB3.out.drew.setCell (p := ⟨gi, j, none⟩) s2 _⟩
                        case measure => simp [intOf]; omega
                  · go_wp2
                    go_region
                    all_goals
                      go_wp2
                      go_roundw
                      case rel => exact ⟨j + 1, _, by omega, by go_num, HTD.out.store HGI.out j _, HST.out, HB3.out.drew.setCell (p := ⟨gi, j, none⟩) s2 _⟩
                      case measure => simp [intOf]; omega
                · obtain rfl : j = l.length := by omega
                  go_wp2
                  go_roundw
                  case rel => exact ⟨i + 1, c3, by omega, by go_num, HT3.out, HK3.out.row, HB3.out⟩
                  case measure => simp [intOf]; omega
            · obtain rfl : i = l.length := by omega
              go_wp2
              go_roundw
              case rel => exact ⟨k + 1, c2, by omega, by go_num, HT2.out, HK2.out.stage, HB2.out⟩
              case measure => simp [intOf]; omega
        · obtain rfl : k = l.length := by omega
          go_wp2
          go_ret
          exact ⟨xa, xc, gs, rfl, HGK.out, HT1.out.congr fun i j hi hj => (HK1.out.done HHND.out (by have := HGK.out; omega) hj).symm, HB1.out⟩
end Go.Proofs.YtnmcajinaigcjaaGreatDoor
