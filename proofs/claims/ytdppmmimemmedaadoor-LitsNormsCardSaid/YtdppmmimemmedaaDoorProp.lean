/- lits.Propagate. -/
import Derived.Test.YtdppmmimemmedaaDoorPropRow
import Derived.StillTailTactics
import Derived.Deep.QuietTactic
import Derived.BigQuiet
namespace Go.Proofs.YtdppmmimemmedaaDoor
open Go.RowKit Go.Shelf

/-- what Propagate answers -/
def PropPost (w : World) (cs : List (List Int)) (fr : List Int) (e : Ending) (w' : World) : Prop :=
  ∃ (l : List Int) (ok : Bool) (a' : Option Addr) (c' : Nat), e = .returned (.tuple #[.slice a' l.length c', .bool ok]) ∧ M.PropRes cs fr l ok ∧ Ints w' a' l ∧ Below w.heap.size w w'
theorem PropPost.no {w w' : World} {cs : List (List Int)} {fr : List Int} (h : M.Conf cs fr) (hb : Below w.heap.size w w') : PropPost w cs fr (.returned (.tuple #[.slice none 0 0, .bool false])) w' :=
  ⟨[], false, none, 0, rfl, M.PropRes.no h, Ints.nil _ _, hb⟩
theorem PQ.made (w : World) : PQ (((w.alloc (.map #[] 0)).alloc (.cells #[.map (some w.heap.size)] 89)).alloc (.cells #[.slice none 0 0] 27)) w.heap.size (w.heap.size + 1) (w.heap.size + 1 + 1) w.heap.size [] none 0 := by
  refine ⟨?_, ?_, OwnI.nil _ _, ?_, by omega, Nat.le_refl _, List.nodup_nil, fun z hz => by simp at hz⟩
  · refine (Below.heap_alloc _ _ _ (by simp)).trans ?_
    have := World.alloc_heap_new (w.alloc (.map #[] 0)) (.cells #[.map (some w.heap.size)] 89)
    rwa [World.size_alloc] at this
  · have := World.alloc_heap_new ((w.alloc (.map #[] 0)).alloc (.cells #[.map (some w.heap.size)] 89)) (.cells #[.slice none 0 0] 27)
    rwa [World.size_alloc, World.size_alloc] at this
  · exact ((World.ownsMap_made w Tryd.prog 3 _).alloc _).alloc _
theorem OwnI.cellAt {w : World} {base g c : Nat} {ys : List Int} (h : OwnI w base (some ⟨g, 0, none⟩) c ys) {i : Nat} {z : Int} (hi : ys[i]? = some z) : w.cell? ⟨g, i, none⟩ = some (.int .i64 z) := by
  rcases h.parts with ⟨e, _⟩ | ⟨g', cur, e, _, _, hg, hn, _, _, ht⟩
  · cases e
  · cases e
    have hl : i < ys.length := (List.getElem?_eq_some_iff.1 hi).1
    rw [cell_of_cells hg]
    have e1 : (cur.toList.take ys.length)[i]? = (ys.map (Value.int .i64))[i]? := by rw [ht]
    rw [List.getElem?_take, if_pos hl, List.getElem?_map, hi, Array.getElem?_toList] at e1
    exact e1
theorem PSt.rowI {w wr : World} {n1 gi L : Nat} {vs ls : List (List Int)} {q : List Int} {a : Option Addr} {c : Nat} {lv : List Int} (h : PSt w n1 gi L vs ls wr q a c lv) {b : Option Addr} {x : List Int} (hI : Ints wr b x) (hK : ∀ ad, eff b x = some ad → KP w.heap.size n1 L ad.block) (i : Nat) (v : Value) : Ints (wr.setCell ⟨L, i, none⟩ v) b x :=
  hI.sameE (by simp [World.setCell]) (fun ad e => Below.heap_setCell _ _ _ _ (by
    have h1 := h.n01; have h2 := h.n1L
    show ad.block ≠ L
    rcases hK ad e with hk | hk <;> omega))
theorem PSt.putStay {w wr w' : World} {n1 gi L : Nat} {vs ls : List (List Int)} {q : List Int} {a : Option Addr} {c : Nat} {lv : List Int} (h : PSt w n1 gi L vs ls wr q a c lv)
    (hf : PFr w.heap.size (w.heap.size + 1 + 1) w.heap.size a wr w') : ∀ k, KP w.heap.size n1 L k → w'.heap[k]? = wr.heap[k]? := fun k hk => by
  have h1 := h.n01
  have h2 := h.n1L
  have h3 := h.ltL
  rcases hk with hk | hk
  · exact hf.below.block k hk
  · exact hf.same k (by omega) (by omega) (by omega) (fun ad e he => by have := h.lies ad e; omega)
theorem PSt.leftStay {w wr : World} {n1 gi L : Nat} {vs ls : List (List Int)} {q : List Int} {a : Option Addr} {c : Nat} {lv : List Int} (h : PSt w n1 gi L vs ls wr q a c lv) (i : Nat) (v : Value) : ∀ k, KP w.heap.size n1 L k → (wr.setCell ⟨L, i, none⟩ v).heap[k]? = wr.heap[k]? := fun k hk => by
  have h1 := h.n01
  have h2 := h.n1L
  exact Below.heap_setCell _ _ _ _ (by show k ≠ L; rcases hk with hk | hk <;> omega)
theorem PQ.drew {w : World} {base Bs Bq bm : Nat} {q : List Int} {a : Option Addr} {c : Nat} (h : PQ w base Bs Bq bm q a c) : PQ w.drew base Bs Bq bm q a c := ⟨h.bs, h.bq, h.own, h.map, h.lbq, h.lbm, h.nd, h.lit⟩
theorem PFr.of_drew {base Bq bm : Nat} {a : Option Addr} {w w' : World} (h : PFr base Bq bm a w.drew w') : PFr base Bq bm a w w' := ⟨⟨h.below.os, h.below.tape, h.below.output, h.below.size, h.below.block⟩, h.same⟩
theorem Ints.drewP {w : World} {a : Option Addr} {zs : List Int} (h : Ints w a zs) : Ints w.drew a zs := ⟨h.addr, h.wf, h.len⟩
theorem Ints.drewN {w : World} {a : Option Addr} {zs : List Int} (h : Ints w a zs) (n : Nat) : Ints (w.drewN n) a zs := ⟨h.addr, h.wf, h.len⟩
theorem PQ.drewN {w : World} {base Bs Bq bm : Nat} {q : List Int} {a : Option Addr} {c : Nat} (h : PQ w base Bs Bq bm q a c) (n : Nat) : PQ (w.drewN n) base Bs Bq bm q a c := ⟨h.bs, h.bq, h.own, h.map, h.lbq, h.lbm, h.nd, h.lit⟩
theorem Rd.drewN {K : Nat → Prop} {w : World} {g : Nat} {cs : List (List Int)} (h : Rd K w g cs) (n : Nat) : Rd K (w.drewN n) g cs :=
  ⟨h.kg, h.lt, fun i x hx => by obtain ⟨a', c', e1, e2, e3⟩ := h.rows i x hx; exact ⟨a', c', e1, e2.drewN n, e3⟩⟩
theorem PSt.drewN {w wr : World} {n1 gi L : Nat} {vs ls : List (List Int)} {q : List Int} {a : Option Addr} {c : Nat} {lv : List Int} (h : PSt w n1 gi L vs ls wr q a c lv) (n : Nat) : PSt w n1 gi L vs ls (wr.drewN n) q a c lv :=
  ⟨h.pq.drewN n, h.lies, h.vd.drewN n, h.ird.drewN n, h.lft, h.n01, h.n1L, h.ltL, h.below.trans (bDrewN _ _ _)⟩
theorem M.pre_add (q : List Int) (x : Int) : q <+: M.add q x := by
  unfold M.add; split
  · exact List.prefix_refl q
  · exact List.prefix_append q [x]
theorem M.SS_sub {q q2 row : List Int} {t s i : Nat} {y : Int} (hp : q <+: q2) (hy : q[t]? = some y) : ∀ z ∈ M.SS (q.take t) y row s i, z ∈ q2 := fun z hz => by
  have h1 : z ∈ q := by
    unfold M.SS at hz
    split at hz
    · rcases List.mem_append.1 hz with h | h
      · exact List.mem_of_mem_take h
      · simp at h; subst h; exact List.mem_of_getElem? hy
    · exact List.mem_of_mem_take hz
  exact hp.subset h1
theorem only_lit {cs : List (List Int)} : ∀ v ∈ cs.map M.only, ∀ x ∈ v, M.isLit x = true := fun v hv x hx => by
  obtain ⟨c, _, rfl⟩ := List.mem_map.1 hv
  exact ((M.mem_only c x).1 hx).2
theorem place_out {cs : List (List Int)} {V : Nat} (hV : M.vars cs = (V : Int)) {y : Int} (hp : 2 * (V : Int) ≤ M.place y) : ∀ v ∈ cs.map M.only, y ∉ v := fun v hv hy => by
  obtain ⟨c, hc, rfl⟩ := List.mem_map.1 hv
  obtain ⟨h1, h2⟩ := (M.mem_only c y).1 hy
  have := M.vars_mem hc h1 h2
  have := M.place_lt h2
  omega
/-- the first k numbers of left are laid in -/
def LvK (vs : List (List Int)) (k : Nat) (lv : List Int) : Prop := lv.length = vs.length ∧ ∀ (i : Nat) (v : List Int), i < k → vs[i]? = some v → lv[i]? = some (v.length : Int)
theorem LvK.set {vs : List (List Int)} {k : Nat} {lv v : List Int} (h : LvK vs k lv) (hv : vs[k]? = some v) : LvK vs (k + 1) (lv.set k (v.length : Int)) := by
  refine ⟨by simp [h.1], fun i x hi hx => ?_⟩
  by_cases he : i = k
  · subst he
    rw [hv] at hx; cases hx
    exact List.getElem?_set_self (by rw [h.1]; exact (List.getElem?_eq_some_iff.1 hv).1)
  · rw [List.getElem?_set_ne (fun e => he e.symm)]; exact h.2 i x (by omega) hx
/-- short clauses have a literal that is set -/
def Shrt (vs : List (List Int)) (k : Nat) (q : List Int) : Prop := ∀ (i : Nat) (v : List Int), i < k → vs[i]? = some v → (v.length : Int) ≤ 1 → ∃ x ∈ v, x ∈ q
set_option maxRecDepth 100000 in
set_option maxHeartbeats 4000000 in
theorem prop_any (a : Option Addr) (c : Nat) (cs : List (List Int)) (b : Option Addr) (d : Nat) (fr : List Int) (w : World) (hz : Cls w a cs) (hl : cs.length ≤ 1000000) (hf : Ints w b fr) :
    Calls Tryd.prog 28 #[.slice a cs.length c, .slice b fr.length d] w (PropPost w cs fr) := by
  have hmm := @run_makeMap Tryd.prog
  have hfl := hf.len
  have HZ := Lib.hid (hz.toB hl)
  have HF := Lib.hid hf
  clear hz hf
  go_enter Tryd.func28, Tryd.ntmps28
  go_wp2
  go_loopw [24] (fun i wr => ∃ (k : Nat) (q : List Int) (a' : Option Addr) (c' : Nat), k ≤ fr.length ∧ i = .int .i64 k ∧ PQ wr w.heap.size (w.heap.size + 1) (w.heap.size + 1 + 1) w.heap.size q a' c' ∧ Below w.heap.size w wr ∧ M.PInv cs fr q ∧ (∀ x ∈ fr.take k, M.isLit x = true → x ∈ q)) (fun i _ => fr.length - (intOf i).toNat)
  case atStart =>
    exact ⟨0, [], none, 0, Nat.zero_le _, rfl, PQ.made w, (((Below.refl _ _).alloc (Nat.le_refl _) _).alloc (by simp) _).alloc (by simp; omega) _, M.PInv.nil _ _, fun x hx => by simp at hx⟩
  case round =>
    obtain ⟨k, q, a', c', hk, rfl, hP, hB, hI, hfr⟩ := hrel
    have HP := Lib.hid hP
    have HB := Lib.hid hB
    have HI := Lib.hid hI
    have HFR := Lib.hid hfr
    clear hP hB hI hfr
    by_cases hlt : k < fr.length
    · obtain ⟨bb, off, rfl, hbl, hcl⟩ := (HF.out.below HB.out).addr (by omega)
      obtain ⟨z, hzk⟩ : ∃ z, fr[k]? = some z := ⟨fr[k], by simp [hlt]⟩
      have hcell := hcl k z hzk
      have HZK := Lib.hid hzk
      clear hcl hzk
      cases hlz : M.isLit z
      · go_wp2_with (go_at_call 64; refine (literal_any _ _).mono ?_; rintro e w' ⟨rfl, rfl⟩)
        go_roundw
        case rel =>
          refine ⟨k + 1, q, a', c', by omega, by go_num, HP.out, HB.out, HI.out, fun x hx hl => ?_⟩
          rw [List.take_add_one, HZK.out] at hx
          rcases List.mem_append.1 hx with h | h
          · exact HFR.out x h hl
          · simp at h; subst h; rw [hlz] at hl; cases hl
        case measure => simp [intOf]; omega
      · have hput := pput_any w.heap.size (w.heap.size + 1) (w.heap.size + 1 + 1) w.heap.size q a' c' z wr HP.out HB.out.size hlz
        have HPUT := Lib.hid hput
        clear hput
        go_wp2_with (first
          | (go_at_call 64; refine (literal_any _ _).mono ?_; rintro e w' ⟨rfl, rfl⟩)
          | (go_at_call 63; refine HPUT.out.mono ?_; rintro e w2 (⟨rfl, hno, hb2⟩ | ⟨rfl, hno, a2, c2, h1, h2, h3⟩))
          | go_in)
        · go_ret2
          exact PropPost.no (HI.out.conf (M.der_from (List.mem_of_getElem? HZK.out) hlz) hno) (HB.out.trans hb2.below)
        · go_roundw
          case rel =>
            refine ⟨k + 1, M.add q z, a2, c2, by omega, by go_num, h1, HB.out.trans h3.below, HI.out.add (M.der_from (List.mem_of_getElem? HZK.out) hlz) hno, fun x hx hl => (M.mem_add q z x).2 ?_⟩
            rw [List.take_add_one, HZK.out] at hx
            rcases List.mem_append.1 hx with h | h
            · exact .inr (HFR.out x h hl)
            · simp at h; exact .inl h
          case measure => simp [intOf]; omega
    · obtain rfl : k = fr.length := by omega
      have hfr : ∀ x ∈ fr, M.isLit x = true → x ∈ q := fun x hx hl => HFR.out x (by simpa using hx) hl
      have HFR2 := Lib.hid hfr
      obtain ⟨wo, hwo⟩ : ∃ wo, wo = wr := ⟨_, rfl⟩
      subst hwo
      have hocc := occ_any w.heap.size a c cs wo (HZ.out.below HB.out)
      have HOC := Lib.hid hocc
      clear hocc hfr HFR
      go_wp2_with (first
        | (go_at_call 65; refine HOC.out.mono ?_; rintro e w2 ⟨V, gi, ls, hV, rfl, hvc, hir, hgi, hll, hls, hb2⟩
           have HVC := Lib.hid hvc
           have HIR := Lib.hid hir
           have HLL := Lib.hid hll
           have HLS := Lib.hid hls
           have HB2 := Lib.hid hb2
           have HVV := Lib.hid hV
           clear hvc hir hll hls hb2 hV)
        | (at_make; refine wpList_make_Ints rfl (.tmp 43) (.tmp 43) 27 rfl Tryd.underlying27 w2.heap.size cs.length rfl rfl (by omega) (Nat.le_refl _) ?_; intro w3 hown3 hb3 hlt3
           have HO3 := Lib.hid hown3
           have HB3 := Lib.hid hb3
           clear hown3 hb3)
        | go_in)
      have hst := PSt.start HP.out HB.out HVC.out HIR.out hgi HLL.out HLS.out hl HB2.out HO3.out HB3.out hlt3
      obtain ⟨n1, hn1⟩ : ∃ n1, n1 = wo.heap.size := ⟨_, rfl⟩
      obtain ⟨L, hL⟩ : ∃ L, L = w2.heap.size := ⟨_, rfl⟩
      rw [← hn1, ← hL] at hst
      rw [← hn1, ← hL]
      have HST := Lib.hid hst
      clear hst hn1 hL hlt3 HP HB HO3 HB3 HVC HIR hgi HB2
      go_loopw [47] (fun i wr => ∃ (k : Nat) (q : List Int) (a' : Option Addr) (c' : Nat) (lv : List Int), k ≤ cs.length ∧ i = .int .i64 k ∧ PSt w n1 gi L (cs.map M.only) ls wr q a' c' lv ∧ M.PInv cs fr q ∧ (∀ x ∈ fr, M.isLit x = true → x ∈ q) ∧ LvK (cs.map M.only) k lv ∧ Shrt (cs.map M.only) k q) (fun i _ => cs.length - (intOf i).toNat)
      case atStart =>
        exact ⟨0, q, a', c', _, Nat.zero_le _, rfl, HST.out, HI.out, HFR2.out, ⟨by simp, fun i v h => by omega⟩, fun i v h => by omega⟩
      case round =>
        clear HST HI HFR2
        obtain ⟨k, q, a', c', lv, hk, rfl, hst, hI, hfr, hlv, hsh⟩ := hrel
        have HST := Lib.hid hst
        have HI := Lib.hid hI
        have HFR := Lib.hid hfr
        have HLV := Lib.hid hlv
        have HSH := Lib.hid hsh
        clear hst hI hfr hlv hsh
        by_cases hlt : k < cs.length
        · obtain ⟨x, hxk⟩ : ∃ x, cs[k]? = some x := ⟨cs[k], by simp [hlt]⟩
          have hok : (cs.map M.only)[k]? = some (M.only x) := by rw [List.getElem?_map, hxk]; rfl
          obtain ⟨a1, c1, hc1, hI1, hK1⟩ := HST.out.vd.rows k _ hok
          have hlk : k < lv.length := by rw [HLV.out.1]; simpa using hlt
          have hc2 := HST.out.lft.cellAt (List.getElem?_eq_getElem hlk)
          have hf2 := HST.out.lft.frozen k
          have HS2 := Lib.hid (HST.out.left k ((M.only x).length : Int))
          have HLV2 := Lib.hid (HLV.out.set hok)
          have HOK := Lib.hid hok
          have HXK := Lib.hid hxk
          have hxl := hI1.len
          have HI1 := Lib.hid hI1
          have HK1 := Lib.hid hK1
          clear hok hxk hI1 hK1
          by_cases h2 : 2 ≤ (M.only x).length
          · have d0 : decide (((M.only x).length : Int) = 0) = false := decide_eq_false (by omega)
            have d1 : decide (((M.only x).length : Int) = 1) = false := decide_eq_false (by omega)
            go_wp2
            · exfalso
              have he : M.only x = [] := by assumption
              rw [he] at h2; simp at h2
            go_roundw
            case rel =>
              refine ⟨k + 1, q, a', c', _, by omega, by go_num, HS2.out, HI.out, HFR.out, HLV2.out, fun i v hi hv hle => ?_⟩
              by_cases he : i = k
              · subst he; rw [HOK.out] at hv; cases hv; omega
              · exact HSH.out i v (by omega) hv hle
            case measure => simp [intOf]; omega
          rcases hcase : M.only x with _ | ⟨z, rest⟩
          · rw [hcase] at hc1 HS2 HLV2 hxl
            go_wp2
            go_ret2
            exact PropPost.no (HI.out.none (List.mem_of_getElem? HXK.out) (by rw [hcase]; simp)) HS2.out.below
          · obtain rfl : rest = [] := by
              rw [hcase, List.length_cons] at h2; exact List.eq_nil_of_length_eq_zero (by omega)
            have hzm : z ∈ M.only x := by rw [hcase]; simp
            have hzl : M.isLit z = true := ((M.mem_only x z).1 hzm).2
            have HDZ : Hid (M.Der cs fr z) := Lib.hid (HI.out.last (List.mem_of_getElem? HXK.out) hzm (fun y hy hne => by rw [hcase] at hy; simp at hy; exact absurd hy hne))
            have HS3 : Hid (PSt w n1 gi L (cs.map M.only) ls (wr.setCell ⟨L, k, none⟩ (.int .i64 1)) q a' c' (lv.set k 1)) := Lib.hid (HST.out.left k 1)
            have HLV3 : Hid (LvK (cs.map M.only) (k + 1) (lv.set k 1)) := Lib.hid (by have := HLV2.out; rw [hcase] at this; simpa using this)
            have HI2 : Ints (wr.setCell ⟨L, k, none⟩ (.int .i64 1)) a1 [z] := by have := HST.out.rowI HI1.out HK1.out k (.int .i64 1); rwa [hcase] at this
            obtain ⟨bb, off, rfl, hbl, hcl⟩ := HI2.addr (by simp)
            have hcz := hcl 0 z rfl
            rw [Nat.add_zero] at hcz
            have hput := pput_any w.heap.size (w.heap.size + 1) (w.heap.size + 1 + 1) w.heap.size q a' c' z _ HS3.out.pq HS3.out.below.size hzl
            have HPUT := Lib.hid hput
            have hc1' : wr.cell? ⟨n1, k, none⟩ = some (.slice (some ⟨bb, off, none⟩) 1 c1) := by rw [hcase] at hc1; exact hc1
            clear hput hc1 hcl hzm hzl HI2 HS2 HLV2 HI1 HK1 h2 hxl
            go_wp2_with (first
              | (go_at_call 63; refine HPUT.out.mono ?_; rintro e w2 (⟨rfl, hno, hb2⟩ | ⟨rfl, hno, a2, c2, h1, h2, h3⟩))
              | go_in)
            · go_ret2
              exact PropPost.no (HI.out.conf HDZ.out hno) (HS3.out.below.trans hb2.below)
            · go_roundw
              case rel =>
                refine ⟨k + 1, M.add q z, a2, c2, _, by omega, by go_num, HS3.out.put h1 h2 h3, HI.out.add HDZ.out hno, fun x hx hl => (M.mem_add q z x).2 (.inr (HFR.out x hx hl)), HLV3.out, fun i v hi hv hle => ?_⟩
                by_cases he : i = k
                · subst he; rw [HOK.out, hcase] at hv; cases hv; exact ⟨z, by simp, (M.mem_add q z z).2 (.inl rfl)⟩
                · obtain ⟨y, hy, hyq⟩ := HSH.out i v (by omega) hv hle
                  exact ⟨y, hy, (M.mem_add q z y).2 (.inr hyq)⟩
              case measure => simp [intOf]; omega
        · obtain rfl : k = cs.length := by omega
          have HL0 : Hid (M.LfP (cs.map M.only) (fun _ => q.take 0) lv) := Lib.hid ⟨HLV.out.1, fun i v hv => by rw [List.take_zero, M.lf_nil]; exact HLV.out.2 i v (by simpa using (List.getElem?_eq_some_iff.1 hv).1) hv⟩
          have HS0 : Hid (M.SatP (cs.map M.only) (fun _ => q.take 0) q) := Lib.hid (fun i v hv hle => HSH.out i v (by simpa using (List.getElem?_eq_some_iff.1 hv).1) hv (by rwa [List.take_zero, M.lf_nil] at hle))
          clear HLV HSH
          go_wp2
          go_loopw [16] (fun i wr => ∃ (t : Nat) (q : List Int) (a' : Option Addr) (c' : Nat) (lv : List Int), t ≤ q.length ∧ i = .int .i64 t ∧ PSt w n1 gi L (cs.map M.only) ls wr q a' c' lv ∧ M.PInv cs fr q ∧ (∀ x ∈ fr, M.isLit x = true → x ∈ q) ∧ M.LfP (cs.map M.only) (fun _ => q.take t) lv ∧ M.SatP (cs.map M.only) (fun _ => q.take t) q) (fun i _ => 40001 - (intOf i).toNat)
          case atStart => exact ⟨0, q, a', c', lv, Nat.zero_le _, rfl, HST.out, HI.out, HFR.out, HL0.out, HS0.out⟩
          case round =>
            clear HST HI HFR HL0 HS0
            obtain ⟨t, q, a', c', lv, ht, rfl, hst, hI, hfr, hlv, hsat⟩ := hrel
            have HST := Lib.hid hst
            have HI := Lib.hid hI
            have HFR := Lib.hid hfr
            have HLV := Lib.hid hlv
            have HSAT := Lib.hid hsat
            clear hst hI hfr hlv hsat
            have hqc := HST.out.pq.bq.cell
            have hql := M.lits_length HST.out.pq.nd HST.out.pq.lit
            by_cases hlt : t < q.length
            · obtain ⟨y, hyt⟩ : ∃ y, q[t]? = some y := ⟨q[t], by simp [hlt]⟩
              have hyl : M.isLit y = true := HST.out.pq.lit y (List.mem_of_getElem? hyt)
              have hnl : M.isLit (-y) = true := by rw [M.isLit_neg]; exact hyl
              have hyb := (M.isLit_iff y).1 hyl
              obtain ⟨y0, y1, y2⟩ := hyb
              have hyi := (HST.out.pq.own.ints (fun z hz => I64.of_lit (HST.out.pq.lit z hz)) (by omega))
              obtain ⟨bb, off, rfl, hbl, hcl⟩ := hyi.addr (by omega)
              have hcy := hcl t y hyt
              obtain ⟨p, hp⟩ : ∃ p : Nat, M.place (-y) = (p : Int) := ⟨(M.place (-y)).toNat, by have := M.place_nonneg hnl; omega⟩
              have hpl : Calls Tryd.prog 66 #[.int .i64 (-y)] wr fun e w' => e = .returned (.int .i64 (M.place (-y))) ∧ wr = w' := (place_any (-y) wr hnl).mono fun e w' h => ⟨h.1, h.2.symm⟩
              rw [hp] at hpl
              have HPL := Lib.hid hpl
              have HP := Lib.hid hp
              have HYT := Lib.hid hyt
              clear hpl hp hyt hcl hyi
              by_cases hpV : p < 2 * V
              · have hrow : ls[p]? = some (M.occ (cs.map M.only) cs.length 0 p) := HLS.out p hpV
                obtain ⟨a1, c1, hc1, hI1, hK1⟩ := HST.out.ird.rows p _ hrow
                obtain ⟨row, hrw⟩ : ∃ row, row = M.occ (cs.map M.only) cs.length 0 p := ⟨_, rfl⟩
                rw [← hrw] at hc1 hI1 hK1
                have hrl := hI1.len
                have HRW := Lib.hid hrw
                have HI1 := Lib.hid hI1
                have HK1 := Lib.hid hK1
                clear hrow hrw hI1 hK1
                obtain ⟨wA, hwA⟩ : ∃ wA, wA = wr := ⟨_, rfl⟩
                subst hwA
                go_wp2_with (go_at_call 66; refine HPL.out.mono ?_; rintro e w2 ⟨rfl, rfl⟩)
                go_loopw [95] (fun i wr => ∃ (s : Nat) (q2 : List Int) (a' : Option Addr) (c' : Nat) (lv : List Int), s ≤ row.length ∧ i = .int .i64 s ∧ q <+: q2 ∧ PSt w n1 gi L (cs.map M.only) ls wr q2 a' c' lv ∧ M.PInv cs fr q2 ∧ (∀ x ∈ fr, M.isLit x = true → x ∈ q2) ∧ M.LfP (cs.map M.only) (M.SS (q.take t) y row s) lv ∧ M.SatP (cs.map M.only) (M.SS (q.take t) y row s) q2 ∧ (∀ k, KP w.heap.size n1 L k → wr.heap[k]? = wA.heap[k]?) ∧ wA.heap.size ≤ wr.heap.size) (fun i _ => row.length - (intOf i).toNat)
                case atStart => exact ⟨0, q, _, c', lv, Nat.zero_le _, rfl, List.prefix_refl q, HST.out, HI.out, HFR.out, by rw [M.SS_zero]; exact HLV.out, by rw [M.SS_zero]; exact HSAT.out, (fun _ _ => rfl), Nat.le_refl _⟩
                case round =>
                  clear HST HI HFR HLV HSAT hqc hc1
                  obtain ⟨s, q2, a2, c2, lv2, hs, rfl, hpre, hst, hI, hfr, hlv, hsat, hstay, hsze⟩ := hrel
                  have HST := Lib.hid hst
                  have HI := Lib.hid hI
                  have HFR := Lib.hid hfr
                  have HLV := Lib.hid hlv
                  have HSAT := Lib.hid hsat
                  have HSY := Lib.hid hstay
                  have HPRE := Lib.hid hpre
                  clear hst hI hfr hlv hsat hstay hpre
                  by_cases hlt4 : s < row.length
                  · obtain ⟨z, hzs⟩ : ∃ z, row[s]? = some z := ⟨row[s], by simp [hlt4]⟩
                    obtain ⟨i0, rfl, hi0, hhp⟩ := M.occ_get (by rw [← HRW.out]; exact hzs : (M.occ (cs.map M.only) cs.length 0 p)[s]? = some z)
                    obtain ⟨x0, hx0⟩ : ∃ x0, cs[i0]? = some x0 := ⟨cs[i0], by simp [hi0]⟩
                    have hv0 : (cs.map M.only)[i0]? = some (M.only x0) := by rw [List.getElem?_map, hx0]; rfl
                    rw [hv0] at hhp
                    have hym : -y ∈ M.only x0 := (M.hasP_mem (only_lit _ (List.mem_of_getElem? hv0)) hnl HP.out).1 hhp
                    have hyn : y ∉ q.take t := fun hm => by
                      have hnd : q.Nodup := (HPRE.out.sublist.nodup HST.out.pq.nd)
                      obtain ⟨j, hj, e⟩ := List.getElem_of_mem hm
                      have hjt : j < t := by simp at hj; omega
                      have := List.pairwise_iff_getElem.1 hnd j t (by omega) hlt hjt
                      exact this (by have e2 := (List.getElem?_eq_some_iff.1 HYT.out).2; rw [e2, ← e]; simp)
                    obtain ⟨k1, k2, k3⟩ := HLV.out.step hzs (by rw [HRW.out]; exact M.occ_nodup _ _ _) hv0 (M.nodup_only x0) hym hyn
                    obtain ⟨u, hu⟩ : ∃ u, u = M.lf (q.take t) (M.only x0) := ⟨_, rfl⟩
                    rw [← hu] at k1 k2 k3
                    have hIr : Ints wr a1 row := HI1.out.sameE hsze (fun ad e => HSY.out _ (HK1.out ad e))
                    obtain ⟨b5, off5, rfl, hb5, hc5⟩ := hIr.addr (by omega)
                    have hci := hc5 s _ hzs
                    have hcu := HST.out.lft.cellAt k1
                    have hfu := HST.out.lft.frozen i0
                    obtain ⟨av, cv, hcv, hIv, hKv⟩ := HST.out.vd.rows i0 _ hv0
                    have hub : 0 ≤ u ∧ u ≤ 17592186043904 := by
                      have := List.length_filter_le (fun l => decide (-l ∈ q.take t)) (M.only x0)
                      have := hIv.len
                      rw [hu]; unfold M.lf; omega
                    obtain ⟨u0, u1⟩ := hub
                    have HZS := Lib.hid hzs
                    have HV0 := Lib.hid hv0
                    have HIV := Lib.hid hIv
                    have HKV := Lib.hid hKv
                    have HX0 := Lib.hid hx0
                    have HU := Lib.hid hu
                    clear hc5 hzs hIr hv0 hIv hKv hx0 hu
                    go_wp2
                    have HS5 := Lib.hid (HST.out.left i0 (u - 1))
                    have hc6 := HS5.out.lft.cellAt (i := i0) (z := u - 1) (List.getElem?_set_self (List.getElem?_eq_some_iff.1 k1).1)
                    have hc7 : (wr.setCell ⟨L, i0, none⟩ (.int .i64 (u - 1))).cell? ⟨n1, i0, none⟩ = some (.slice av (M.only x0).length cv) := (World.cell?_of_block (a := ⟨n1, i0, none⟩) (HST.out.leftStay i0 _ n1 HST.out.vd.kg)).trans hcv
                    have hc8 := HS5.out.pq.bs.cell
                    by_cases hu1 : u - 1 ≤ 1
                    · have hdec : decide (u - 1 ≤ 1) = true := decide_eq_true hu1
                      have hI5 := HST.out.rowI HIV.out HKV.out i0 (.int .i64 (u - 1))
                      obtain ⟨W5, hW5⟩ : ∃ W5, wr.setCell ⟨L, i0, none⟩ (.int .i64 (u - 1)) = W5 := ⟨_, rfl⟩
                      rw [hW5] at HS5 hc6 hc7 hc8 hI5 ⊢
                      have hlst := last_any w.heap.size (w.heap.size + 1) (w.heap.size + 1 + 1) w.heap.size q2 a2 c2 av cv (M.only x0) W5.drew HS5.out.pq.drew HS5.out.below.size (Ints.drewP hI5) (only_lit _ (List.mem_of_getElem? HV0.out))
                      have HLST := Lib.hid hlst
                      have HW5 := Lib.hid hW5
                      clear hlst hW5 hI5
                      have hd6 : World.cell? { heap := W5.heap, tape := W5.tape, drawn := W5.drawn + 1, os := W5.os, output := W5.output } ⟨L, i0, none⟩ = some (.int .i64 (u - 1)) := hc6
                      have hd7 : World.cell? { heap := W5.heap, tape := W5.tape, drawn := W5.drawn + 1, os := W5.os, output := W5.output } ⟨n1, i0, none⟩ = some (.slice av (M.only x0).length cv) := hc7
                      have hd8 : World.cell? { heap := W5.heap, tape := W5.tape, drawn := W5.drawn + 1, os := W5.os, output := W5.output } ⟨w.heap.size + 1, 0, none⟩ = some (.map (some w.heap.size)) := hc8
                      go_still_tail 12, (by kernel_rfl)
                      change wpList _ _ _ _ _ W5.drew
                      clear hd6 hd7 hd8
                      go_wp2_with (go_at_call 67; refine HLST.out.mono ?_; intro e w4 hl4; obtain ⟨b4, rfl⟩ : ∃ b4 : Bool, e = .returned (.bool b4) := by rcases hl4 with ⟨h, _⟩ | ⟨h, _⟩ <;> exact ⟨_, h⟩)
                      · have hbf : (!b4) = true := by assumption
                        rcases hl4 with ⟨h, hno, hf4⟩ | ⟨h, _⟩
                        · have HF4 := Lib.hid hf4
                          have HNO := Lib.hid hno
                          clear hf4 hno
                          go_ret2
                          exact PropPost.no (HI.out.none (List.mem_of_getElem? HX0.out) HNO.out) (HS5.out.below.trans HF4.out.of_drew.below)
                        · exfalso; cases h; cases hbf
                      · have hbf : (!b4) = false := by assumption
                        rcases hl4 with ⟨h, _⟩ | ⟨h, x1, hx1, hn1, a4, c4, h1, h2, h3⟩
                        · exfalso; cases h; cases hbf
                        have hf4 := h3.of_drew
                        have hsub := M.SS_sub (row := row) (s := s + 1) (i := i0) HPRE.out HYT.out
                        have hder : M.Der cs fr x1 := HI.out.last (List.mem_of_getElem? HX0.out) hx1 (fun z hz hne => hsub _ (M.lf_le (M.nodup_only x0) (by rw [k3]; exact hu1) hx1 hz hne (fun hm => hn1 (hsub _ hm))))
                        have hwz : W5.heap.size = wr.heap.size := by rw [← HW5.out]; simp [World.setCell]
                        have hgo : _ ∧ _ := ⟨HS5.out.put h1 h2 hf4, hf4⟩
                        have HGO := Lib.hid hgo
                        clear hgo h1 h2 h3 hf4
                        go_roundw
                        case rel =>
                          refine ⟨s + 1, M.add q2 x1, a4, c4, lv2.set i0 (u - 1), by omega, by go_num, HPRE.out.trans (M.pre_add q2 x1), HGO.out.1, HI.out.add hder hn1, fun x hx hl => (M.mem_add q2 x1 x).2 (.inr (HFR.out x hx hl)), k2, HSAT.out.step HZS.out (fun x hx => (M.mem_add q2 x1 x).2 (.inr hx)) (fun v hv _ => ?_), fun k hk => ?_, ?_⟩
                          · rw [HV0.out] at hv; cases hv; exact ⟨x1, hx1, (M.mem_add q2 x1 x1).2 (.inl rfl)⟩
                          · have e1 := HS5.out.putStay HGO.out.2 k hk
                            have e2 := HST.out.leftStay i0 (.int .i64 (u - 1)) k hk
                            rw [HW5.out] at e2
                            exact (e1.trans e2).trans (HSY.out k hk)
                          · have := HGO.out.2.size; omega
                        case measure => simp [intOf]; omega
                    · have hdec : decide (u - 1 ≤ 1) = false := decide_eq_false hu1
                      go_quiet (fail)
                      go_wp2
                      have hwz : (wr.setCell ⟨L, i0, none⟩ (.int .i64 (u - 1))).heap.size = wr.heap.size := by simp [World.setCell]
                      go_roundw
                      case rel =>
                        refine ⟨s + 1, q2, a2, c2, lv2.set i0 (u - 1), by omega, by go_num, HPRE.out, HS5.out.drewN nq, HI.out, HFR.out, k2, HSAT.out.step HZS.out (fun x hx => hx) (fun v hv hle => ?_), fun k hk => (HST.out.leftStay i0 (.int .i64 (u - 1)) k hk).trans (HSY.out k hk), ?_⟩
                        · rw [HV0.out] at hv; cases hv; rw [k3] at hle; exact absurd hle hu1
                        · show wA.heap.size ≤ (wr.setCell ⟨L, i0, none⟩ (.int .i64 (u - 1))).heap.size
                          omega
                      case measure => simp [intOf]; omega
                  · obtain rfl : s = row.length := by omega
                    go_wp2
                    go_roundw
                    case rel =>
                      obtain ⟨ext, hext⟩ := HPRE.out
                      have htk : q2.take (t + 1) = q.take t ++ [y] := by rw [← hext, List.take_append_of_le_length (by omega), List.take_add_one, HYT.out]; rfl
                      have hend : ∀ (i : Nat) (v : List Int), (cs.map M.only)[i]? = some v → M.lf (M.SS (q.take t) y row row.length i) v = M.lf (q2.take (t + 1)) v := fun i v hv => by
                        rw [htk, HRW.out]
                        have := M.SS_end (S := q.take t) (only_lit (cs := cs)) hnl HP.out hv
                        rwa [List.length_map] at this
                      exact ⟨t + 1, q2, a2, c2, lv2, by rw [← hext, List.length_append]; omega, by go_num, HST.out, HI.out, HFR.out, ⟨HLV.out.1, fun i v hv => by rw [← hend i v hv]; exact HLV.out.2 i v hv⟩, fun i v hv hle => HSAT.out i v hv (by rw [hend i v hv]; exact hle)⟩
                    case measure => simp [intOf]; omega
              · go_wp2_with (go_at_call 66; refine HPL.out.mono ?_; rintro e w2 ⟨rfl, rfl⟩)
                go_roundw
                case rel =>
                  have htk : q.take (t + 1) = q.take t ++ [y] := by rw [List.take_add_one, HYT.out]; rfl
                  have hout : ∀ (i : Nat) (v : List Int), (cs.map M.only)[i]? = some v → M.lf (q.take (t + 1)) v = M.lf (q.take t) v := fun i v hv => by
                    rw [htk, M.lf_snoc_not (place_out HVV.out (y := -y) (by rw [HP.out]; omega) v (List.mem_of_getElem? hv))]
                  exact ⟨t + 1, q, _, c', lv, by omega, by go_num, HST.out, HI.out, HFR.out, ⟨HLV.out.1, fun i v hv => by rw [hout i v hv]; exact HLV.out.2 i v hv⟩, fun i v hv hle => HSAT.out i v hv (by rwa [hout i v hv] at hle)⟩
                case measure => simp [intOf]; omega
            · obtain rfl : t = q.length := by omega
              have hbs := HST.out.pq.bs.cell
              have hsk := sortedKeys_any w.heap.size wr.heap.size q (wr.alloc (.cells #[.map (some w.heap.size)] 89)) (by simp) (by simp) (HST.out.pq.map.alloc _) HST.out.pq.nd HST.out.pq.lit
              have HSK := Lib.hid hsk
              clear hsk
              go_wp2_with (first
                | (go_at_call 69; refine (mapsKeys_any _ _).mono ?_; rintro e w2 ⟨rfl, rfl⟩)
                | (go_at_call 68; refine HSK.out.mono ?_; rintro e w2 ⟨a2, c2, rfl, h1, h2, h3, h4⟩)
                | go_in)
              go_ret2
              have hb : w.heap.size ≤ wr.heap.size := HST.out.below.size
              refine ⟨M.norm q, true, a2, c2, rfl, HI.out.done HFR.out (fun x hx hle => ?_), h1, (HST.out.below.alloc hb _).trans (h4.mono (by simp; omega))⟩
              obtain ⟨i, hi, e⟩ := List.getElem_of_mem hx
              exact HSAT.out i (M.only x) (by rw [List.getElem?_map, List.getElem?_eq_getElem hi, e]; rfl) (by rwa [List.take_length])
end Go.Proofs.YtdppmmimemmedaaDoor
