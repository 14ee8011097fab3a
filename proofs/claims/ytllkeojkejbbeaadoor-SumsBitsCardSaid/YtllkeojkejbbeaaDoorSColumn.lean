/- (*sums.adder).column. -/
import Derived.Test.YtllkeojkejbbeaaDoorSFull
import Derived.Deep.RegionLaw
import Derived.Deep.RegionHeld3
import Derived.Deep.DeepCutAuto
namespace Go.Proofs.YtllkeojkejbbeaaDoor
open Go.RowKit Go.Shelf
variable {X : Nat → Prop} {Zb : Option (Nat × Array Value)}

theorem M.drop_get {α : Type} {xs : List α} {i : Nat} {c : α} {rest : List α} (h : xs.drop i = c :: rest) : xs[i]? = some c ∧ xs.drop (i + 1) = rest := by
  constructor
  · have : (xs.drop i)[0]? = some c := by rw [h]; rfl
    simpa using this
  · rw [← List.drop_drop, h]; rfl
theorem M.drop_cons {α : Type} {xs : List α} {i : Nat} {c : α} (h : xs[i]? = some c) : xs.drop i = c :: xs.drop (i + 1) := by
  have hi : i < xs.length := (List.getElem?_eq_some_iff.1 h).1
  rw [List.drop_eq_getElem_cons hi, (List.getElem?_eq_some_iff.1 h).2]
theorem M.drop_set {α : Type} {xs : List α} {i : Nat} {c c' : α} {rest : List α} (h : xs.drop i = c :: rest) : (xs.set i c').drop i = c' :: rest := by
  obtain ⟨h1, h2⟩ := M.drop_get h
  have hi : i < xs.length := (List.getElem?_eq_some_iff.1 h1).1
  rw [M.drop_cons (c := c') (List.getElem?_set_self hi), List.drop_set_of_lt (by omega), h2]
section
variable {w0 w w' : World} {base p V q g : Nat} {gs gs' : List M.G} {cols : List (List Int)} {vals : List Value}
/-- between the append and the store -/
theorem AS.mid (h : AS X Zb w0 base p V q g gs cols vals w) {i : Nat} {a a1 a2 : Option Addr} {n c c2 : Nat} {y : List Int} {w1 : World} (hv : vals[i]? = some (.slice a n c)) (h1 : ∀ ad1, a1 = some ad1 → ∃ ad, a = some ad ∧ ad.block = ad1.block)
    (hp : ColPut w w0.heap.size a1 y a2 c2 w1) (j : Nat) :
    w1.cell? ⟨q, 1, none⟩ = some (.slice (some ⟨g, 0, none⟩) cols.length cols.length) ∧ w1.frozen? ⟨g, j, none⟩ = false ∧ w1.cell? ⟨g, j, none⟩ = vals[j]? := by
  obtain ⟨hc, hg, hl⟩ := hp
  have hint : ∀ k, blkOf a1 = some k → ∃ cur, w.heap[k]? = some (.cells cur 3 (0, 0)) := by
    intro k e
    cases a1 with
    | none => simp [blkOf, Value.ownBlock] at e
    | some ad1 =>
      obtain ⟨ad, rfl, e2⟩ := h1 ad1 rfl
      simp [blkOf, Value.ownBlock] at e
      obtain ⟨_, cur, hcc⟩ := h.colAt hv
      exact ⟨cur, by rw [← e, ← e2]; exact hcc⟩
  have hq : w1.heap[q]? = w.heap[q]? := hg.block q h.qlt fun e => by
    obtain ⟨cur, hcc⟩ := hint q e.symm
    rw [h.box] at hcc; cases hcc
  have hgg : w1.heap[g]? = w.heap[g]? := hg.block g h.glt fun e => by
    obtain ⟨cur, hcc⟩ := hint g e.symm
    rw [h.row] at hcc; cases hcc
  refine ⟨(World.cell?_of_block (a := ⟨q, 1, none⟩) hq).trans h.cells.2, ?_, ?_⟩
  · simp [World.frozen?, hgg, h.row]
  · rw [cell_of_cells (hgg.trans h.row)]; simp
theorem AS.size0 (h : AS X Zb w0 base p V q g gs cols vals w) : w0.heap.size ≤ w.heap.size := h.kp.size
theorem tag_new (w : World) (cur : Array Value) : TagI (w.alloc (.cells cur 3)) (some ⟨w.heap.size, 0, none⟩) := fun ad e => by
  cases e; exact ⟨cur, (0, 0), by show (w.heap.push _)[w.heap.size]? = _; simp⟩
/-- how many literals the column in this cell has -/
def colLen (w : World) (g i : Nat) : Nat := match w.cell? ⟨g, i, none⟩ with | some (.slice _ n _) => n | _ => 0
theorem colLen_of {w : World} {g i : Nat} {a : Option Addr} {n c : Nat} (h : w.cell? ⟨g, i, none⟩ = some (.slice a n c)) : colLen w g i = n := by unfold colLen; rw [h]
end
set_option maxHeartbeats 4000000 in
set_option maxRecDepth 100000 in
theorem column_any {w0 w : World} {base p V q g : Nat} {gs : List M.G} {cols : List (List Int)} {vals : List Value} {sum B : Nat} {val : List Bool → Nat} {at' : Nat} {bits : List Int}
    (h : AS X Zb w0 base p V q g gs cols vals w) (hS : M.SI V sum B val at' gs (cols.drop at') bits) (hat : at' < cols.length) (hn : cols.length ≤ 100) :
    Calls Tryd.prog 61 #[.pointer (some ⟨q, 0, none⟩), .int .i64 at'] w fun e w' => ∃ gs' cols' vals' bit, e = .returned (.tuple #[.int .i64 bit, .nilIface]) ∧
      AS X Zb w0 base p V q g gs' cols' vals' w' ∧ M.SI V sum B val (at' + 1) gs' (cols'.drop (at' + 1)) (bits ++ [bit]) ∧ cols'.length = cols.length := by
  obtain ⟨n, hcn⟩ : ∃ n, cols.length = n := ⟨_, rfl⟩
  rw [hcn] at hat hn
  have HA := Lib.hid h
  have HS := Lib.hid hS
  have HN := Lib.hid hcn
  have HN0 := Lib.hid hcn
  clear h hS hcn
  go_enter Tryd.func61, Tryd.ntmps61
  go_wp2
  go_loopw [6, 7, 8, 9] (fun _ _ _ _ wr => ∃ (gs : List M.G) (cols : List (List Int)) (vals : List Value), AS X Zb w0 base p V q g gs cols vals wr ∧ M.SI V sum B val at' gs (cols.drop at') bits ∧ cols.length = n) (fun _ _ _ _ wr => colLen wr g at')
  case atStart => exact ⟨gs, cols, vals, HA.out, HS.out, HN.out⟩
  case round =>
    clear HA HS HN
    obtain ⟨gs, cols, vals, hA, hS, hcn⟩ := hrel
    obtain ⟨x0, hx0⟩ : ∃ x, cols[at']? = some x := ⟨_, List.getElem?_eq_getElem (by rw [hcn]; exact hat)⟩
    obtain ⟨a0, c0, hv0, hc0⟩ := hA.col at' x0 hx0
    obtain ⟨q0, q1⟩ := hA.cells
    rw [hcn] at q1
    obtain ⟨g0, g1⟩ := hA.cell hv0
    have hcap := hc0.cap.1
    have hlim : x0.length ≤ 20000 := by
      have h1 := hS.gates
      have h2 := hS.lim
      rw [M.drop_cons hx0] at h1
      simp only [M.lens, List.map_cons, List.sum_cons] at h1
      omega
    have HA := Lib.hid hA
    have HS := Lib.hid hS
    have HN := Lib.hid hcn
    have HX0 := Lib.hid hx0
    have HV0 := Lib.hid hv0
    have HC0 := Lib.hid hc0
    clear hA hS hcn hx0 hv0 hc0
    by_cases h3 : 2 < x0.length
    · obtain ⟨x, y, z, r, rfl⟩ : ∃ x y z r, x0 = x :: y :: z :: r := by
        match x0, h3 with
        | x :: y :: z :: r, _ => exact ⟨x, y, z, r, rfl⟩
      obtain ⟨b0, o0, rfl, hb0, hcl⟩ := HC0.out.cells (by simp)
      have l0 := hcl 0 x rfl
      have l1 := hcl 1 y rfl
      have l2 := hcl 2 z rfl
      rw [Nat.add_zero] at l0
      have hD := M.drop_cons HX0.out
      have hS1 := HS.out
      rw [hD] at hS1
      obtain ⟨d, R, hR⟩ := hS1.next rfl (by simp)
      rw [hR] at hS1 hD
      obtain ⟨f1, f2, f3, f4, f5, f6, hS2⟩ := hS1.full
      have hF := fun wx (hx : AS X Zb w0 base p V q g gs cols vals wx) => full_any hx hS1.small f1 f2 f3 f4
      obtain ⟨bit, hbit⟩ : ∃ u : Int, u = ((V + gs.length + 2 : Nat) : Int) := ⟨_, rfl⟩
      obtain ⟨car, hcar⟩ : ∃ u : Int, u = ((V + gs.length + 3 : Nat) : Int) := ⟨_, rfl⟩
      rw [← hbit, ← hcar] at hS2 hF
      obtain ⟨G3, hG3⟩ : ∃ G, G = gs ++ [((3 : Int), [x, y])] ++ [((3 : Int), [((V + gs.length + 1 : Nat) : Int), z])] ++ [((4 : Int), [x, y, z])] := ⟨_, rfl⟩
      rw [← hG3] at hS2 hF
      have hd1 := M.drop_get hR
      have hat1 : at' + 1 < n := by
        have := (List.getElem?_eq_some_iff.1 hd1.1).1
        rw [HN.out] at this; exact this
      obtain ⟨a5, c5, hv5, hc5⟩ := HA.out.col _ _ hd1.1
      have hne1 : at' ≠ at' + 1 := by omega
      obtain ⟨hsl, _, hin⟩ := HC0.out.from 3 (by simp)
      obtain ⟨m, hm⟩ : ∃ m, m = r.length + 3 := ⟨_, rfl⟩
      have hll : (x :: y :: z :: r).length = m := by rw [hm]; rfl
      rw [hll] at g0 hcap hlim
      have hm0 : (0 : Int) < (m : Int) := by omega
      have hm1 : (1 : Int) < (m : Int) := by omega
      have hm2 : (2 : Int) < (m : Int) := by omega
      have hk0 : 0 < m := by omega
      have hk1 : 1 < m := by omega
      have hk2 : 2 < m := by omega
      have hm3 : (3 : Int) ≤ (m : Int) := by omega
      have hk3 : 3 ≤ m := by omega
      obtain ⟨a1, hite⟩ : ∃ a1 : Option Addr, (if c0 = 3 then some ⟨b0, o0, none⟩ else some ⟨b0, o0 + 3, none⟩) = a1 := ⟨_, rfl⟩
      have hfa : fromAddr (some ⟨b0, o0, none⟩) c0 3 = a1 := by rw [← hite]; simp [fromAddr, addr_add]
      rw [hfa] at hin
      have HFA := Lib.hid hfa
      have HM := Lib.hid hm
      have HF := Lib.hid hF
      have HS2 := Lib.hid hS2
      have HR := Lib.hid hR
      have HD := Lib.hid hD
      have HD1 := Lib.hid hd1
      have HV5 := Lib.hid hv5
      have HIN := Lib.hid hin
      clear hm hll hfa hsl hF hS1 hS2 hR hD hd1 hv5 hc5 f1 f2 f3 f4 f5 f6 hcl hbit hcar hG3 hin
      go_wp2
      go_region_held3 (fun w' => w'.cell? ⟨b0, o0, none⟩ = some (.int .i64 x) ∧ w'.cell? ⟨b0, o0 + 1, none⟩ = some (.int .i64 y) ∧ w'.cell? ⟨b0, o0 + 2, none⟩ = some (.int .i64 z))
        (first | (exact ⟨l0, l1, l2⟩) | go_keep)
        (first
        | (go_at_call 79; refine (HF.out _ (HA.out.below ((Below.refl _ _).drew))).mono ?_; rintro e w2 ⟨rfl, hA2⟩; obtain ⟨a0', c0', hv0', hc0'⟩ := hA2.col _ _ HX0.out; obtain ⟨b0', o0', e0', _, hcl'⟩ := hc0'.cells (by simp); rw [HV0.out] at hv0'; cases hv0'; cases e0'; have l0 := hcl' 0 x rfl; have l1 := hcl' 1 y rfl; have l2 := hcl' 2 z rfl; rw [Nat.add_zero] at l0; have HA2 := Lib.hid hA2; clear hA2 hc0' hcl'))
      obtain ⟨p0, p1⟩ := HA2.out.cells
      rw [HN.out] at p1
      have i1 := (HA2.out.cell HV0.out).2
      have HC3 : Hid (ColI w2 w0.heap.size a1 (c0 - 3) r) := Lib.hid (by
        obtain ⟨a7, c7, hv7, hc7⟩ := HA2.out.col _ _ HX0.out
        rw [HV0.out] at hv7
        cases hv7
        rw [← HFA.out]
        exact (hc7.from 3 (by simp)).2.1)
      have hrl : m - 3 ≤ 1000000 := by omega
      have hrm : r.length = m - 3 := by have := HM.out; omega
      have HRM := Lib.hid hrm
      obtain ⟨wo, hwo⟩ : ∃ wo, wo = w2 := ⟨_, rfl⟩
      subst hwo
      have hql := HA2.out.qlt
      have hgl := HA2.out.glt
      go_upto_region 6 with fail
      go_cut [57] (fun _ wx => ∃ (a6 : Option Addr) (c6 : Nat), AS X Zb w0 base p V q g G3 (cols.set at' (r ++ [bit])) (vals.set at' (.slice a6 (m - 3 + 1) c6)) wx)
      case first =>
        go_region_law
          (first
          | (refine step_append_col rfl (.tmp 54) (.tmp 56) rfl w0.heap.size a1 (m - 3) (c0 - 3) r rfl hrm (HC3.out.below (((Below.refl _ _).drew).alloc (Nat.le_refl _) _)) ⟨wo.heap.size, 0, none⟩ bit rfl ?_ hrl ((HA2.out.below (((Below.refl _ _).drew).alloc (Nat.le_refl _) _)).size0) ?_; (focus (simp; done)); intro a6 c6 w6 hP6; have hm6 := (HA2.out.below (((Below.refl _ _).drew).alloc (Nat.le_refl _) _)).mid HV0.out HIN.out hP6 at'; have r1 := hm6.1; rw [HN.out] at r1; have r2 := hm6.2.1; have r3 := hm6.2.2.trans HV0.out; have HP6 := Lib.hid hP6; clear hm6 hP6))
        all_goals
          go_wp2_with fail
          go_meet
          have hA3 := (HA2.out.below (((Below.refl wo.heap.size wo).drew).alloc (Nat.le_refl _) (.cells #[.int .i64 bit] 3))).put HV0.out HIN.out HP6.out
          have e6 : (r ++ [bit]).length = m - 3 + 1 := by rw [List.length_append, HRM.out]; rfl
          rw [e6] at hA3
          exact ⟨a6, c6, hA3⟩
      case rest =>
        obtain ⟨a6, c6, hA3⟩ := hcut
        obtain ⟨wp, hwp⟩ : ∃ wp, wp = wc := ⟨_, rfl⟩
        subst hwp
        have hv1 : (vals.set at' (.slice a6 (m - 3 + 1) c6))[at' + 1]? = some (.slice a5 d.length c5) := by rw [List.getElem?_set_ne hne1]; exact HV5.out
        have hx1 : (cols.set at' (r ++ [bit]))[at' + 1]? = some d := by rw [List.getElem?_set_ne hne1]; exact HD1.out.1
        have hn1 : (cols.set at' (r ++ [bit])).length = n := by rw [List.length_set]; exact HN.out
        have hv0 : (vals.set at' (.slice a6 (m - 3 + 1) c6))[at']? = some (.slice a6 (m - 3 + 1) c6) := List.getElem?_set_self (by have := HA2.out.vl; rw [this, HN.out]; exact hat)
        have hc5 : ColI wp w0.heap.size a5 c5 d := by
          obtain ⟨a7, c7, h7, h8⟩ := hA3.col _ _ hx1
          rw [hv1] at h7
          cases h7
          exact h8
        obtain ⟨s0, s1⟩ := hA3.cells
        rw [hn1] at s1
        obtain ⟨t0, t1⟩ := hA3.cell hv1
        have hql3 := hA3.qlt
        have hgl3 := hA3.glt
        have hdl : d.length ≤ 1000000 := by
          have h1 := HS2.out.gates
          have h2 := HS2.out.lim
          simp only [M.lens, List.map_cons, List.sum_cons, List.length_append, List.length_cons, List.length_nil] at h1
          omega
        have hat2 : (at' : Int) + 1 < (n : Int) := by omega
        have hat3 : (0 : Int) ≤ (at' : Int) + 1 := by omega
        have hat4 : ((at' : Int) + 1).toNat = at' + 1 := by omega
        have hat5 : IntKind.i64.wrap ((at' : Int) + 1) = (at' : Int) + 1 := by rw [IntKind.wrap_i64]; omega
        have HA3 := Lib.hid hA3
        have HV1 := Lib.hid hv1
        have HV0b := Lib.hid hv0
        have HN1 := Lib.hid hn1
        have HC5 := Lib.hid hc5
        have HX1 := Lib.hid hx1
        have HG0 := Lib.hid g0
        clear hA3 hv1 hv0 hn1 hc5 hx1 q0 q1 g0 g1 l0 l1 l2 p0 p1 i1 hite
        go_upto_region 7 with fail
        go_region_law
          (first
          | (refine step_append_col rfl (.tmp 72) (.tmp 74) rfl w0.heap.size a5 d.length c5 d rfl rfl (HC5.out.below (((Below.refl _ _).drew).alloc (Nat.le_refl _) _)) ⟨wp.heap.size, 0, none⟩ car rfl ?_ hdl ((HA3.out.below (((Below.refl _ _).drew).alloc (Nat.le_refl _) _)).size0) ?_; (focus (simp; done)); intro a8 c8 w8 hP8; have hm8 := (HA3.out.below (((Below.refl _ _).drew).alloc (Nat.le_refl _) _)).mid HV1.out (fun ad e => ⟨ad, e, rfl⟩) hP8 (at' + 1); have r1 := hm8.1; rw [HN1.out] at r1; have r2 := hm8.2.1; have r3 := hm8.2.2.trans HV1.out; have HP8 := Lib.hid hP8; clear hm8 hP8))
        all_goals
          go_wp2
          have hA4 := (HA3.out.below (((Below.refl wp.heap.size wp).drew).alloc (Nat.le_refl _) (.cells #[.int .i64 car] 3))).put HV1.out (fun ad e => ⟨ad, e, rfl⟩) HP8.out
          have e6 : (d ++ [car]).length = d.length + 1 := by simp
          rw [e6] at hA4
          have HA4 := Lib.hid hA4
          clear hA4 e6
          go_roundw
          case rel =>
            refine ⟨G3, _, _, HA4.out, ?_, by rw [List.length_set]; exact HN1.out⟩
            have k1 := M.drop_set (c' := r ++ [bit]) HD.out
            have k2 := M.drop_set (c' := d ++ [car]) (M.drop_get k1).2
            have k3 : ((cols.set at' (r ++ [bit])).set (at' + 1) (d ++ [car]))[at']? = some (r ++ [bit]) := by rw [List.getElem?_set_ne (fun e => hne1 e.symm)]; exact (M.drop_get k1).1
            rw [M.drop_cons k3, k2]
            exact HS2.out
          case measure =>
            have k4 := (HA4.out.cell (i := at') (v := .slice a6 (m - 3 + 1) c6) (by rw [List.getElem?_set_ne (fun e => hne1 e.symm)]; exact HV0b.out)).1
            rw [colLen_of k4, colLen_of HG0.out]
            omega
    · have hD := M.drop_cons HX0.out
      have hS1 := HS.out
      rw [hD] at hS1
      match x0, h3 with
      | [], _ =>
        obtain ⟨e1, hS2⟩ := hS1.last0
        have hO := HA.out.or0 hS1.small e1
        obtain ⟨bit, hbit⟩ : ∃ u : Int, u = ((V + gs.length + 1 : Nat) : Int) := ⟨_, rfl⟩
        rw [← hbit] at hO hS2
        have HO := Lib.hid hO
        have HS2 := Lib.hid hS2
        clear hO hS2 hbit hD hS1 hlim hcap
        simp only [List.length_nil] at g0
        go_wp2_with fail
        refine HO.out.mono ?_
        rintro e w2 ⟨rfl, hA2⟩
        have HA2 := Lib.hid hA2
        clear hA2
        go_wp2
        go_ret2
        exact ⟨_, cols, vals, bit, rfl, HA2.out, HS2.out, HN.out.trans HN0.out.symm⟩
      | [x], _ =>
        have hS2 := hS1.last1
        obtain ⟨b0, o0, rfl, hb0, hcl⟩ := HC0.out.cells (by simp)
        have l0 := hcl 0 x rfl
        rw [Nat.add_zero] at l0
        have HS2 := Lib.hid hS2
        clear hS2 hD hS1 hlim hcap hcl
        simp only [List.length_cons, List.length_nil] at g0
        go_wp2
        go_ret2
        exact ⟨_, cols, vals, x, rfl, HA.out, HS2.out, HN.out.trans HN0.out.symm⟩
      | [x, y], _ =>
        obtain ⟨b0, o0, rfl, hb0, hcl⟩ := HC0.out.cells (by simp)
        have l0 := hcl 0 x rfl
        have l1 := hcl 1 y rfl
        rw [Nat.add_zero] at l0
        obtain ⟨d, R, hR⟩ := hS1.next rfl (by simp)
        rw [hR] at hS1 hD
        obtain ⟨f1, f2, f3, _, hS2⟩ := hS1.last2
        have f4 : M.Small gs := hS1.small
        have f5 := f4.snoc (g := ((3 : Int), [x, y])) (by simp)
        have hX := fun wx (hx : AS X Zb w0 base p V q g gs cols vals wx) => hx.xor f4 f1 (by omega)
        have hA := fun wx (hx : AS X Zb w0 base p V q g (gs ++ [((3 : Int), [x, y])]) cols vals wx) (b : Addr) (hz : Ints wx (some b) [x, y]) (hk : TagI wx (some b)) => hx.and2 f5 (by rw [M.snoc_len]; exact f2) (by rw [M.snoc_len]; omega) b hz hk
        simp only [M.snoc_len] at hA
        have hxl : I64 x := I64.of_lit (M.own_isLit (vars := V + gs.length) (by omega) f1 x (by simp))
        have hyl : I64 y := I64.of_lit (M.own_isLit (vars := V + gs.length) (by omega) f1 y (by simp))
        obtain ⟨bit, hbit⟩ : ∃ u : Int, u = ((V + gs.length + 1 : Nat) : Int) := ⟨_, rfl⟩
        obtain ⟨car, hcar⟩ : ∃ u : Int, u = ((V + gs.length + 1 + 1 : Nat) : Int) := ⟨_, rfl⟩
        have hcar2 : ((V + gs.length + 2 : Nat) : Int) = car := hcar.symm
        obtain ⟨G1, hG1⟩ : ∃ G, G = gs ++ [((3 : Int), [x, y])] := ⟨_, rfl⟩
        obtain ⟨G2, hG2⟩ : ∃ G, G = G1 ++ [((1 : Int), [x, y])] := ⟨_, rfl⟩
        rw [← hbit, hcar2, ← hG1, ← hG2] at hS2
        rw [← hbit, ← hG1] at hX
        rw [← hcar, ← hG1, ← hG2] at hA
        have hd1 := M.drop_get hR
        have hat1 : at' + 1 < n := by
          have := (List.getElem?_eq_some_iff.1 hd1.1).1
          rw [HN.out] at this; exact this
        obtain ⟨a5, c5, hv5, hc5⟩ := HA.out.col _ _ hd1.1
        have hat2 : (at' : Int) + 1 < (n : Int) := by omega
        have hat3 : (0 : Int) ≤ (at' : Int) + 1 := by omega
        have hat4 : ((at' : Int) + 1).toNat = at' + 1 := by omega
        have hat5 : IntKind.i64.wrap ((at' : Int) + 1) = (at' : Int) + 1 := by rw [IntKind.wrap_i64]; omega
        have hdl : d.length ≤ 1000000 := by
          have h1 := hS2.gates
          have h2 := hS2.lim
          simp only [M.lens, List.map_cons, List.sum_cons, List.length_append, List.length_cons, List.length_nil] at h1
          omega
        have HX := Lib.hid hX
        have HAN := Lib.hid hA
        have HS2 := Lib.hid hS2
        have HR := Lib.hid hR
        have HD := Lib.hid hD
        have HD1 := Lib.hid hd1
        have HV5 := Lib.hid hv5
        have HXL := Lib.hid hxl
        have HYL := Lib.hid hyl
        clear hX hA hS2 hR hD hd1 hv5 hc5 f1 f2 f3 f4 f5 hbit hcar hcar2 hG1 hG2 hlim hcap hcl hS1 hxl hyl
        simp only [List.length_cons, List.length_nil] at g0
        go_upto_region 14 with fail
        go_cut [11, 12] (fun s11 s12 wx => s11 = .int .i64 bit ∧ s12 = .nilIface ∧ AS X Zb w0 base p V q g G1 cols vals wx)
        case first =>
          go_region_held3 (fun w' => w'.cell? ⟨b0, o0, none⟩ = some (.int .i64 x) ∧ w'.cell? ⟨b0, o0 + 1, none⟩ = some (.int .i64 y) ∧ w'.cell? ⟨q, 0, none⟩ = some (.pointer (some ⟨p, 0, none⟩)))
            (first | (exact ⟨l0, l1, q0⟩) | go_keep)
            (first
            | (go_at_call 50; refine (HX.out _ (HA.out.below ((Below.refl _ _).drew))).mono ?_; rintro e w2 ⟨rfl, hA2⟩; obtain ⟨a0', c0', hv0', hc0'⟩ := hA2.col _ _ HX0.out; obtain ⟨b0', o0', e0', _, hcl'⟩ := hc0'.cells (by simp); rw [HV0.out] at hv0'; cases hv0'; cases e0'; have l0 := hcl' 0 x rfl; have l1 := hcl' 1 y rfl; rw [Nat.add_zero] at l0; have q0 := hA2.cells.1; have HA2 := Lib.hid hA2; clear hA2 hc0' hcl'))
          all_goals
            go_wp2_with fail
            go_meet
            exact ⟨rfl, rfl, HA2.out⟩
        case rest =>
          obtain ⟨rfl, rfl, hA2⟩ := hcut
          obtain ⟨wp, hwp⟩ : ∃ wp, wp = wc := ⟨_, rfl⟩
          subst hwp
          obtain ⟨a0', c0', hv0', hc0'⟩ := hA2.col _ _ HX0.out
          obtain ⟨b0', o0', e0', hb0', hcl'⟩ := hc0'.cells (by simp)
          rw [HV0.out] at hv0'
          cases hv0'
          cases e0'
          have l0 := hcl' 0 x rfl
          have l1 := hcl' 1 y rfl
          rw [Nat.add_zero] at l0
          obtain ⟨q0, q1⟩ := hA2.cells
          have hql := hA2.qlt
          have hbl := hb0'
          have HA2 := Lib.hid hA2
          clear hA2 hc0' hcl' HX
          go_upto_region 17 with fail
          go_cut [12, 13] (fun s12 s13 wx => s13 = .int .i64 car ∧ s12 = .nilIface ∧ AS X Zb w0 base p V q g G2 cols vals wx)
          case first =>
            go_region_held3 (fun w' => w'.cell? ⟨b0, o0, none⟩ = some (.int .i64 x) ∧ w'.cell? ⟨b0, o0 + 1, none⟩ = some (.int .i64 y) ∧ w'.cell? ⟨q, 0, none⟩ = some (.pointer (some ⟨p, 0, none⟩)))
              (first | (exact ⟨l0, l1, q0⟩) | go_keep)
              (first
              | (go_at_call 47; refine (HAN.out _ (HA2.out.below (((Below.refl _ _).drew).alloc (Nat.le_refl _) _)) _ (Ints.two _ _ _ HXL.out HYL.out _) (tag_new _ _)).mono ?_; rintro e w3 ⟨rfl, hA3⟩; obtain ⟨a0', c0', hv0', hc0'⟩ := hA3.col _ _ HX0.out; obtain ⟨b0', o0', e0', _, hcl'⟩ := hc0'.cells (by simp); rw [HV0.out] at hv0'; cases hv0'; cases e0'; have l0 := hcl' 0 x rfl; have l1 := hcl' 1 y rfl; rw [Nat.add_zero] at l0; have q0 := hA3.cells.1; have HA3 := Lib.hid hA3; clear hA3 hc0' hcl'))
            all_goals
              go_wp2_with fail
              go_meet
              exact ⟨rfl, rfl, HA3.out⟩
          case rest =>
            obtain ⟨rfl, rfl, hA3⟩ := hcut
            obtain ⟨wq, hwq⟩ : ∃ wq, wq = wc := ⟨_, rfl⟩
            subst hwq
            have hc5 : ColI wq w0.heap.size a5 c5 d := by
              obtain ⟨a7, c7, h7, h8⟩ := hA3.col _ _ HD1.out.1
              rw [HV5.out] at h7
              cases h7
              exact h8
            obtain ⟨s0, s1⟩ := hA3.cells
            rw [HN.out] at s1
            obtain ⟨t0, t1⟩ := hA3.cell HV5.out
            have hql3 := hA3.qlt
            have hgl3 := hA3.glt
            have HA3 := Lib.hid hA3
            have HC5 := Lib.hid hc5
            clear hA3 hc5 l0 l1 q0 q1 g0 g1 hql
            go_upto_region 20 with fail
            go_region_law
              (first
              | (refine step_append_col rfl (.tmp 148) (.tmp 150) rfl w0.heap.size a5 d.length c5 d rfl rfl (HC5.out.below (((Below.refl _ _).drew).alloc (Nat.le_refl _) _)) ⟨wq.heap.size, 0, none⟩ car rfl ?_ hdl ((HA3.out.below (((Below.refl _ _).drew).alloc (Nat.le_refl _) _)).size0) ?_; (focus (simp; done)); intro a8 c8 w8 hP8; have hm8 := (HA3.out.below (((Below.refl _ _).drew).alloc (Nat.le_refl _) _)).mid HV5.out (fun ad e => ⟨ad, e, rfl⟩) hP8 (at' + 1); have r1 := hm8.1; rw [HN.out] at r1; have r2 := hm8.2.1; have r3 := hm8.2.2.trans HV5.out; have HP8 := Lib.hid hP8; clear hm8 hP8))
            all_goals
              have hA4 := (HA3.out.below (((Below.refl wq.heap.size wq).drew).alloc (Nat.le_refl _) (.cells #[.int .i64 car] 3))).put HV5.out (fun ad e => ⟨ad, e, rfl⟩) HP8.out
              have e6 : (d ++ [car]).length = d.length + 1 := by simp
              rw [e6] at hA4
              have HA4 := Lib.hid hA4
              clear hA4 e6
              go_wp2
              go_ret2
              refine ⟨G2, _, _, bit, rfl, HA4.out, ?_, by rw [List.length_set]; exact HN.out.trans HN0.out.symm⟩
              rw [M.drop_set HR.out]
              exact HS2.out
      | x :: y :: z :: r, h3 => exact absurd (by simp : 2 < (x :: y :: z :: r).length) h3
end Go.Proofs.YtllkeojkejbbeaaDoor
