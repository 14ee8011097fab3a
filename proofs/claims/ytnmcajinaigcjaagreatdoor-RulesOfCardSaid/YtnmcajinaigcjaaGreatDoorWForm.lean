/- The contract of haversacklaw19.formula. -/
import Derived.Test.YtnmcajinaigcjaaGreatDoorWOf
import Derived.Test.YtnmcajinaigcjaaGreatDoorWX
import Derived.Test.YtnmcajinaigcjaaGreatDoorJWm
import Derived.Test.YtnmcajinaigcjaaGreatDoorDHolds
import Derived.Test.YtnmcajinaigcjaaGreatDoorDSound
namespace Go.Proofs.YtnmcajinaigcjaaGreatDoor
open Go.RowKit Go.Maps
open Q (It Ver Tm Sp Rc Dm)
open Go.Proofs.YtnmcajinaigcjaaGreatDoor.C

theorem W.or_fin : ∀ t, t < 4 → ∀ S, S < 8 → bits .or .i64 ((S : Nat) : Int) (wrap64 ((2 : Int) ^ t)) = ((S ||| 2 ^ t : Nat) : Int) := by decide +kernel
theorem W.or_fin2 : ∀ t, t < 4 → ∀ S, S < 8 → bits .or .i64 ((S : Nat) : Int) (IntKind.i64.wrap ((2 : Int) ^ t)) = ((S ||| 2 ^ t : Nat) : Int) := by decide +kernel
theorem W.or_add : ∀ t, t < 4 → ∀ S, S < 2 ^ t → S ||| 2 ^ t = S + 2 ^ t := by decide
theorem W.pow_wrap {K N : Nat} (h : 2 ^ K = N) (hN : N ≤ 16) : wrap64 ((2 : Int) ^ K) = (N : Int) ∧ IntKind.i64.wrap ((2 : Int) ^ K) = (N : Int) := by
  have e : ((2 : Int) ^ K) = (N : Int) := by rw [← h]; simp
  rw [e]
  have h1 : wrap64 (N : Int) = (N : Int) := IntWalk.wrap64_in _ ⟨by omega, by omega⟩
  have h2 : IntKind.i64.wrap (N : Int) = (N : Int) := by rw [IntKind.wrap_i64]; omega
  exact ⟨h1, h2⟩
theorem W.keyedI : Keyed Tryz.prog 3 := int_keyed Tryz.underlying3
theorem W.keyI {s : Nat} (h : s ≤ 1000000) : keyOf Tryz.prog 3 (.int .i64 (s : Int)) = some (.int .i64 (s : Int)) :=
  keyOf_int_mk Tryz.underlying3 (WalkArith.wf_i64 (by omega))
theorem W.zeroBool (w : World) : (zeroValue 4).run Tryz.prog w = .ok (.bool false) w := by kernel_rfl
abbrev W.OwnI (w : World) (B k : Nat) (D : DataW Value) : Prop := w.ownsMap Tryz.prog 3 W.heldE B k D
/-- the sets that the first models have -/
def W.Has (n K : Nat) (xs : List (List Bool)) (D : DataW Value) : Prop := ∀ s : Nat, s < 2 ^ K → D.atKey (.int .i64 (s : Int)) (.held (.bool false)) = .held (.bool (xs.any fun x => M.setN n K x == s))
theorem W.Has.put {n K B k : Nat} {xs : List (List Bool)} {D : DataW Value} {w : World} {x : List Bool} (h : W.Has n K xs D) (hO : W.OwnI w B k D) : W.Has n K (xs ++ [x]) (D.put (.int .i64 ((M.setN n K x : Nat) : Int)) (.held (.bool true))) := fun s hs => by
  rw [List.any_append, List.any_cons, List.any_nil, Bool.or_false]
  by_cases e : M.setN n K x = s
  · subst e
    rw [atKey_put_same (hO.tidy W.keyedI).isMap (show WideAt.IsKeyLit (.int .i64 ((M.setN n K x : Nat) : Int)) from trivial)]
    simp
  · rw [atKey_put_other (by simpa using fun h : (s : Int) = (M.setN n K x : Int) => e (by omega)), h s hs]
    have : (M.setN n K x == s) = false := by simpa using e
    rw [this, Bool.or_false]
theorem W.lookI_run {w : World} {B n : Nat} {D : DataW Value} (hown : W.OwnI w B n D) {s : Nat} (hs : s ≤ 1000000) {v : Bool} (hat : D.atKey (.int .i64 (s : Int)) (.held (.bool false)) = .held (.bool v)) :
    (Instr.lookup 101 (.map (some B)) (.int .i64 (s : Int)) false).run Tryz.prog w = .ok (.bool v) w := by
  obtain ⟨v', ps, hrun, hv⟩ := hown.lookup W.keyedI Tryz.underlying101 (W.zeroBool w) rfl (W.keyI hs)
  rw [hat] at hv
  obtain rfl : v' = .bool v := by
    unfold W.heldE at hv
    simp at hv; exact hv.1
  exact hrun
theorem W.putI_run {w : World} {B n : Nat} {D : DataW Value} (hown : W.OwnI w B n D) (hn : n < maxLen) {s : Nat} (hs : s ≤ 1000000) (v : Value) :
    ∃ w', (Instr.mapUpdate 101 (.map (some B)) (.int .i64 (s : Int)) v).run Tryz.prog w = .ok () w' ∧ W.OwnI w' B (n + 1) (D.put (.int .i64 (s : Int)) (.held v)) ∧ w.grownBy w' (some B) :=
  hown.update W.keyedI Tryz.underlying101 hn (W.keyI hs) rfl
theorem W.ownR_kept {w w' : World} {base c : Nat} {a : Option Addr} {ms : List (List Bool)} (h : C.OwnR w base a c ms) (hk : ∀ (g : Nat) (cur : Array Value) (t : TypeId), w.heap[g]? = some (.cells cur t (0, 0)) → w'.heap[g]? = w.heap[g]?) : C.OwnR w' base a c ms := by
  obtain ⟨vals, ho, hv⟩ := h
  refine ⟨vals, ⟨ho.1, ?_⟩, fun i m hm => ?_⟩
  · rcases ho.2 with h0 | ⟨g, cap, cur, e, hb, hg, r⟩
    · exact .inl h0
    · exact .inr ⟨g, cap, cur, e, hb, (hk g cur _ hg).trans hg, r⟩
  · obtain ⟨a', h1, h2⟩ := hv i m hm
    exact ⟨a', h1, h2.kept fun g cur _ hg => hk g cur _ hg⟩
theorem W.ownR_map {w w' : World} {base c B k : Nat} {a : Option Addr} {ms : List (List Bool)} {D : DataW Value} (h : C.OwnR w base a c ms) (hO : W.OwnI w B k D) (hg : w.grownBy w' (some B)) : C.OwnR w' base a c ms :=
  W.ownR_kept h fun g cur t hc => hg.block g (Array.getElem?_eq_some_iff.1 hc).1 fun e => by
    obtain ⟨es, clock, hB, _⟩ := hO
    injection e with e
    rw [e, hB] at hc; cases hc
theorem W.cbools {w : World} {a : Option Addr} {m : List Bool} (h : Bools w a m) : C.Bools w a m := ⟨h.addr, h.len⟩
def W.hs (n K : Nat) (x : List Bool) : List Bool := (List.range K).map fun i => M.holds (((n + i : Nat) : Int) + 1) x
theorem W.hs_at {n K i : Nat} {x : List Bool} (h : i < K) : (W.hs n K x)[i]? = some (M.holds (((n + i : Nat) : Int) + 1) x) := by simp [W.hs, h]
theorem W.hs_all (n K : Nat) (x : List Bool) : M.num ((W.hs n K x).take K) = M.setN n K x := by
  rw [List.take_of_length_le (by simp [W.hs])]; rfl
/-- what the law's choice holds, in its box -/
structure W.FIn (w : World) (a o da ga sa ca : Option Addr) (c : Nat) (l : List Rc) (on ch : List Bool) (ds : List Dm) : Prop where
  recs : RIn w a ga l ch
  onn : Bools w o on
  cap : l.length ≤ c
  dms : Sl RDm 6 w da ds
  sel : C.Ints w sa (C.M.iota l.length ds.length)
  cls : C.Cls w ca (M.rulesC l on ds)
  l1 : on.length = l.length
  l2 : ch.length = l.length
  how : ∀ d ∈ ds, 1 ≤ d.how ∧ d.how ≤ 3
  six : l.length ≤ 6
  four : ds.length ≤ 4
  deps : ∀ r ∈ l, r.deps.length ≤ 20
set_option maxHeartbeats 4000000 in
set_option maxRecDepth 100000 in
theorem W.formula_any (a o da ga sa ca : Option Addr) (c oc dc gc sc cc : Nat) (v2 vp : Value) (l : List Rc) (on ch : List Bool) (ds : List Dm) (w : World) (hI : W.FIn w a o da ga sa ca c l on ch ds) :
    Calls Tryz.prog 20 #[.agg #[.slice a l.length c, .slice o on.length oc, v2, .slice da ds.length dc], .agg #[vp, .slice sa ds.length sc], .slice ca (M.rulesC l on ds).length cc, .int .i64 ((l.length + ds.length : Nat) : Int), .slice ga ch.length gc] w fun e w' => e = .returned (.bool true) ∧ Below w.heap.size w w' := by
  have HI := Lib.hid hI
  have h6 := hI.six
  have h4 := hI.four
  have A1 := Lib.hid (fun (w : World) (o : Obj) => (Below.refl w.heap.size w).alloc (Nat.le_refl _) o)
  obtain ⟨cs, hcs⟩ : ∃ x, M.rulesC l on ds = x := ⟨_, rfl⟩
  rw [hcs]
  have HCS := Lib.hid hcs
  obtain ⟨V, hV⟩ : ∃ x, l.length + ds.length = x := ⟨_, rfl⟩
  rw [hV]
  have HV := Lib.hid hV
  have hmm := @run_makeMap Tryz.prog
  clear hI hcs hV
  go_enter Tryz.func20, Tryz.ntmps20
  go_wp2_with fail
  obtain ⟨W2, hW2⟩ : ∃ x, x = (w.alloc (Obj.cells #[.slice a l.length c, .slice o on.length oc, v2, .slice da ds.length dc] 42)).alloc (Obj.cells #[vp, .slice sa ds.length sc] 46) := ⟨_, rfl⟩
  have hB2 : Below w.heap.size w W2 := hW2 ▸ ((A1.out w _).trans ((A1.out _ _).mono (by simp)))
  have hz2 : w.heap.size + 1 < W2.heap.size := by rw [hW2]; simp
  have b0 : W2.cell? ⟨w.heap.size, 0, none⟩ = some (.slice a l.length c) := by rw [hW2]; simp
  have b1 : W2.cell? ⟨w.heap.size, 1, none⟩ = some (.slice o on.length oc) := by rw [hW2]; simp
  have b3 : W2.cell? ⟨w.heap.size, 3, none⟩ = some (.slice da ds.length dc) := by rw [hW2]; simp
  have b5 : W2.cell? ⟨w.heap.size + 1, 1, none⟩ = some (.slice sa ds.length sc) := by rw [hW2]; simp
  rw [← hW2]
  have HB2 := Lib.hid hB2
  have HW2 := Lib.hid hW2
  have HSND := Lib.hid (dsound_any a ga o c gc oc l on ch W2 (HI.out.recs.below hB2) (HI.out.onn.below hB2) HI.out.cap)
  clear hB2 hW2
  (with_reducible refine HSND.out.mono ?_)
  rintro e1 w3 ⟨rfl, hb⟩
  obtain ⟨W4, hW4⟩ : ∃ x, x = w3.alloc (.map #[] 0) := ⟨_, rfl⟩
  have hB4 : Below w3.heap.size w3 W4 := hW4 ▸ A1.out w3 _
  have hz3 := hb.size
  have hz4 : w3.heap.size < W4.heap.size := by rw [hW4]; simp
  have hbw3 := HB2.out.trans (hb.mono HB2.out.size)
  have hbw4 := hbw3.trans (hB4.mono hbw3.size)
  have HB24 := Lib.hid (hb.trans (hB4.mono hz3))
  have HB4 := Lib.hid hbw4
  have hM4 : W.OwnI W4 w3.heap.size 0 (.map []) := by rw [hW4]; exact World.ownsMap_made _ _ _ _
  have HM4 := Lib.hid hM4
  have hcl := HI.out.cls.below hbw4
  rw [HCS.out] at hcl
  have hco : ∀ x ∈ cs, M.own V x = true := by rw [← HCS.out, ← HV.out]; exact M.rulesC_own
  have hcn : cs.length ≤ 1000 := by rw [← HCS.out]; exact M.rulesC_len h6 h4 HI.out.deps
  have hso : ∀ x ∈ cs, M.Sorted x := by rw [← HCS.out]; exact M.rulesC_sorted
  have hVle : V ≤ 10 := by have := HV.out; omega
  have HEX := Lib.hid (C.Extended_any ca cc cs V ga gc ch 4 W4 (by omega) hco hcn (fun x hx => by have := M.own_room (hso x hx) (hco x hx); omega) (by omega) hcl (W.cbools (HI.out.recs.bools.below hbw4)) (by have := HI.out.l2; have := HV.out; omega) (fun l' hp => by
    have h1 := HI.out.l2
    have h2 := HV.out
    have := M.un_choice (K := ds.length) (by omega) hp
    rw [h1, h2] at this
    omega))
  have HW4 := Lib.hid hW4
  clear hW4 hB4 hb hbw3 hbw4 hM4 hcl hco hso HSND
  go_wp2_with fail
  rw [← HW4.out]
  (with_reducible refine HEX.out.mono ?_)
  rintro e1 w5 ⟨xs, ax, cx, rfl, hxl, hxr, hxo, hxb⟩
  have hz5 := hxb.size
  have HXR := Lib.hid hxr
  have HXO := Lib.hid hxo
  have HB5 := Lib.hid hxb
  have HM5 := Lib.hid (show W.OwnI w5 w3.heap.size 0 (.map []) from by
    obtain ⟨es, clock, h1, h2⟩ := HM4.out
    exact ⟨es, clock, (hxb.block _ hz4).trans h1, h2⟩)
  clear hxr hxo hxb HEX HM4
  clear hmm
  go_wp2
  go_loopw [14, 15, 16, 17, 34] (fun _ _ _ _ i wr => ∃ (j n : Nat) (D : DataW Value), j ≤ xs.length ∧ i = .int .i64 j ∧ n ≤ j ∧ W.OwnI wr w3.heap.size n D ∧ W.Has l.length ds.length (xs.take j) D ∧ w5.grownBy wr (some w3.heap.size)) (fun _ _ _ _ i _ => xs.length - (intOf i).toNat)
  case atStart => exact ⟨0, 0, _, Nat.zero_le _, rfl, Nat.le_refl _, HM5.out, fun s hs => rfl, World.grownBy.refl _ _⟩
  case round =>
    obtain ⟨j, n, D, hj, rfl, hnj, hM, hH, hgr⟩ := hrel
    have hzr := hgr.size
    have hbr := (HB24.out.trans (HB5.out.mono (by omega))).grown hgr (by omega) (fun k hk => by injection hk with hk; omega)
    have hxo := W.ownR_map HXO.out HM5.out hgr
    have b5r := (hbr.cell (p := ⟨w.heap.size + 1, 1, none⟩) (show w.heap.size + 1 < W2.heap.size by omega)).trans b5
    have hsel := HI.out.sel.below (HB2.out.trans (hbr.mono HB2.out.size))
    have HM := Lib.hid hM
    have HH := Lib.hid hH
    have HGR := Lib.hid hgr
    have HBR := Lib.hid hbr
    have HSEL := Lib.hid hsel
    have hxl2 : xs.length ≤ 16 := hxl
    clear hM hH hgr hbr hsel
    by_cases hlt : j < xs.length
    · obtain ⟨x, hx⟩ : ∃ x, xs[j]? = some x := ⟨xs[j], by simp [hlt]⟩
      obtain ⟨g, a', rfl, hcell, hob⟩ := hxo.cellN hx
      have hgl : g < wr.heap.size := cell_lt hcell
      have hxV : x.length = V := ((HXR.out x).1 (List.mem_of_getElem? hx)).1
      have HX := Lib.hid hx
      have HBM := Lib.hid (hob.bools (by omega))
      clear hx hob hxo hxV
      go_wp2
      go_loop [15, 16, 17, 41] (fun s _ _ i => ∃ t : Nat, t ≤ ds.length ∧ i = .int .i64 t ∧ s = .int .i64 ((M.num ((W.hs l.length ds.length x).take t) : Nat) : Int)) (fun _ _ _ i => ds.length - (intOf i).toNat)
      case atStart => exact ⟨0, Nat.zero_le _, rfl, rfl⟩
      case round =>
        obtain ⟨t, ht, rfl, rfl⟩ := hrel
        by_cases hlk : t < ds.length
        · obtain ⟨v, hv⟩ : ∃ v : Int, v = ((l.length + t : Nat) : Int) + 1 := ⟨_, rfl⟩
          have hio : (C.M.iota l.length ds.length)[t]? = some v := by
            rw [hv]
            simp only [C.M.iota, List.getElem?_map, List.getElem?_range hlk, Option.map_some]
            congr 1
            omega
          obtain ⟨gb, go, rfl, hgl2, hgc⟩ := HSEL.out.addr (by rw [C.M.iota_length]; omega)
          have hsc := hgc t v hio
          have hsn := M.num_snoc (W.hs_at (x := x) (n := l.length) hlk)
          rw [← hv] at hsn
          have hlt2 := M.num_lt ((W.hs l.length ds.length x).take t)
          have htl : ((W.hs l.length ds.length x).take t).length = t := by rw [List.length_take]; simp [W.hs]; omega
          rw [htl] at hlt2
          obtain ⟨S, hS⟩ : ∃ S, M.num ((W.hs l.length ds.length x).take t) = S := ⟨_, rfl⟩
          rw [hS] at hlt2 hsn ⊢
          have hS8 : S < 8 := Nat.lt_of_lt_of_le hlt2 (Nat.pow_le_pow_right (n := 2) (j := 3) (by omega) (by omega))
          have hor := W.or_fin t (by omega) S hS8
          have hor2 := W.or_fin2 t (by omega) S hS8
          rw [W.or_add t (by omega) S hlt2] at hor hor2
          have HHO := Lib.hid (C.rholds_any v a' x.length x wr HBM.out)
          have HSN := Lib.hid hsn
          have HOR := Lib.hid hor
          have HOR2 := Lib.hid hor2
          have HLT2 := Lib.hid hlt2
          obtain ⟨hh, hhe⟩ : ∃ b, M.holds v x = b := ⟨_, rfl⟩
          rw [hhe] at HHO HSN
          clear hv hio hgc hsn hlt2 htl hS hor hor2 hhe
          cases hh
          · go_wp2_with (go_at_call 47; (with_reducible refine HHO.out.mono ?_); rintro e w' ⟨rfl, rfl⟩)
            go_round
            case rel => exact ⟨t + 1, by omega, by go_num, by rw [HSN.out]; simp⟩
            case measure => simp [intOf]; omega
          · have hs1 : M.num ((W.hs l.length ds.length x).take (t + 1)) = S + 2 ^ t := by rw [HSN.out]; simp
            have HS1 := Lib.hid hs1
            clear hs1
            go_wp2_with (go_at_call 47; (with_reducible refine HHO.out.mono ?_); rintro e w' ⟨rfl, rfl⟩)
            go_round
            case rel => exact ⟨t + 1, by omega, by go_num, by rw [HS1.out]; first | rw [HOR.out] | rw [HOR2.out]⟩
            case measure => simp [intOf]; omega
        · obtain rfl : t = ds.length := by omega
          have hst := W.hs_all l.length ds.length x
          obtain ⟨S, hS⟩ : ∃ S, M.num ((W.hs l.length ds.length x).take ds.length) = S := ⟨_, rfl⟩
          rw [hS] at hst ⊢
          have hSle : S ≤ 1000000 := by
            have h1 := M.num_lt ((W.hs l.length ds.length x).take ds.length)
            rw [hS] at h1
            have h2 : ((W.hs l.length ds.length x).take ds.length).length ≤ 4 := by rw [List.length_take]; omega
            have h3 : 2 ^ ((W.hs l.length ds.length x).take ds.length).length ≤ 2 ^ 4 := Nat.pow_le_pow_right (by omega) h2
            omega
          have HST := Lib.hid hst
          clear hS hst
          obtain ⟨w7, hrun7, hown7, hgr7⟩ := W.putI_run HM.out (by unfold maxLen; omega) hSle (.bool true)
          have HM7 := Lib.hid hown7
          have HG7 := Lib.hid (HGR.out.andThen hgr7 fun k hk => .inr hk)
          clear hown7 hgr7
          go_wp2
          go_roundw
          case rel => exact ⟨j + 1, n + 1, _, by omega, by go_num, by omega, HM7.out, by
            have h := W.Has.put (x := x) HH.out HM.out
            rw [← HST.out] at h
            rw [List.take_add_one, HX.out]
            exact h, HG7.out⟩
          case measure => simp [intOf]; omega
    · obtain rfl : j = xs.length := by omega
      have hH := HH.out
      rw [List.take_length] at hH
      have hxr := HXR.out
      rw [← HCS.out, ← HV.out] at hxr
      have hmany : ∀ s : Nat, s < 2 ^ ds.length → D.atKey (.int .i64 (s : Int)) (.held (.bool false)) = .held (.bool (M.okTo l on ch ds s ds.length)) := fun s hs => by
        rw [hH s hs]
        refine congrArg (fun z => DataW.held (Value.bool z)) ?_
        rw [Bool.eq_iff_iff, ← M.rules_models HI.out.l1 HI.out.l2 HI.out.how (by omega) hxr hs, List.any_eq_true]
        simp only [beq_iff_eq]
      have HMANY := Lib.hid hmany
      obtain ⟨N, hN⟩ : ∃ N, 2 ^ ds.length = N := ⟨_, rfl⟩
      have hN16 : N ≤ 16 := by rw [← hN]; exact Nat.pow_le_pow_right (n := 2) (j := 4) (by omega) h4
      obtain ⟨hw, hw2⟩ := W.pow_wrap hN hN16
      have HW := Lib.hid hw
      have HWb := Lib.hid hw2
      have HN := Lib.hid hN
      have b0r := (HBR.out.cell (p := ⟨w.heap.size, 0, none⟩) (show w.heap.size < W2.heap.size by omega)).trans b0
      have b3r := (HBR.out.cell (p := ⟨w.heap.size, 3, none⟩) (show w.heap.size < W2.heap.size by omega)).trans b3
      have hz9 : w3.heap.size < wr.heap.size := by omega
      have HBW := Lib.hid (HB2.out.trans (HBR.out.mono HB2.out.size))
      obtain ⟨w6, hw6⟩ : ∃ x, x = wr := ⟨_, rfl⟩
      subst hw6
      clear hH hxr hmany hN hw hw2 hxo HXO HM5 HB5
      go_wp2
      first | rw [HW.out] | rw [HWb.out]
      go_loopw [18, 19, 20, 21, 61] (fun _ _ _ _ i wr => ∃ s : Nat, s ≤ N ∧ i = .int .i64 s ∧ Below w6.heap.size w6 wr) (fun _ _ _ _ i _ => N - (intOf i).toNat)
      case atStart => exact ⟨0, Nat.zero_le _, rfl, Below.refl _ _⟩
      case round =>
        obtain ⟨s, hs, rfl, hbr⟩ := hrel
        rename World => w8
        have hz8 := hbr.size
        have c0 := (hbr.cell (p := ⟨w.heap.size, 0, none⟩) (show w.heap.size < w6.heap.size by omega)).trans b0r
        have c3 := (hbr.cell (p := ⟨w.heap.size, 3, none⟩) (show w.heap.size < w6.heap.size by omega)).trans b3r
        have HB8 := Lib.hid hbr
        clear hbr
        by_cases hls : s < N
        · have HOK := Lib.hid (HMANY.out s (by rw [HN.out]; exact hls))
          go_wp2
          go_loopw [19, 20, 21, 68] (fun v _ _ i wr => ∃ k : Nat, k ≤ ds.length ∧ i = .int .i64 k ∧ v = .bool (M.okTo l on ch ds s k) ∧ Below w8.heap.size w8 wr) (fun _ _ _ i _ => ds.length - (intOf i).toNat)
          case atStart => exact ⟨0, Nat.zero_le _, rfl, rfl, Below.refl _ _⟩
          case round =>
            obtain ⟨k, hk, rfl, rfl, hbr⟩ := hrel
            rename World => w9
            have hz10 := hbr.size
            have hlt9 : w.heap.size < w9.heap.size := by omega
            have HB9 := Lib.hid hbr
            have HBW9 := Lib.hid (HBW.out.trans ((HB8.out.trans (hbr.mono hz8)).mono HBW.out.size))
            have d0 := (hbr.cell (p := ⟨w.heap.size, 0, none⟩) (show w.heap.size < w8.heap.size by omega)).trans c0
            have d3 := (hbr.cell (p := ⟨w.heap.size, 3, none⟩) (show w.heap.size < w8.heap.size by omega)).trans c3
            clear hbr
            by_cases hlk : k < ds.length
            · obtain ⟨d, hd⟩ : ∃ x, ds[k]? = some x := ⟨ds[k], by simp [hlk]⟩
              obtain ⟨bb, off, ra, rc, rfl, hbl, ⟨t0, t1, t2, t3, t4, t5⟩, hsp, hhow⟩ := (HI.out.dms.below stays_RDm HBW9.out).cellsDm hd
              have hst := M.okTo_succ (l := l) (on := on) (ch := ch) (s := s) hd
              have hbit := C.bit_at s k (by omega)
              have HST := Lib.hid hst
              have HBOX := Lib.hid (A1.out w9 (Obj.cells #[.int .i64 d.how, .string d.spec.chan, .string d.spec.name, .slice ra d.spec.rows.length rc, .string d.spec.build, .int .i64 d.spec.num] 55))
              have HHO := Lib.hid (dholds_any d.how d.spec ra rc a ga c gc l ch _ (hsp.below HBOX.out) hhow ((HI.out.recs.below HBW9.out).below HBOX.out))
              rw [Q.dhold_eq] at HHO
              obtain ⟨tb, htb⟩ : ∃ b, s.testBit k = b := ⟨_, rfl⟩
              rw [htb] at hbit HST
              obtain ⟨ok, hok⟩ : ∃ b, M.okTo l on ch ds s k = b := ⟨_, rfl⟩
              rw [hok] at HST ⊢
              obtain ⟨hv, hhv⟩ : ∃ b, Q.holds l ch d = b := ⟨_, rfl⟩
              rw [hhv] at HST HHO
              clear hst hd hsp hhow htb hok hhv
              cases tb
              · have hs3 : M.okTo l on ch ds s (k + 1) = ok := by rw [HST.out]; simp
                have HS3 := Lib.hid hs3
                clear hs3
                go_wp2
                go_roundw
                case rel => exact ⟨k + 1, by omega, by go_num, by rw [HS3.out], HB9.out.trans (HBOX.out.mono hz10)⟩
                case measure => simp [intOf]; omega
              · have hs3 : M.okTo l on ch ds s (k + 1) = (ok && hv) := by rw [HST.out]; simp
                have HS3 := Lib.hid hs3
                clear hs3
                cases ok
                · go_wp2
                  go_roundw
                  case rel => exact ⟨k + 1, by omega, by go_num, by rw [HS3.out]; rfl, HB9.out.trans (HBOX.out.mono hz10)⟩
                  case measure => simp [intOf]; omega
                · go_wp2_with fail
                  (with_reducible refine HHO.out.mono ?_)
                  rintro e1 wA ⟨rfl, hbA⟩
                  have HBA := Lib.hid ((HB9.out.trans (HBOX.out.mono hz10)).trans (hbA.mono (Nat.le_trans hz10 HBOX.out.size)))
                  clear hbA
                  go_wp2
                  go_roundw
                  case rel => exact ⟨k + 1, by omega, by go_num, by rw [HS3.out]; rfl, HBA.out⟩
                  case measure => simp [intOf]; omega
            · obtain rfl : k = ds.length := by omega
              have hm9 : W.OwnI w9 w3.heap.size n D := by
                obtain ⟨es, clock, h1, h2⟩ := HM.out
                exact ⟨es, clock, (HB9.out.block _ (by omega)).trans ((HB8.out.block _ hz9).trans h1), h2⟩
              have hlr := W.lookI_run hm9 (s := s) (by omega) HOK.out
              obtain ⟨ok, hok⟩ : ∃ b, M.okTo l on ch ds s ds.length = b := ⟨_, rfl⟩
              rw [hok] at hlr ⊢
              have hnn : (ok != ok) = false := by cases ok <;> rfl
              clear hm9 hok
              go_wp2
              go_roundw
              case rel => exact ⟨s + 1, by omega, by go_num, HB8.out.trans (HB9.out.mono hz8)⟩
              case measure => simp [intOf]; omega
        · go_wp2
          go_ret
          exact ⟨rfl, HBW.out.trans (HB8.out.mono HBW.out.size)⟩
end Go.Proofs.YtnmcajinaigcjaaGreatDoor
