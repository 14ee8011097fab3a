/- The walk of haversacklaw15.CnfGates. -/
import Derived.Test.YtdppmmimemmedaaDoorGatesSt
import Derived.Test.YtdppmmimemmedaaDoorBools
import Derived.Test.YtdppmmimemmedaaDoorOnesLaw
namespace Go.Proofs.YtdppmmimemmedaaDoor
open Go.RowKit Go.Shelf

/-- operations: kind, number, literals -/
structure Ops (w : World) (a : Option Addr) (os : List (Int × Int × List Int)) : Prop where
  addr : 0 < os.length → ∃ b off, a = some ⟨b, off, none⟩ ∧ b < w.heap.size ∧ ∀ i o, os[i]? = some o →
    w.cell? ⟨b, off + i * 3, none⟩ = some (.int .i64 o.1) ∧ w.cell? ⟨b, off + i * 3 + 1, none⟩ = some (.int .i64 o.2.1) ∧
    ∃ la lc, w.cell? ⟨b, off + i * 3 + 2, none⟩ = some (.slice la o.2.2.length lc) ∧ Ints w la o.2.2 ∧ o.2.2.length ≤ lc ∧ (la = none → lc = 0) ∧ ∀ ad, eff la o.2.2 = some ad → ad.block < w.heap.size
  len : os.length ≤ 17592186043904
/-- at the head of the first loop's rounds -/
structure GS (w : World) (p V : Nat) (gs : List M.G) (W : World) (ak : Option Addr) (ck : Nat) (al : Option Addr) (cl : Nat) : Prop where
  below : Below w.heap.size w W
  kinds : OwnI W w.heap.size ak ck (gs.map (·.1))
  lists : OwnL (Zof ak) W w.heap.size al cl (gs.map (·.2))
  fm : ∃ a c, Fm (Zof ak) W w.heap.size p (V + gs.length) (M.gatesC V gs) a c
  ok : M.Gok V gs
  lens : ∀ g ∈ gs, g.2.length ≤ 10
theorem few_fits {kd : Int} (hk : 1 ≤ kd ∧ kd ≤ 4) (zs : List Int) : M.Fits (kd, M.few kd zs) := by
  refine ⟨fun h => ?_, fun h1 h2 h3 => ?_⟩
  · have h' : kd = 3 := h
    simp [M.few, h', M.taken_length]
  · have h1' : kd ≠ 1 := h1
    have h2' : kd ≠ 2 := h2
    have h3' : kd ≠ 3 := h3
    have h4 : kd = 4 := by omega
    simp [M.few, h4, M.taken_length]
theorem few_len (kd : Int) (zs : List Int) (h : zs.length ≤ 10) : (M.few kd zs).length ≤ 10 := by
  unfold M.few
  split
  · rw [M.taken_length]; omega
  · split
    · rw [M.taken_length]; omega
    · exact h
theorem GS.start {w W : World} {p V : Nat} {a : Option Addr} {c : Nat} (hb : Below w.heap.size w W) (hF : Fm NoX W w.heap.size p V [] a c) :
    GS w p V [] ((W.alloc (.cells #[] 3)).alloc (.cells #[] 27)) (some ⟨W.heap.size, 0, none⟩) 0 (some ⟨W.heap.size + 1, 0, none⟩) 0 := by
  have hs := hb.size
  have hb2 : Below W.heap.size W ((W.alloc (.cells #[] 3)).alloc (.cells #[] 27)) := below_alloc (below_alloc (Below.refl _ _) _) _
  have hl := OwnL.made0 (Z := Zof (some ⟨W.heap.size, 0, none⟩)) (W.alloc (.cells #[] 3)) w.heap.size (by simp; omega) (by rintro k ⟨ad, e1, e2⟩; cases e1; simp at e2 ⊢; omega)
  rw [show (W.alloc (.cells #[] 3)).heap.size = W.heap.size + 1 from by simp] at hl
  refine ⟨below_next hb hb2, (OwnI.made0 W _ hs).alloc _, hl, ⟨a, c, ?_⟩, fun i g h => by simp at h, fun g h => by simp at h⟩
  exact hF.turn hb2.size (fun k hk _ _ => hb2.block k hk) (by rintro k ⟨ad, e1, e2⟩; cases e1; simp at e2; exact .inr (by omega)) (by rintro k ⟨ad, e1, e2⟩; cases e1; simp at e2 ⊢; omega)
theorem GS.toGR {w W : World} {p V : Nat} {gs : List M.G} {ak al : Option Addr} {ck cl : Nat} (h : GS w p V gs W ak ck al cl) (kd n : Int) (la : Option Addr) (lc : Nat) (zs : List Int) (hz : Ints W la zs) (hb : ∀ ad, eff la zs = some ad → ad.block < w.heap.size) (hc : zs.length ≤ lc ∧ (la = none → lc = 0) ∧ zs.length ≤ 1000000) :
    GR w p (V + gs.length) (M.gatesC V gs) W.heap.size kd n la lc zs (W.alloc (.cells #[.int .i64 kd, .int .i64 n, .slice la zs.length lc] 34)) ak ck (gs.map (·.1)) al cl (gs.map (·.2)) none [] := by
  have hb2 : Below W.heap.size W (W.alloc (.cells #[.int .i64 kd, .int .i64 n, .slice la zs.length lc] 34)) := below_alloc (Below.refl _ _) _
  obtain ⟨a, c, hF⟩ := h.fm
  exact ⟨below_next h.below hb2, by show (W.heap.push _)[W.heap.size]? = _; simp, h.kinds.below hb2, h.lists.below h.below.size hb2, ⟨a, c, hF.below hb2⟩, hz.below hb2, hb, hc, (fun _ _ e => by cases e), (fun _ _ _ e => by simp at e)⟩
theorem GR.toGS {w W : World} {p V Bo : Nat} {gs : List M.G} {ak al la : Option Addr} {ck cl lc : Nat} {kd n : Int} {zs : List Int} {R : Option (Option Addr × Nat)} {T : List (Nat × Value × TypeId)}
    (h : GR w p (V + gs.length + 1) ((M.gateC kd ((V + gs.length + 1 : Nat) : Int) (M.few kd zs)).foldl M.addC (M.gatesC V gs)) Bo kd n la lc zs W ak ck (gs.map (·.1) ++ [kd]) al cl (gs.map (·.2) ++ [M.few kd zs]) R T)
    (hok : M.Gok V gs) (hl : ∀ g ∈ gs, g.2.length ≤ 10) (hk : 1 ≤ kd ∧ kd ≤ 4) (hz : zs.length ≤ 10) (hown : M.own (V + gs.length) (M.few kd zs) = true) : GS w p V (gs ++ [(kd, M.few kd zs)]) W ak ck al cl := by
  obtain ⟨a, c, hF⟩ := h.fm
  refine ⟨h.below, by simpa using h.kinds, by simpa using h.lists, ⟨a, c, ?_⟩, fun i g hg => ?_, fun g hg => ?_⟩
  · rw [M.gatesC_snoc]; simpa [Nat.add_assoc] using hF
  · by_cases hi : i < gs.length
    · rw [List.getElem?_append_left hi] at hg; exact hok i g hg
    · have hi2 : i = gs.length := by
        rcases Nat.lt_or_ge i (gs ++ [(kd, M.few kd zs)]).length with h' | h'
        · simp at h'; omega
        · rw [List.getElem?_eq_none h'] at hg; cases hg
      subst hi2
      simp at hg; subst hg
      exact ⟨hown, few_fits hk zs⟩
  · rcases List.mem_append.1 hg with hg | hg
    · exact hl g hg
    · simp at hg; subst hg; exact few_len kd zs hz
theorem GR.back {w W : World} {p V Bo : Nat} {gs : List M.G} {ak al la : Option Addr} {ck cl lc : Nat} {kd n : Int} {zs : List Int} {R : Option (Option Addr × Nat)} {T : List (Nat × Value × TypeId)}
    (h : GR w p (V + gs.length) (M.gatesC V gs) Bo kd n la lc zs W ak ck (gs.map (·.1)) al cl (gs.map (·.2)) R T) (hok : M.Gok V gs) (hl : ∀ g ∈ gs, g.2.length ≤ 10) : GS w p V gs W ak ck al cl :=
  ⟨h.below, h.kinds, h.lists, h.fm, hok, hl⟩
theorem Ops.at {w W : World} {a : Option Addr} {os : List (Int × Int × List Int)} (h : Ops w a os) (hb : Below w.heap.size w W) {k : Nat} (hk : k < os.length) :
    ∃ b off kd n zs la lc, a = some ⟨b, off, none⟩ ∧ os[k]? = some (kd, n, zs) ∧ W.cell? ⟨b, off + k * 3, none⟩ = some (.int .i64 kd) ∧ W.cell? ⟨b, off + k * 3 + 1, none⟩ = some (.int .i64 n) ∧ W.cell? ⟨b, off + k * 3 + 2, none⟩ = some (.slice la zs.length lc) ∧ Ints W la zs ∧ zs.length ≤ lc ∧ (la = none → lc = 0) ∧ ∀ ad, eff la zs = some ad → ad.block < w.heap.size := by
  obtain ⟨b, off, rfl, hlt, hc⟩ := h.addr (by omega)
  obtain ⟨c1, c2, la, lc, c3, c4, c5, c6, c7⟩ := hc k os[k] (List.getElem?_eq_getElem hk)
  have hcl : ∀ {i v}, w.cell? ⟨b, i, none⟩ = some v → W.cell? ⟨b, i, none⟩ = some v := fun {i v} e => (hb.cell (p := ⟨b, i, none⟩) hlt).trans e
  exact ⟨b, off, os[k].1, os[k].2.1, os[k].2.2, la, lc, rfl, List.getElem?_eq_getElem hk, hcl c1, hcl c2, hcl c3, c4.below hb, c5, c6, c7⟩
set_option maxHeartbeats 8000000 in
set_option maxRecDepth 100000 in
theorem gatesLaw (x : Int) (b : Option Addr) (d : Nat) (os : List (Int × Int × List Int)) (ea : Addr) (w : World) (hx : I64 x) (ho : Ops w b os) (hE : w.cell? ⟨1, 0, none⟩ = some (.iface 153 (.pointer (some ea)))) :
    Calls Tryd.prog 3 #[.int .i64 x, .slice b os.length d] w fun e w' => e = .returned (.bool true) ∧ Below w.heap.size w w' := by
  have hx1 := hx.lo
  have hx2 := hx.hi
  have hol := ho.len
  have HO := Lib.hid ho
  have HE := Lib.hid hE
  clear hx ho hE
  by_cases hlen : os.length ≤ 6
  rotate_left
  · have hd : decide ((6 : Int) < (os.length : Int)) = true := by simp; omega
    go_enter Tryd.func3, Tryd.ntmps3
    go_wp2_with fail
    refine (alive15 w).mono ?_
    rintro e W0 ⟨rfl, hb0⟩
    have HB0 := Lib.hid hb0
    clear hb0
    go_wp2
    go_ret
    exact ⟨rfl, HB0.out⟩
  have hd : decide ((6 : Int) < (os.length : Int)) = false := by simp; omega
  go_enter Tryd.func3, Tryd.ntmps3
  go_wp2_with fail
  refine (alive15 w).mono ?_
  rintro e W0 ⟨rfl, hb0⟩
  have HB0 := Lib.hid hb0
  clear hb0
  obtain ⟨V, hV, hV1, hV8⟩ := mod_val x 8 (by omega) (by omega)
  have HV := Lib.hid hV
  clear hV
  go_wp2_with fail
  rw [HV.out]
  clear HV hx1 hx2
  refine (new_any _).mono ?_
  rintro e W1 ⟨rfl, hW1⟩
  have hF1 : Fm NoX W1 w.heap.size W0.heap.size 0 [] none 0 := by rw [← hW1]; exact Fm.new W0 _ HB0.out.size (NoX.lt _)
  have hb1 : Below w.heap.size w W1 := by rw [← hW1]; exact below_alloc HB0.out _
  have HB1 := Lib.hid hb1
  have hm := many_ok w.heap.size W0.heap.size 0 V [] none 0 W1 hF1 (by omega) (by omega) hb1.size
  have HM := Lib.hid hm
  clear hW1 hb1 hF1 hm
  go_wp2_with fail
  refine HM.out.mono ?_
  rintro e W2 ⟨rfl, hF2, hO2, hA2⟩
  have hge : w.heap.size ≤ W0.heap.size := HB0.out.size
  have hb2 : Below w.heap.size w W2 := HB1.out.trans (hA2.below hge HB1.out.size)
  rw [Nat.zero_add] at hF2
  have hgs := GS.start hb2 hF2
  have HGS := Lib.hid hgs
  clear hF2 hO2 hA2 hb2 HM hgs
  generalize W0.heap.size = p at *
  go_wp2
  go_loopw [8, 9, 11, 12, 13, 43] (fun v8 v9 _ _ _ i wr => ∃ (k : Nat) (gs : List M.G) (ak : Option Addr) (ck : Nat) (al : Option Addr) (cl : Nat), k ≤ os.length ∧ i = .int .i64 k ∧ v8 = .slice ak gs.length ck ∧ v9 = .slice al gs.length cl ∧ gs.length ≤ k ∧ GS w p V gs wr ak ck al cl) (fun _ _ _ _ _ i _ => os.length - (intOf i).toNat)
  case atStart => exact ⟨0, [], _, 0, _, 0, Nat.zero_le _, rfl, rfl, rfl, Nat.le_refl _, HGS.out⟩
  case round =>
    obtain ⟨k, gs, ak, ck, al, cl, hk, rfl, rfl, rfl, hgk, hgs⟩ := hrel
    by_cases hlt : k < os.length
    · obtain ⟨bb, off, kd, n, zs, la, lc, rfl, hok, hc0, hc1, hc2, hz, hcap, hnone, hlb⟩ := HO.out.at hgs.below hlt
      have HB := Lib.hid hgs.below
      have hzl := hz.len
      by_cases hbad : kd < 1 ∨ 4 < kd ∨ 10 < zs.length
      · have HB2 := Lib.hid (below_alloc HB.out (.cells #[.int .i64 kd, .int .i64 n, .slice la zs.length lc] 34))
        clear hgs hok hz hcap hnone hlb
        by_cases hb1 : kd < 1
        · have t1 : decide (kd < 1) = true := by simpa using hb1
          go_wp2
          go_ret
          exact ⟨rfl, HB2.out⟩
        · have t1 : decide (kd < 1) = false := by simpa using hb1
          by_cases hb2 : 4 < kd
          · have t2 : decide (4 < kd) = true := by simpa using hb2
            go_wp2
            go_ret
            exact ⟨rfl, HB2.out⟩
          · have t2 : decide (4 < kd) = false := by simpa using hb2
            have t3 : decide ((10 : Int) < (zs.length : Int)) = true := by simp; omega
            go_wp2
            go_ret
            exact ⟨rfl, HB2.out⟩
      · have hk14 : 1 ≤ kd ∧ kd ≤ 4 := by omega
        have hz10 : zs.length ≤ 10 := by omega
        have t1 : decide (kd < 1) = false := by simp; omega
        have t2 : decide (4 < kd) = false := by simp; omega
        have t3 : decide ((10 : Int) < (zs.length : Int)) = false := by simp; omega
        have hGR0 := hgs.toGR kd n la lc zs hz hlb ⟨hcap, hnone, by omega⟩
        have HOK := Lib.hid hgs.ok
        have HLE := Lib.hid hgs.lens
        have hvl : V + gs.length < 20000 := by omega
        have hcsl : (M.gatesC V gs).length + ((M.few kd zs).length + 6) ≤ 200000 := by
          have h1 := M.gatesC_length (V := V) hgs.lens
          have h2 := few_len kd zs hz10
          have h3 : gs.length * 16 ≤ 6 * 16 := Nat.mul_le_mul_right _ (by omega)
          omega
        have HCS := Lib.hid hcsl
        have hfit := few_fits hk14 zs
        have HFIT := Lib.hid hfit
        have HOKK := Lib.hid hok
        clear hgs hok hcsl hfit hbad hz hcap hnone hlb
        cases hown : M.own (V + gs.length) (M.few kd zs)
        · have HOWN := Lib.hid hown
          clear hown
          go_wp2
          go_region_held3 (fun w' => w'.cell? ⟨wr.heap.size, 0, none⟩ = some (.int .i64 kd) ∧ w'.cell? ⟨wr.heap.size, 1, none⟩ = some (.int .i64 n) ∧ w'.cell? ⟨wr.heap.size, 2, none⟩ = some (.slice la zs.length lc))
            (first | exact hGR.cells | exact hGR0.drew.cells | go_keep)
            (first
            | (go_at_call 18; refine (hGR0.drew.callFew).mono ?_; rintro e w3 ⟨a3, c3, rfl, hGR⟩)
            | (go_at_call 17; refine (hGR.callBad hk14 HFIT.out HOWN.out HE.out).mono ?_; rintro e w4 ⟨rfl, hGR⟩))
          all_goals
            go_wp2
            go_roundw
            case rel => exact ⟨k + 1, gs, ak, ck, al, cl, by omega, by go_num, rfl, rfl, by omega, hGR.back HOK.out HLE.out⟩
            case measure => simp [intOf]; omega
        · have HOWN := Lib.hid hown
          clear hown
          go_wp2
          go_region_held3 (fun w' => w'.cell? ⟨wr.heap.size, 0, none⟩ = some (.int .i64 kd) ∧ w'.cell? ⟨wr.heap.size, 1, none⟩ = some (.int .i64 n) ∧ w'.cell? ⟨wr.heap.size, 2, none⟩ = some (.slice la zs.length lc))
            (first | exact hGR.cells | exact hGR0.drew.cells | go_keep)
            (first
            | (go_at_call 18; refine (hGR0.drew.callFew).mono ?_; rintro e w3 ⟨a3, c3, rfl, hGR⟩)
            | (go_at_call 17; refine (hGR.callOk hk14 HFIT.out HOWN.out hvl HCS.out).mono ?_; rintro e w4 ⟨rfl, hGR⟩))
          have hGR4 := hGR
          clear hGR hGR0
          go_wp2
          go_region_held3 (fun w' => w'.cell? ⟨wr.heap.size, 0, none⟩ = some (.int .i64 kd) ∧ w'.cell? ⟨wr.heap.size, 1, none⟩ = some (.int .i64 n) ∧ w'.cell? ⟨wr.heap.size, 2, none⟩ = some (.slice la zs.length lc))
            (first | exact hGR.cells | exact (hGR.allocT _ _).cells | exact ((hGR.allocT _ _).allocT _ _).cells | exact hGR4.drew.cells | exact (hGR4.allocT _ _).drew.cells | exact ((hGR4.allocT _ _).allocT _ _).drew.cells | go_keep)
            (first
            | (apply GR.stepK hGR (s := .tmp 72) (x := .tmp 75); exact rfl; exact rfl; exact rfl; exact rfl; (focus (simp; done)); (focus (simp; done)); (omega); intro ak5 ck5 w5 hGR)
            | (apply GR.stepK (hGR.allocT _ _) (s := .tmp 72) (x := .tmp 75); exact rfl; exact rfl; exact rfl; exact rfl; (focus (simp; done)); (focus (simp; done)); (omega); intro ak5 ck5 w5 hGR)
            | (apply GR.stepK ((hGR.allocT _ _).allocT _ _) (s := .tmp 72) (x := .tmp 75); exact rfl; exact rfl; exact rfl; exact rfl; (focus (simp; done)); (focus (simp; done)); (omega); intro ak5 ck5 w5 hGR)
            | (apply GR.stepK hGR4.drew (s := .tmp 72) (x := .tmp 75); exact rfl; exact rfl; exact rfl; exact rfl; (focus (simp; done)); (focus (simp; done)); (omega); intro ak5 ck5 w5 hGR)
            | (apply GR.stepK (hGR4.allocT _ _).drew (s := .tmp 72) (x := .tmp 75); exact rfl; exact rfl; exact rfl; exact rfl; (focus (simp; done)); (focus (simp; done)); (omega); intro ak5 ck5 w5 hGR)
            | (apply GR.stepK ((hGR4.allocT _ _).allocT _ _).drew (s := .tmp 72) (x := .tmp 75); exact rfl; exact rfl; exact rfl; exact rfl; (focus (simp; done)); (focus (simp; done)); (omega); intro ak5 ck5 w5 hGR)
            | (apply GR.stepL hGR (s := .tmp 77) (x := .tmp 80); exact rfl; exact rfl; exact rfl; exact rfl; (focus (simp; done)); (focus (simp; done)); (omega); intro al6 cl6 w6 hGR)
            | (apply GR.stepL (hGR.allocT _ _) (s := .tmp 77) (x := .tmp 80); exact rfl; exact rfl; exact rfl; exact rfl; (focus (simp; done)); (focus (simp; done)); (omega); intro al6 cl6 w6 hGR)
            | (apply GR.stepL ((hGR.allocT _ _).allocT _ _) (s := .tmp 77) (x := .tmp 80); exact rfl; exact rfl; exact rfl; exact rfl; (focus (simp; done)); (focus (simp; done)); (omega); intro al6 cl6 w6 hGR)
            | (apply GR.stepL hGR4.drew (s := .tmp 77) (x := .tmp 80); exact rfl; exact rfl; exact rfl; exact rfl; (focus (simp; done)); (focus (simp; done)); (omega); intro al6 cl6 w6 hGR)
            | (apply GR.stepL (hGR4.allocT _ _).drew (s := .tmp 77) (x := .tmp 80); exact rfl; exact rfl; exact rfl; exact rfl; (focus (simp; done)); (focus (simp; done)); (omega); intro al6 cl6 w6 hGR)
            | (apply GR.stepL ((hGR4.allocT _ _).allocT _ _).drew (s := .tmp 77) (x := .tmp 80); exact rfl; exact rfl; exact rfl; exact rfl; (focus (simp; done)); (focus (simp; done)); (omega); intro al6 cl6 w6 hGR)
            | (go_at_call 18; refine (GR.callFew hGR).mono ?_; rintro e w7 ⟨a7, c7, rfl, hGR⟩)
            | (go_at_call 18; refine (GR.callFew (hGR.allocT _ _)).mono ?_; rintro e w7 ⟨a7, c7, rfl, hGR⟩)
            | (go_at_call 18; refine (GR.callFew ((hGR.allocT _ _).allocT _ _)).mono ?_; rintro e w7 ⟨a7, c7, rfl, hGR⟩)
            | (go_at_call 18; refine (GR.callFew hGR4.drew).mono ?_; rintro e w7 ⟨a7, c7, rfl, hGR⟩)
            | (go_at_call 18; refine (GR.callFew (hGR4.allocT _ _).drew).mono ?_; rintro e w7 ⟨a7, c7, rfl, hGR⟩)
            | (go_at_call 18; refine (GR.callFew ((hGR4.allocT _ _).allocT _ _).drew).mono ?_; rintro e w7 ⟨a7, c7, rfl, hGR⟩))
          all_goals
            go_wp2
            go_roundw
            case rel =>
              have hfin := hGR.toGS HOK.out HLE.out hk14 hz10 HOWN.out
              exact ⟨k + 1, gs ++ [(kd, M.few kd zs)], _, _, _, _, by omega, by go_num, by simp, by simp, by simp; omega, hfin⟩
            case measure => simp [intOf]; omega
    · have hk2 : k = os.length := by omega
      obtain ⟨fa, fc, hF⟩ := hgs.fm
      have hgl : gs.length ≤ 6 := by omega
      have hok := hgs.ok
      have hVg : V + gs.length ≤ 20000 := by omega
      have HS1 := Lib.hid (fun (m : List Bool) (hm : m.length = V) => M.gates_hold hok hVg m hm)
      have HS2 := Lib.hid (fun (m : List Bool) (hm : m.length = V) (i : Nat) (hi : i < gs.length) (b : Bool) (hb : (M.ext m gs)[V + i]? = some b) => M.gates_flip hok hVg m hm i hi b hb)
      have hcl := clauses_any _ _ _ _ fa fc wr hF (NoX.lt wr)
      have hcsl := hF.len
      have HCL := Lib.hid hcl
      have HF := Lib.hid hF
      have HGS2 := Lib.hid hgs
      clear hgs hF hcl hok HGS hk2
      generalize M.gatesC V gs = cs at *
      go_wp2_with fail
      refine HCL.out.mono ?_
      rintro e W4 ⟨rfl, hO4, hb4⟩
      have HB4 := Lib.hid (below_next HGS2.out.below hb4)
      obtain ⟨N, hN⟩ : ∃ N, N = 2 ^ V := ⟨_, rfl⟩
      have hmod := models_any V N W4 (by omega) hN
      have hNle : N ≤ 256 := by rw [hN]; exact Nat.le_trans (Nat.pow_le_pow_right (by omega) (show V ≤ 8 by omega)) (by decide)
      have HMOD := Lib.hid hmod
      have HO4 := Lib.hid hO4
      have HB4' := Lib.hid hb4
      clear hO4 hb4 hmod hN HCL
      go_wp2_with fail
      refine HMOD.out.mono ?_
      rintro e W5 ⟨am, cm, rfl, hR5, hb5⟩
      have hb45 := below_next HB4'.out hb5
      have HB5 := Lib.hid (below_next HB4.out hb5)
      have HK5 := Lib.hid (HGS2.out.kinds.below hb45)
      have HL5 := Lib.hid (HGS2.out.lists.below HGS2.out.below.size hb45)
      have HC5 := Lib.hid ((HO4.out.cls hcsl).below hb5)
      have hF5 := HF.out.below hb45
      have HF5 := Lib.hid hF5
      have HR5 := Lib.hid hR5
      clear hb45 hb5 hR5 hF5 HMOD HB4 HB4' HO4 HF HGS2
      go_wp2
      go_loopw [16, 17, 18, 19, 88] (fun _ _ _ _ i W => ∃ j : Nat, j ≤ N ∧ i = .int .i64 j ∧ Below W5.heap.size W5 W) (fun _ _ _ _ i _ => N - (intOf i).toNat)
      case atStart => exact ⟨0, Nat.zero_le _, rfl, Below.refl _ _⟩
      case round =>
        obtain ⟨j, hj, rfl, hbj⟩ := hrel
        have HBJ := Lib.hid hbj
        by_cases hjl : j < N
        · obtain ⟨m, hm⟩ : ∃ m, (M.models V N)[j]? = some m := ⟨_, List.getElem?_eq_getElem (by rw [M.models_length]; exact hjl)⟩
          have hmV : m.length = V := by
            have : m = M.model V j := by simpa [M.models, hjl] using hm.symm
            rw [this, M.model_length]
          obtain ⟨g, a1, rfl, hcm, hBm⟩ := (HR5.out.below hbj).cellN hm
          rw [hmV] at hcm hBm
          have hne1 : a1 ≠ none := by
            rcases hBm.parts with ⟨_, _, e⟩ | ⟨g', cur, e, _⟩
            · rw [e] at hmV; simp at hmV; omega
            · rw [e]; exact (fun h => by cases h)
          have hgrow : GrowB wr W5.heap.size a1 V m := .inl ⟨hmV.symm, hne1, hBm.bools (by omega)⟩
          have HGROW := Lib.hid hgrow
          have HMV := Lib.hid hmV
          clear hm hBm hgrow hbj hmV hne1
          go_wp2
          obtain ⟨wo, rfl⟩ : ∃ wo : World, wo = wr := ⟨_, rfl⟩
          go_loopw [16, 17, 94] (fun v16 _ i W => ∃ (t : Nat) (a' : Option Addr) (c' : Nat), t ≤ gs.length ∧ i = .int .i64 t ∧ v16 = .slice a' (V + t) c' ∧ GrowB W W5.heap.size a' c' (M.ext m (gs.take t)) ∧ Below W5.heap.size W5 W) (fun _ _ i _ => gs.length - (intOf i).toNat)
          case atStart => exact ⟨0, a1, V, Nat.zero_le _, rfl, rfl, HGROW.out, HBJ.out⟩
          case round =>
            obtain ⟨t, a2, c2, ht, rfl, rfl, hG, hbt⟩ := hrel
            have hEl : (M.ext m (gs.take t)).length = V + t := by rw [M.ext_length, HMV.out, List.length_take, Nat.min_eq_left ht]
            have HBT := Lib.hid hbt
            have HG := Lib.hid hG
            have HEL := Lib.hid hEl
            have hszt := hbt.size
            by_cases htl : t < gs.length
            · obtain ⟨kd, zs, hgt⟩ : ∃ kd zs, gs[t]? = some (kd, zs) := ⟨gs[t].1, gs[t].2, List.getElem?_eq_getElem htl⟩
              have hkp := (HK5.out.below hbt).parts
              obtain ⟨gk, rfl⟩ : ∃ gk, ak = some ⟨gk, 0, none⟩ := by
                rcases hkp with ⟨_, _, e⟩ | ⟨gk, _, e, _⟩
                · simp at e; subst e; simp at htl
                · exact ⟨gk, e⟩
              have hck := (HK5.out.below hbt).cell (i := t) (z := kd) (by rw [List.getElem?_map, hgt]; rfl)
              obtain ⟨gl, la, lc, rfl, hcl, hz⟩ := (HL5.out.below (by have := HB5.out.size; omega) hbt).cell (i := t) (x := zs) (by rw [List.getElem?_map, hgt]; rfl)
              have hgk5 : gk < W5.heap.size := World.block_lt_of_cell? W5 _ (HK5.out.cell (i := t) (z := kd) (by rw [List.getElem?_map, hgt]; rfl))
              have hgl5 : gl < W5.heap.size := by
                obtain ⟨_, cur, hc⟩ := HL5.out.row _ rfl
                exact (Array.getElem?_eq_some_iff.1 hc).1
              have hB := hG.bools (by rw [hEl]; omega)
              have hs := says_any kd la lc zs a2 c2 (M.ext m (gs.take t)) wr.drew (hz.below ((Below.refl _ _).drew)) (hB.below ((Below.refl _ _).drew))
              rw [hEl] at hs
              have HS := Lib.hid hs
              have HGT := Lib.hid hgt
              have hti : (t : Int) < (gs.length : Int) := by omega
              generalize hbit : M.says kd zs (M.ext m (gs.take t)) = bit at *
              have HBIT := Lib.hid hbit
              clear hkp hz hB hs hG hbt hgt hEl hbit
              go_wp2
              go_region_held3 (fun w' => w'.cell? ⟨gk, t, none⟩ = some (.int .i64 kd) ∧ w'.cell? ⟨gl, t, none⟩ = some (.slice la zs.length lc))
                (first | exact ⟨hck9, hcl9⟩ | go_keep)
                (first
                | (go_at_call 21; refine HS.out.mono ?_; rintro e w' ⟨rfl, rfl⟩)
                | (apply step_append_Bool1 (HG.out.below ((below_alloc (Below.refl _ _) (.cells #[.bool bit] 4)).drew)) (s := .tmp 97) (x := .tmp 108) (ad := ⟨wr.heap.size, 0, none⟩) (z := bit); exact rfl; exact rfl; exact rfl; exact HEL.out; exact rfl; (focus (simp; done)); (omega); (focus (simp; omega)); intro a9 c9 w9 hO9 hb9; have hbb : Below W5.heap.size wr w9 := (((Below.refl _ wr).alloc hszt _).drew).trans hb9; have hck9 := (hbb.cell (p := ⟨gk, t, none⟩) hgk5).trans hck; have hcl9 := (hbb.cell (p := ⟨gl, t, none⟩) hgl5).trans hcl; have HO9 := Lib.hid hO9; have HBB := Lib.hid hbb; clear hO9 hb9 hbb))
              all_goals
                go_wp2
                go_roundw
                case rel =>
                  refine ⟨t + 1, a9, c9, by omega, by go_num, by rw [Nat.add_assoc], .inr ?_, HBT.out.trans HBB.out⟩
                  have e : gs.take (t + 1) = gs.take t ++ [(kd, zs)] := by rw [List.take_add_one, HGT.out]; rfl
                  rw [e, M.ext_snoc]
                  show OwnB _ _ _ _ (_ ++ [M.says kd zs (M.ext m (gs.take t))])
                  rw [HBIT.out]
                  exact HO9.out
                case measure => simp [intOf]; omega
            · obtain rfl : t = gs.length := by omega
              have hfull : gs.take gs.length = gs := List.take_of_length_le (Nat.le_refl _)
              rw [hfull] at hEl hG
              have hB := hG.bools (by rw [hEl]; omega)
              obtain ⟨ad2, rfl⟩ : ∃ ad2, a2 = some ad2 := by
                obtain ⟨b', off', e, _⟩ := hB.addr (by rw [hEl]; omega)
                exact ⟨_, e⟩
              have hC := HC5.out.below hbt
              have hall := rall_any _ cs.length cs (some ad2) c2 (M.ext m gs) wr hC hB
              rw [hEl, HS1.out m HMV.out] at hall
              have HALL := Lib.hid hall
              have HBl := Lib.hid hB
              have HC := Lib.hid hC
              have HELg := Lib.hid hEl
              clear hfull hall hB hC hEl hG HEL HG hbt htl
              go_wp2_with fail
              refine HALL.out.mono ?_
              rintro e w6 ⟨rfl, rfl⟩
              clear HALL
              go_wp2
              obtain ⟨w6, rfl⟩ : ∃ w6 : World, w6 = wr := ⟨_, rfl⟩
              go_loopw [18, 19, 117] (fun _ _ i W => ∃ t : Nat, t ≤ gs.length ∧ i = .int .i64 t ∧ Below w6.heap.size w6 W) (fun _ _ i _ => gs.length - (intOf i).toNat)
              case atStart => exact ⟨0, Nat.zero_le _, rfl, Below.refl _ _⟩
              case round =>
                obtain ⟨t, ht, rfl, hbt⟩ := hrel
                have HBT2 := Lib.hid hbt
                by_cases htl : t < gs.length
                · have hBr := HBl.out.below hbt
                  have hBA := hBr.below (below_alloc (Below.refl _ _) (.cells #[] 4))
                  have HBA := Lib.hid hBA
                  have HELr := HELg
                  clear hBA hbt
                  have hO0 := OwnB.made0 wr wr.heap.size (Nat.le_refl _)
                  have HO0 := Lib.hid hO0
                  clear hO0 hBr
                  obtain ⟨b, hb⟩ : ∃ b, (M.ext m gs)[V + t]? = some b := ⟨_, List.getElem?_eq_getElem (by rw [HELg.out]; omega)⟩
                  have HSF := Lib.hid (HS2.out m HMV.out t htl b hb)
                  have HBb := Lib.hid hb
                  clear hb
                  have i1 : (0 : Int) ≤ (V : Int) + (t : Int) := by omega
                  have i2 : (V : Int) + (t : Int) < (V : Int) + (gs.length : Int) := by omega
                  have i3 : V + t < V + gs.length := by omega
                  go_wp2_with (at_builtin; refine wpList_append_Bools rfl (.tmp 120) (.tmp 121) rfl wr.heap.size _ _ _ [] rfl rfl HO0.out ad2 _ _ (M.ext m gs) rfl HELg.out HBA.out (by omega) (by simp) ?_; intro a7 c7 w7 hO7 hB7; obtain ⟨g7, rfl⟩ : ∃ g7, a7 = some ⟨g7, 0, none⟩ := (by rcases hO7.parts with ⟨_, _, e⟩ | ⟨g7, _, e, _⟩; (have h0 := HELg.out; simp at e; rw [e] at h0; simp at h0; omega); exact ⟨g7, e⟩); have hc7 := hO7.cell (i := V + t) (z := b) HBb.out; have hf7 := hO7.frozen (V + t); have HO7 := Lib.hid hO7; have HB7 := Lib.hid (put_below1 hB7); clear hO7 hB7)
                  have hO8 := OwnB.stored (show OwnB w7 wr.heap.size (some ⟨g7, 0, none⟩) c7 (M.ext m gs) from HO7.out) (V + t) (!b)
                  have hg7 : wr.heap.size ≤ g7 := by
                    rcases HO7.out.parts with ⟨e, _⟩ | ⟨g', _, e, h', _⟩
                    · cases e
                    · cases e; exact h'
                  have hb8 : Below wr.heap.size wr (w7.setCell ⟨g7, V + t, none⟩ (.bool (!b))) := HB7.out.setCell (p := ⟨g7, V + t, none⟩) hg7 _
                  have hb8' := below_next HBT2.out hb8
                  have hall := rall_any _ cs.length cs (some ⟨g7, 0, none⟩) c7 ((M.ext m gs).set (V + t) (!b)) (w7.setCell ⟨g7, V + t, none⟩ (.bool (!b))) (HC.out.below hb8') (hO8.bools (by rw [List.length_set, HELg.out]; omega))
                  rw [List.length_set, HELg.out, HSF.out] at hall
                  have HALL := Lib.hid hall
                  have HB8 := Lib.hid hb8'
                  clear hall hO8 hb8 hb8' hc7 hf7
                  refine HALL.out.mono ?_
                  rintro e w8 ⟨rfl, rfl⟩
                  go_wp2
                  go_roundw
                  case rel => exact ⟨t + 1, by omega, by go_num, HB8.out⟩
                  case measure => simp [intOf]; omega
                · go_wp2
                  go_roundw
                  case rel => exact ⟨j + 1, by omega, by go_num, HBT.out.trans (HBT2.out.mono hszt)⟩
                  case measure => simp [intOf]; omega
        · have hc0 := HF5.out.below hbj
          have hv := vars_any p (V + gs.length) wr hc0.cell0
          have HVV := Lib.hid hv
          have heq : (((V + gs.length : Nat) : Int) == (V : Int) + (gs.length : Int)) = true := by simp
          clear hc0 hv
          go_wp2_with fail
          refine HVV.out.mono ?_
          rintro e w8 ⟨rfl, rfl⟩
          go_wp2
          go_ret
          exact ⟨by simp, below_next HB5.out HBJ.out⟩
end Go.Proofs.YtdppmmimemmedaaDoor
