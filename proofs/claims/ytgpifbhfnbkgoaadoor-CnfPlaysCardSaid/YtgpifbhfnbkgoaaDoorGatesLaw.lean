/- The walk of haversacklaw15.CnfGates. -/
import Derived.Test.YtgpifbhfnbkgoaaDoorGatesSt
import Derived.Test.YtgpifbhfnbkgoaaDoorBools
import Derived.Test.YtgpifbhfnbkgoaaDoorOnesLaw
namespace Go.Proofs.YtgpifbhfnbkgoaaDoor
open Go.RowKit Go.Shelf

/-- operations: kind, number, literals -/
structure Ops (w : World) (a : Option Addr) (os : List (Int × Int × List Int)) : Prop where
  addr : 0 < os.length → ∃ b off, a = some ⟨b, off, none⟩ ∧ b < w.heap.size ∧ ∀ i o, os[i]? = some o →
    w.cell? ⟨b, off + i * 3, none⟩ = some (.int .i64 o.1) ∧ w.cell? ⟨b, off + i * 3 + 1, none⟩ = some (.int .i64 o.2.1) ∧
    ∃ la lc, w.cell? ⟨b, off + i * 3 + 2, none⟩ = some (.slice la o.2.2.length lc) ∧ Ints w la o.2.2 ∧ o.2.2.length ≤ lc ∧ (la = none → lc = 0) ∧ ∀ ad, eff la o.2.2 = some ad → ad.block < w.heap.size
  len : os.length ≤ 17592186043904
/-- at the head of the first loop's rounds -/
structure GS (w : World) (p V : Nat) (gs : List M.G) (W : World) (ak : Option Addr) (ck : Nat) (al : Option Addr) (cl : Nat) : Prop where
  below : Below w.heap.size w W
  kinds : OwnI W w.heap.size ak ck (gs.map (·.1))
  lists : OwnL (Zof ak) W w.heap.size al cl (gs.map (·.2))
  fm : ∃ a c, Fm (Zof ak) W w.heap.size p (V + gs.length) (M.gatesC V gs) a c
  ok : M.Gok V gs
  lens : ∀ g ∈ gs, g.2.length ≤ 10
theorem few_fits {kd : Int} (hk : 1 ≤ kd ∧ kd ≤ 4) (zs : List Int) : M.Fits (kd, M.few kd zs) := by
  refine ⟨fun h => ?_, fun h1 h2 h3 => ?_⟩
  · have h' : kd = 3 := h
    simp [M.few, h', M.taken_length]
  · have h1' : kd ≠ 1 := h1
    have h2' : kd ≠ 2 := h2
    have h3' : kd ≠ 3 := h3
    have h4 : kd = 4 := by omega
    simp [M.few, h4, M.taken_length]
theorem few_len (kd : Int) (zs : List Int) (h : zs.length ≤ 10) : (M.few kd zs).length ≤ 10 := by
  unfold M.few
  split
  · rw [M.taken_length]; omega
  · split
    · rw [M.taken_length]; omega
    · exact h
theorem GS.start {w W : World} {p V : Nat} {a : Option Addr} {c : Nat} (hb : Below w.heap.size w W) (hF : Fm NoX W w.heap.size p V [] a c) :
    GS w p V [] ((W.alloc (.cells #[] 3)).alloc (.cells #[] 30)) (some ⟨W.heap.size, 0, none⟩) 0 (some ⟨W.heap.size + 1, 0, none⟩) 0 := by
  have hs := hb.size
  have hb2 : Below W.heap.size W ((W.alloc (.cells #[] 3)).alloc (.cells #[] 30)) := below_alloc (below_alloc (Below.refl _ _) _) _
  have hl := OwnL.made0 (Z := Zof (some ⟨W.heap.size, 0, none⟩)) (W.alloc (.cells #[] 3)) w.heap.size (by simp; omega) (by rintro k ⟨ad, e1, e2⟩; cases e1; simp at e2 ⊢; omega)
  rw [show (W.alloc (.cells #[] 3)).heap.size = W.heap.size + 1 from by simp] at hl
  refine ⟨below_next hb hb2, (OwnI.made0 W _ hs).alloc _, hl, ⟨a, c, ?_⟩, fun i g h => by simp at h, fun g h => by simp at h⟩
  exact hF.turn hb2.size (fun k hk _ _ => hb2.block k hk) (by rintro k ⟨ad, e1, e2⟩; cases e1; simp at e2; exact .inr (by omega)) (by rintro k ⟨ad, e1, e2⟩; cases e1; simp at e2 ⊢; omega)
theorem GS.toGR {w W : World} {p V : Nat} {gs : List M.G} {ak al : Option Addr} {ck cl : Nat} (h : GS w p V gs W ak ck al cl) (kd n : Int) (la : Option Addr) (lc : Nat) (zs : List Int) (hz : Ints W la zs) (hb : ∀ ad, eff la zs = some ad → ad.block < w.heap.size) (hc : zs.length ≤ lc ∧ (la = none → lc = 0) ∧ zs.length ≤ 1000000) :
    GR w p (V + gs.length) (M.gatesC V gs) W.heap.size kd n la lc zs (W.alloc (.cells #[.int .i64 kd, .int .i64 n, .slice la zs.length lc] 32)) ak ck (gs.map (·.1)) al cl (gs.map (·.2)) none [] := by
  have hb2 : Below W.heap.size W (W.alloc (.cells #[.int .i64 kd, .int .i64 n, .slice la zs.length lc] 32)) := below_alloc (Below.refl _ _) _
  obtain ⟨a, c, hF⟩ := h.fm
  exact ⟨below_next h.below hb2, by show (W.heap.push _)[W.heap.size]? = _; simp, h.kinds.below hb2, h.lists.below h.below.size hb2, ⟨a, c, hF.below hb2⟩, hz.below hb2, hb, hc, (fun _ _ e => by cases e), (fun _ _ _ e => by simp at e)⟩
theorem GR.toGS {w W : World} {p V Bo : Nat} {gs : List M.G} {ak al la : Option Addr} {ck cl lc : Nat} {kd n : Int} {zs : List Int} {R : Option (Option Addr × Nat)} {T : List (Nat × Value × TypeId)}
    (h : GR w p (V + gs.length + 1) ((M.gateC kd ((V + gs.length + 1 : Nat) : Int) (M.few kd zs)).foldl M.addC (M.gatesC V gs)) Bo kd n la lc zs W ak ck (gs.map (·.1) ++ [kd]) al cl (gs.map (·.2) ++ [M.few kd zs]) R T)
    (hok : M.Gok V gs) (hl : ∀ g ∈ gs, g.2.length ≤ 10) (hk : 1 ≤ kd ∧ kd ≤ 4) (hz : zs.length ≤ 10) (hown : M.own (V + gs.length) (M.few kd zs) = true) : GS w p V (gs ++ [(kd, M.few kd zs)]) W ak ck al cl := by
  obtain ⟨a, c, hF⟩ := h.fm
  refine ⟨h.below, by simpa using h.kinds, by simpa using h.lists, ⟨a, c, ?_⟩, fun i g hg => ?_, fun g hg => ?_⟩
  · rw [M.gatesC_snoc]; simpa [Nat.add_assoc] using hF
  · by_cases hi : i < gs.length
    · rw [List.getElem?_append_left hi] at hg; exact hok i g hg
    · have hi2 : i = gs.length := by
        rcases Nat.lt_or_ge i (gs ++ [(kd, M.few kd zs)]).length with h' | h'
        · simp at h'; omega
        · rw [List.getElem?_eq_none h'] at hg; cases hg
      subst hi2
      simp at hg; subst hg
      exact ⟨hown, few_fits hk zs⟩
  · rcases List.mem_append.1 hg with hg | hg
    · exact hl g hg
    · simp at hg; subst hg; exact few_len kd zs hz
theorem GR.back {w W : World} {p V Bo : Nat} {gs : List M.G} {ak al la : Option Addr} {ck cl lc : Nat} {kd n : Int} {zs : List Int} {R : Option (Option Addr × Nat)} {T : List (Nat × Value × TypeId)}
    (h : GR w p (V + gs.length) (M.gatesC V gs) Bo kd n la lc zs W ak ck (gs.map (·.1)) al cl (gs.map (·.2)) R T) (hok : M.Gok V gs) (hl : ∀ g ∈ gs, g.2.length ≤ 10) : GS w p V gs W ak ck al cl :=
  ⟨h.below, h.kinds, h.lists, h.fm, hok, hl⟩
theorem Ops.at {w W : World} {a : Option Addr} {os : List (Int × Int × List Int)} (h : Ops w a os) (hb : Below w.heap.size w W) {k : Nat} (hk : k < os.length) :
    ∃ b off kd n zs la lc, a = some ⟨b, off, none⟩ ∧ os[k]? = some (kd, n, zs) ∧ W.cell? ⟨b, off + k * 3, none⟩ = some (.int .i64 kd) ∧ W.cell? ⟨b, off + k * 3 + 1, none⟩ = some (.int .i64 n) ∧ W.cell? ⟨b, off + k * 3 + 2, none⟩ = some (.slice la zs.length lc) ∧ Ints W la zs ∧ zs.length ≤ lc ∧ (la = none → lc = 0) ∧ ∀ ad, eff la zs = some ad → ad.block < w.heap.size := by
  obtain ⟨b, off, rfl, hlt, hc⟩ := h.addr (by omega)
  obtain ⟨c1, c2, la, lc, c3, c4, c5, c6, c7⟩ := hc k os[k] (List.getElem?_eq_getElem hk)
  have hcl : ∀ {i v}, w.cell? ⟨b, i, none⟩ = some v → W.cell? ⟨b, i, none⟩ = some v := fun {i v} e => (hb.cell (p := ⟨b, i, none⟩) hlt).trans e
  exact ⟨b, off, os[k].1, os[k].2.1, os[k].2.2, la, lc, rfl, List.getElem?_eq_getElem hk, hcl c1, hcl c2, hcl c3, c4.below hb, c5, c6, c7⟩
end Go.Proofs.YtgpifbhfnbkgoaaDoor
