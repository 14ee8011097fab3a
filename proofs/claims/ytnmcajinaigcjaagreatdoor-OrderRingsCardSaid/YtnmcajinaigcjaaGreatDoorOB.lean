/- One text of XOSort, XOSrtR: a claim has at most 60 files. -/
import Derived.Test.YtnmcajinaigcjaaGreatDoorOA
import Derived.Test.YtnmcajinaigcjaaGreatDoorMOwn
import Derived.Test.YtnmcajinaigcjaaGreatDoorShelf
namespace Go.Proofs.YtnmcajinaigcjaaGreatDoor
open Go.RowKit Go.Shelf Go.Sort
open Q (It Ver Tm Sp Rc Dm)

theorem below_grownBy {B g : Nat} {w0 w w' : World} (hb : Go.RowKit.Below B w0 w) (hg : w.grownBy w' (some g)) (hB : B ≤ w.heap.size) (h : B ≤ g) : Go.RowKit.Below B w0 w' :=
  hb.trans ⟨hg.os, hg.tape, hg.output, hg.size, fun k hk => hg.block k (by omega) fun e => by injection e with e; omega⟩
/-- places below n -/
def toFin {n : Nat} (xs : List Nat) (h : ∀ x ∈ xs, x < n) : List (Fin n) := xs.pmap (fun x hx => ⟨x, hx⟩) h
theorem toFin_val {n : Nat} (xs : List Nat) (h : ∀ x ∈ xs, x < n) : (toFin xs h).map (·.1) = xs := by simp [toFin, List.map_pmap]
theorem toFin_length {n : Nat} (xs : List Nat) (h : ∀ x ∈ xs, x < n) : (toFin xs h).length = xs.length := by simp [toFin]
def encF {n : Nat} (k : Fin n) : Value := .int .i64 k.1
theorem encF_map {n : Nat} (ys : List (Fin n)) : ys.map encF = enN (ys.map (·.1)) := by simp [enN, encF, Function.comp_def]
def cfF (l : List Rc) (x y : Fin l.length) : Int := O.cf l x.1 y.1
theorem ltOf_cfF (l : List Rc) (x y : Fin l.length) : ltOf (cfF l) x y = O.lt l x.1 y.1 := rfl
theorem swoF (l : List Rc) : SWO (ltOf (cfF l)) := by
  have h := O.ord l
  refine ⟨fun x => ?_, fun x y z h1 h2 => ?_, fun x y z h1 h2 => ?_⟩
  · rw [ltOf_cfF]; exact h.irrefl _
  · rw [ltOf_cfF] at *; exact h.trans h1 h2
  · rw [ltOf_cfF] at *
    cases h3 : O.lt l x.1 z.1
    · rfl
    · cases h4 : O.lt l y.1 x.1
      · rw [h.total h1 h4] at h3; rw [h3] at h2; cases h2
      · have := h.trans h4 h3; rw [this] at h2; cases h2
theorem osort_any (S cc : Nat) (a : Option Addr) (c base blk : Nat) (l : List Rc) (xs : List Nat) (w0 w : World) (hxs : ∀ x ∈ xs, x < l.length) (hl : 0 < l.length) (hR : Sl RRc 13 w0 a l) (hb : Go.RowKit.Below w0.heap.size w0 w)
    (hS : w.cell? ⟨S, 0, none⟩ = some (.slice a l.length c)) (hne : S ≠ blk) (hblk : w0.heap.size ≤ blk) (hx : OwnN w base (some ⟨blk, 0, none⟩) cc xs) (hm : xs.length ≤ 1000000) :
    Calls Tryz.prog 55 #[.slice (some ⟨blk, 0, none⟩) xs.length cc, .func (.func 56) #[.pointer (some ⟨S, 0, none⟩)] #[]] w fun e w' =>
      e = .returned (.tuple #[]) ∧ OwnN w' base (some ⟨blk, 0, none⟩) cc (O.srt (O.lt l) xs) ∧ w.grownBy w' (some blk) := by
  haveI : Inhabited (Fin l.length) := ⟨⟨0, hl⟩⟩
  have hw : S < w.heap.size := cell_lt hS
  have h := Ms.sort_own (P := Tryz.prog) (Tryz.laysSlF6_f55) encF (fun _ => rfl) (cfF l) (swoF l) 56 (.pointer (some ⟨S, 0, none⟩)) (e := 3) (base := base) (blk := blk) (c := cc) (toFin xs hxs) w
    (by rw [toFin_length, encF_map, toFin_val]; exact hx) (enters_of Tryz.func56 (by kernel_rfl) rfl)
    (by
      intro m os dk hdk x y
      have hg := Ms.swWorld_grownBy encF (w := w) (g := blk) (n := m) (os := os) dk
      refine ocompare_any S a c l x.1 y.1 _ ?_ ((hR.below stays_RRc (below_grownBy hb hg hb.size hblk))) x.2 y.2
      rw [World.cell?_of_block (hg.block S hw (fun e => by injection e with e; exact hne e))]
      exact hS)
    (by rw [toFin_length]; omega)
  rw [toFin_length] at h
  refine h.mono ?_
  rintro e w' ⟨rfl, ys, hp, hs, hown, hg⟩
  refine ⟨rfl, ?_, hg⟩
  have he : O.srt (O.lt l) xs = ys.map (·.1) := by
    refine O.srt_eq (O.ord l) ?_ ?_
    · have := hp.map (fun k : Fin l.length => k.1)
      rw [toFin_val] at this
      exact this.symm
    · rw [List.pairwise_map]; exact hs
  rw [he]
  have hlen : (ys.map (·.1)).length = xs.length := by rw [List.length_map, hp.length_eq, toFin_length]
  show Own _ _ _ _ _ _ (ys.map (·.1)).length _
  rw [hlen, ← encF_map]
  exact hown
end Go.Proofs.YtnmcajinaigcjaaGreatDoor
namespace Go.Proofs.YtnmcajinaigcjaaGreatDoor
open Go.RowKit Go.Shelf Go.Sort
open Q (It Ver Tm Sp Rc Dm)

/-- rings by their heads -/
def cfR (l : List Rc) (xs : List Hd) (x y : {x : Hd // x ∈ xs}) : Int := O.cf l (O.hd x.1.2.2) (O.hd y.1.2.2)
theorem ltOf_cfR (l : List Rc) (xs : List Hd) (x y : {x : Hd // x ∈ xs}) : ltOf (cfR l xs) x y = O.lt l (O.hd x.1.2.2) (O.hd y.1.2.2) := rfl
theorem swoR (l : List Rc) (xs : List Hd) : SWO (ltOf (cfR l xs)) := by
  have h := O.ord l
  refine ⟨fun x => ?_, fun x y z h1 h2 => ?_, fun x y z h1 h2 => ?_⟩
  · rw [ltOf_cfR]; exact h.irrefl _
  · rw [ltOf_cfR] at *; exact h.trans h1 h2
  · rw [ltOf_cfR] at *
    cases h3 : O.lt l (O.hd x.1.2.2) (O.hd z.1.2.2)
    · rfl
    · cases h4 : O.lt l (O.hd y.1.2.2) (O.hd x.1.2.2)
      · rw [h.total h1 h4] at h3; rw [h3] at h2; cases h2
      · have := h.trans h4 h3; rw [this] at h2; cases h2
theorem osortR_any (S : Nat) (a xa : Option Addr) (c xc base : Nat) (l : List Rc) (xs : List Hd) (w0 w : World) (hR : Sl RRc 13 w0 a l) (hb : Go.RowKit.Below w0.heap.size w0 w) (hS : w.cell? ⟨S, 0, none⟩ = some (.slice a l.length c)) (hSb : S < base)
    (hx : Rows w base xa xc xs) (hn : ∀ x ∈ xs, x.2.2 ≠ [] ∧ O.hd x.2.2 < l.length) (hbase : w0.heap.size ≤ base) (hm : xs.length ≤ 1000000) :
    Calls Tryz.prog 26 #[.slice xa xs.length xc, .func (.func 27) #[.pointer (some ⟨S, 0, none⟩)] #[]] w fun e w' =>
      e = .returned (.tuple #[]) ∧ ∃ ys : List Hd, ys.Perm xs ∧ ys.Pairwise (fun x y => O.lt l (O.hd y.2.2) (O.hd x.2.2) = false) ∧ Rows w' base xa xc ys ∧ Go.RowKit.Below base w w' ∧ w.heap.size ≤ w'.heap.size := by
  cases hxs : xs with
  | nil =>
    refine (Tryz.slices_SortFunc_none_f26 (α := Nat) xa xc _ w).mono ?_
    rintro e w' ⟨rfl, rfl⟩
    exact ⟨rfl, [], List.Perm.refl _, List.Pairwise.nil, hxs ▸ hx, Go.RowKit.Below.refl _ _, Nat.le_refl _⟩
  | cons x0 t =>
    rw [← hxs]
    haveI : Inhabited {x : Hd // x ∈ xs} := ⟨⟨x0, by rw [hxs]; simp⟩⟩
    obtain ⟨g, rfl, hg1, hg2, _⟩ := hx.cell (k := 0) (x := x0) (by rw [hxs]; rfl)
    have hw : S < w.heap.size := cell_lt hS
    have hlen : xs.attach.length = xs.length := List.length_attach
    have hmap : xs.attach.map (fun x => RowV x.1) = xs.map RowV := by simp
    have h := Ms.sort_own (P := Tryz.prog) (Tryz.laysSlF6_f26) (fun x : {x : Hd // x ∈ xs} => RowV x.1) (fun _ => rfl) (cfR l xs) (swoR l xs) 27 (.pointer (some ⟨S, 0, none⟩)) (e := 31) (base := base) (blk := g) (c := xc) xs.attach w
      (by rw [hlen, hmap]; exact hx.hd) (enters_of Tryz.func27 (by kernel_rfl) rfl)
      (by
        intro m os dk hdk x y
        have hg := Ms.swWorld_grownBy (fun x : {x : Hd // x ∈ xs} => RowV x.1) (w := w) (g := g) (n := m) (os := os) dk
        have key : ∀ z : {x : Hd // x ∈ xs}, ∃ b off, some (⟨z.1.1, 0, none⟩ : Addr) = some ⟨b, off, none⟩ ∧ b < (sortWorld (fun x : {x : Hd // x ∈ xs} => RowV x.1) w g 0 m dk os).heap.size ∧ (sortWorld (fun x : {x : Hd // x ∈ xs} => RowV x.1) w g 0 m dk os).cell? ⟨b, off, none⟩ = some (.int .i64 (O.hd z.1.2.2 : Int)) := by
          intro z
          have hz := hx.lt z.2
          refine ⟨_, _, rfl, Nat.lt_of_lt_of_le hz.2 hg.size, ?_⟩
          rw [World.cell?_of_block (hg.block z.1.1 hz.2 (fun e => hx.off _ z.2 ⟨g, 0, none⟩ rfl (Option.some.inj e).symm))]
          exact hx.head z.2 (hn _ z.2).1
        refine ocompareRings_any S a _ _ c _ _ _ _ l _ _ _ ?_ (hR.below stays_RRc (below_grownBy hb hg hb.size (by omega))) (hn _ x.2).2 (hn _ y.2).2 (key x) (List.length_pos_iff.2 (hn _ x.2).1) (key y) (List.length_pos_iff.2 (hn _ y.2).1)
        rw [World.cell?_of_block (hg.block S hw (fun e => by have := Option.some.inj e; omega))]
        exact hS)
      (by rw [hlen]; omega)
    rw [hlen] at h
    refine h.mono ?_
    rintro e w' ⟨rfl, ys, hp, hs, hown, hg⟩
    have hp2 : (ys.map (·.1)).Perm xs := by have := hp.map (fun x => x.1); rwa [List.attach_map_subtype_val] at this
    refine ⟨rfl, ys.map (·.1), hp2, ?_, ⟨?_, fun x hx1 => ?_, fun x hx1 => hx.off x (hp2.mem_iff.1 hx1), ?_⟩, (Go.RowKit.Below.refl _ _).grown hg (by omega) (fun j hj => by have := Option.some.inj hj; omega), hg.size⟩
    · rw [List.pairwise_map]; exact hs
    · rw [List.length_map, hp.length_eq, hlen, List.map_map]; exact hown
    · have hx2 := hp2.mem_iff.1 hx1
      have hz := hx.lt hx2
      exact Own.same (hx.row x hx2) fun b e => by cases e; exact hg.block _ hz.2 (fun e => hx.off _ hx2 ⟨g, 0, none⟩ rfl (Option.some.inj e).symm)
    · exact (hp2.map (·.1)).nodup_iff.2 hx.nd
end Go.Proofs.YtnmcajinaigcjaaGreatDoor
