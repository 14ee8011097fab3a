/- haversacknum.Ints, KeptInts: a copy with marked room behind. -/
import Derived.Test.YtgpifbhfnbkgoaaDoorLits2
import Derived.Test.YtgpifbhfnbkgoaaDoorMany
import Derived.Test.YtgpifbhfnbkgoaaDoorOne
namespace Go.Proofs.YtgpifbhfnbkgoaaDoor
open Go.RowKit

def M.marks : List Int := [-91, -92, -93, -94]
/-- a copy with marked room behind it -/
def IntsPost (w : World) (zs : List Int) (e : Ending) (w' : World) : Prop :=
  ∃ g c', e = .returned (.slice (some ⟨g, 0, none⟩) zs.length c') ∧ OwnI w' w.heap.size (some ⟨g, 0, none⟩) c' (zs ++ M.marks) ∧ Below w.heap.size w w'
theorem Ints.four (w : World) (e : TypeId) : Ints (w.alloc (.cells #[.int .i64 (-91), .int .i64 (-92), .int .i64 (-93), .int .i64 (-94)] e)) (some ⟨w.heap.size, 0, none⟩) M.marks := by
  refine ⟨fun _ => ⟨_, 0, rfl, by simp, fun i u hu => ?_⟩, fun u hu => by simp [M.marks] at hu; rcases hu with rfl | rfl | rfl | rfl <;> exact ⟨by omega, by omega⟩, by simp [M.marks]⟩
  match i, hu with
  | 0, hu => simp [M.marks] at hu; subst hu; simp
  | 1, hu => simp [M.marks] at hu; subst hu; simp
  | 2, hu => simp [M.marks] at hu; subst hu; simp
  | 3, hu => simp [M.marks] at hu; subst hu; simp
theorem OwnI.addr {w : World} {base : Nat} {a : Option Addr} {c : Nat} {ys : List Int} (h : OwnI w base a c ys) (h0 : 0 < ys.length) : ∃ g, a = some ⟨g, 0, none⟩ := by
  rcases h.parts with ⟨_, _, rfl⟩ | ⟨g, _, e, _⟩
  · simp at h0
  · exact ⟨g, e⟩
theorem OwnI.cell' {w : World} {base g c : Nat} {ys : List Int} (h : OwnI w base (some ⟨g, 0, none⟩) c ys) {i : Nat} {z : Int} (hz : ys[i]? = some z) : w.cell? ⟨g, i, none⟩ = some (.int .i64 z) := by
  rcases h.parts with ⟨e, _⟩ | ⟨g', cur, e, hb, hlt, hg, hn, hm, hs, ht⟩
  · cases e
  · cases e
    rw [cell_of_cells hg]
    have hi : i < ys.length := by
      rcases Nat.lt_or_ge i ys.length with h' | h'
      · exact h'
      · rw [List.getElem?_eq_none h'] at hz; cases hz
    have e1 : (cur.toList.take ys.length)[i]? = (ys.map (Value.int .i64))[i]? := by rw [ht]
    rw [List.getElem?_take, if_pos hi, List.getElem?_map, hz, Array.getElem?_toList] at e1
    exact e1
theorem OwnI.front {w : World} {base g c : Nat} {ys zs : List Int} (h : OwnI w base (some ⟨g, 0, none⟩) c (zs ++ ys)) (hw : ∀ z ∈ zs, I64 z) (hl : zs.length ≤ 17592186043904) : Ints w (some ⟨g, 0, none⟩) zs := by
  refine ⟨fun h0 => ⟨g, 0, rfl, ?_, fun i z hi => ?_⟩, hw, hl⟩
  · rcases h.parts with ⟨e, _⟩ | ⟨g', cur, e, _, hlt, _⟩
    · cases e
    · cases e; exact hlt
  · rw [Nat.zero_add]
    refine h.cell' ?_
    rw [List.getElem?_append_left]
    · exact hi
    · rcases Nat.lt_or_ge i zs.length with h' | h'
      · exact h'
      · rw [List.getElem?_eq_none h'] at hi; cases hi
theorem ints_cut {w : World} {base g c : Nat} {zs : List Int} (h : OwnI w base (some ⟨g, 0, none⟩) c (zs ++ M.marks)) (hw : ∀ z ∈ zs, I64 z) (hs : zs.length ≤ 1000000) :
    ∀ wx, (Instr.slice 30 (.slice (some ⟨g, 0, none⟩) (zs.length + 4) c) none (some (.int .i64 zs.length)) none).run Tryd.prog wx = .ok (.slice (some ⟨g, 0, none⟩) zs.length c) wx := by
  have hI := h.ints (fun z hz => by
    rcases List.mem_append.1 hz with h1 | h1
    · exact hw z h1
    · simp [M.marks] at h1; rcases h1 with rfl | rfl | rfl | rfl <;> exact ⟨by omega, by omega⟩) (by simp [M.marks]; omega)
  have := (slice_to (w := w) 30 Tryd.underlying30 (a := some ⟨g, 0, none⟩) c zs.length hI (by simp) h.cap.1 h.cap.2).1
  rw [List.length_append] at this
  exact this
theorem cap_cut {w : World} {base g c : Nat} {zs : List Int} (h : OwnI w base (some ⟨g, 0, none⟩) c (zs ++ M.marks)) :
    ∀ wx, (Instr.slice 30 (.slice (some ⟨g, 0, none⟩) zs.length c) none (some (.int .i64 c)) none).run Tryd.prog wx = .ok (.slice (some ⟨g, 0, none⟩) c c) wx := fun wx => by
  have he : Tryd.prog.elem 30 = 3 := by simp [Program.elem, Tryd.underlying30]
  have hc := h.cap.1
  have hm : c ≤ maxLen := by
    rcases h.parts with ⟨e, _⟩ | ⟨g', cur, e, hb, hlt, hg, hn, hm, hs, ht⟩
    · cases e
    · exact hm
  rw [run_slice_h wx 30 (some ⟨g, 0, none⟩) zs.length c (by rw [he]; exact Tryd.underlying30) .i64 c (by omega) (by omega), he, sizeInt]
  simp [Result.andThen, sliced, Addr.add]
theorem front_cut {w : World} {base g c : Nat} {zs : List Int} (h : OwnI w base (some ⟨g, 0, none⟩) c (zs ++ M.marks)) :
    ∀ wx, (Instr.slice 30 (.slice (some ⟨g, 0, none⟩) c c) none (some (.int .i64 zs.length)) none).run Tryd.prog wx = .ok (.slice (some ⟨g, 0, none⟩) zs.length c) wx := fun wx => by
  have he : Tryd.prog.elem 30 = 3 := by simp [Program.elem, Tryd.underlying30]
  have hc := h.cap.1
  rw [List.length_append] at hc
  rw [run_slice_h wx 30 (some ⟨g, 0, none⟩) c c (by rw [he]; exact Tryd.underlying30) .i64 zs.length (by omega) (by omega), he, sizeInt]
  simp [Result.andThen, sliced, Addr.add]
theorem below_chain' {w w1 w2 : World} {o : Obj} (h : Below w.heap.size w w1) (h2 : Below w.heap.size (w1.alloc o) w2) : Below w.heap.size w w2 := (h.alloc h.size o).trans h2
set_option maxHeartbeats 1000000 in
set_option maxRecDepth 100000 in
theorem ints_any (a : Option Addr) (c : Nat) (zs : List Int) (w : World) (hz : Ints w a zs) (hd : a = none → c = 0) (hs : zs.length ≤ 1000000) :
    Calls Tryd.prog 8 #[.slice a zs.length c] w (IntsPost w zs) := by
  obtain ⟨i0, hi, hz0, hz1, hz2⟩ := info_parts Tryd.infoInt
  have HD := Lib.hid hd
  have HZ := Lib.hid hz
  clear hd hz
  have hb8 : i0.bytes * (zs.length + 4) ≤ 281474976710656 := by rw [hz2]; omega
  have HB8 := Lib.hid hb8
  clear hb8
  go_enter Tryd.func8, Tryd.ntmps8
  go_wp2_with (first
    | (at_make; refine wpList_make_own w rfl _ _ 30 rfl w.heap.size 3 i0 (.int .i64 0) 1 Tryd.underlying30 hi hz0 hz1 .i64 .i64 _ (zs.length + 4) rfl rfl (by omega) HB8.out (by unfold maxLen; omega) (Nat.le_refl _) ?_; intro w1 hown1 hg1; have hO1 : OwnI w1 w.heap.size (some ⟨w.heap.size, 0, none⟩) (zs.length + 4) [] := hown1; have hb1 : Below w.heap.size w w1 := ⟨hg1.os, hg1.tape, hg1.output, hg1.size, fun k hk => hg1.block k hk (by simp)⟩; have HO1 := Lib.hid hO1; have HB1 := Lib.hid hb1; clear hown1 hg1 hO1 hb1)
    | (at_builtin; have _t := HO1; refine wpList_append_Ints rfl (.tmp 7) (.tmp 8) 30 rfl Tryd.underlying30 w.heap.size _ _ _ [] rfl rfl HO1.out _ _ _ zs rfl rfl (HZ.out.below HB1.out) HD.out (by omega) HB1.out.size ?_; intro a2 c2 w2 hown2 hg2 hB2; have HO2 := Lib.hid hown2; have HB2 := Lib.hid (HB1.out.trans hB2); clear hown2 hg2 hB2 _t HO1)
    | (at_builtin; refine wpList_append_Ints rfl (.tmp 9) (.tmp 10) 30 rfl Tryd.underlying30 w.heap.size _ _ _ zs rfl (by simp) (OwnI.alloc HO2.out _) _ _ _ M.marks rfl rfl (Ints.four w2 _) (fun h => by cases h) (by omega) (by have := HB2.out.size; simp; omega) ?_; intro a3 c3 w3 hown3 hg3 hB3; obtain ⟨g3, rfl⟩ := hown3.addr (by simp [M.marks]); have hsl := ints_cut hown3 HZ.out.wf hs; have HO3 := Lib.hid hown3; have HB3 := Lib.hid (below_chain' HB2.out hB3); clear hown3 hg3 hB3))
  go_ret
  exact ⟨g3, c3, rfl, HO3.out, HB3.out⟩
set_option maxHeartbeats 1000000 in
set_option maxRecDepth 100000 in
/-- haversacknum.KeptInts: it stands -/
theorem keptInts_any (base g c : Nat) (zs : List Int) (b : Option Addr) (d : Nat) (w : World) (ho : OwnI w base (some ⟨g, 0, none⟩) c (zs ++ M.marks)) (hz : Ints w b zs) (hs : zs.length ≤ 1000000) :
    Calls Tryd.prog 25 #[.slice (some ⟨g, 0, none⟩) zs.length c, .slice b zs.length d] w fun e w' => e = .returned (.bool true) ∧ Below w.heap.size w w' := by
  have hcap := ho.cap.1
  rw [List.length_append, show M.marks.length = 4 from rfl] at hcap
  have hsl := cap_cut ho
  have hsl2 := front_cut ho
  have hF := ho.front hz.wf hz.len
  have hsame := sameInts_any (some ⟨g, 0, none⟩) c zs b d zs w hF hz
  rw [(M.eqs_iff zs zs).2 rfl] at hsame
  have HS := Lib.hid hsame
  have HO := Lib.hid ho
  have hcm : c ≤ 9223372036854775807 := by
    rcases ho.parts with ⟨e, _⟩ | ⟨g', cur, e, hb, hlt, hg, hn, hm, hs, ht⟩
    · cases e
    · unfold maxLen at hm; omega
  have hd : decide ((c : Int) < (zs.length : Int) + 4) = false := by simp; omega
  clear hsame hF ho hz
  go_enter Tryd.func25, Tryd.ntmps25
  go_wp2_with (go_at_call 19; refine HS.out.mono ?_; rintro e w1 ⟨rfl, q, hq⟩; have hb1 : Below w.heap.size w w1 := (by rw [hq]; exact bDrewN _ _ _); have HB1 := Lib.hid hb1; have HO1 := Lib.hid (HO.out.below hb1); clear hq hb1)
  go_loop [6] (fun i => ∃ k : Nat, k ≤ 4 ∧ i = .int .i64 k) (fun i => 4 - (intOf i).toNat)
  case atStart => exact ⟨0, Nat.zero_le _, rfl⟩
  case round =>
    obtain ⟨k, hk, rfl⟩ := hrel
    by_cases hlt : k < 4
    · have hcell := HO1.out.cell' (i := zs.length + k) (z := -91 - (k : Int)) (by
        rw [List.getElem?_append_right (by omega), Nat.add_sub_cancel_left]
        match k, hlt with
        | 0, _ => rfl
        | 1, _ => rfl
        | 2, _ => rfl
        | 3, _ => rfl)
      have i1 : (0 : Int) ≤ (zs.length : Int) + (k : Int) := by omega
      have i2 : (zs.length : Int) + (k : Int) < (c : Int) := by omega
      have i3 : zs.length + k < c := by omega
      have hne : ((-91 - (k : Int)) != (-91 - (k : Int))) = false := by simp
      go_wp2
      go_round
      case rel => exact ⟨k + 1, by omega, by go_num⟩
      case measure => simp [intOf]; omega
    · go_wp2
      go_ret
      exact ⟨rfl, HB1.out⟩
end Go.Proofs.YtgpifbhfnbkgoaaDoor
