/- slices.Clone at api.Clause; (*cnf.Formula).Clauses, Vars. -/
import Derived.Test.YtgpifbhfnbkgoaaDoorOne
namespace Go.Proofs.YtgpifbhfnbkgoaaDoor
open Go.RowKit
variable {X Y : Nat → Prop}

theorem cloneC_any (a : Option Addr) (c : Nat) (zs : List Int) (w : World) (hz : Ints w a zs) (hd : a = none → c = 0) :
    Calls Tryd.prog 44 #[.slice a zs.length c] w (NewIntsT w zs) := by
  have hlen := hz.len
  have q22 : ∀ (w : World) (a : Option Addr) (n c n' c' : Nat), (binOp .eql 73 (.slice a n c) (.slice none n' c')).run Tryd.prog w = .ok (.bool a.isNone) w := fun w a n c n' c' => Lib.run_eql_slice_nil w _ _ a n c n' c' Tryd.underlying73
  cases a with
  | none =>
    obtain rfl := hz.none_nil
    obtain rfl := hd rfl
    go_enter Tryd.func44, Tryd.ntmps44
    go_wp2
    go_ret
    exact ⟨_, _, rfl, Ints.nil _ _, Nat.zero_le _, (fun _ => rfl), Below.refl _ _, TagN.none _ _⟩
  | some ad =>
    have HD := Lib.hid hd
    clear hd
    go_enter Tryd.func44, Tryd.ntmps44
    go_wp2_with (at_builtin; refine wpList_append_Ints rfl (.tmp 5) (.tmp 6) 73 rfl Tryd.underlying73 w.heap.size _ _ _ [] rfl rfl (OwnI.made0 w _ (Nat.le_refl _)) _ _ _ zs rfl rfl (hz.alloc _) HD.out (by omega) (by simp) ?_; intro a1 c1 w1 hown1 hg1 hB1; have HB1 := Lib.hid (put_below1 hB1); have HO1 := Lib.hid hown1; clear hg1 hown1 hB1)
    go_ret
    have ho : OwnI w1 w.heap.size a1 c1 zs := HO1.out
    exact ⟨a1, c1, rfl, ho.ints hz.wf hlen, ho.cap.1, ho.cap.2, HB1.out, ho.tagN⟩
theorem OwnC.stored {w : World} {base g c : Nat} {ds : List (List Int)} (h : OwnC X w base (some ⟨g, 0, none⟩) c ds) (j : Nat) {b : Option Addr} {d : Nat} {x : List Int} (hx : Ints w b x) (ht : TagX X w b) (hc : x.length ≤ d) (hd : b = none → d = 0) :
    OwnC X (w.setCell ⟨g, j, none⟩ (.slice b x.length d)) base (some ⟨g, 0, none⟩) c (ds.set j x) := by
  obtain ⟨_, cur, hg⟩ := h.row _ rfl
  obtain ⟨hoff, vals, hr, hv⟩ := h
  have hvl : vals.length = ds.length := by simpa using hr.1
  have hk : ∀ {b' : Option Addr} {zs : List Int}, Ints w b' zs → TagX X w b' → Ints (w.setCell ⟨g, j, none⟩ (.slice b x.length d)) b' zs ∧ TagX X (w.setCell ⟨g, j, none⟩ (.slice b x.length d)) b' := by
    intro b' zs h1 h2
    have r := Ints.keepG (World.ownsRow.stored hr j (.slice b x.length d)).2 (fun k e => by cases e; exact ⟨cur, _, hg, by decide⟩) h1 h2.tag
    exact ⟨r.1, h2.off, r.2⟩
  refine ⟨hoff, vals.set j (.slice b x.length d), by rw [List.length_set]; exact (World.ownsRow.stored hr j _).1, fun i y hy => ?_⟩
  by_cases hij : i = j
  · subst hij
    have hi : i < ds.length := by
      rcases Nat.lt_or_ge i (ds.set i x).length with h' | h'
      · simpa using h'
      · rw [List.getElem?_eq_none h'] at hy; cases hy
    rw [List.getElem?_set_self hi] at hy
    cases hy
    exact ⟨b, d, List.getElem?_set_self (by omega), (hk hx ht).1, (hk hx ht).2, hc, hd⟩
  · rw [List.getElem?_set_ne (fun e => hij e.symm)] at hy
    obtain ⟨a1, c1, e1, e2, e3, e4, e5⟩ := hv i y hy
    exact ⟨a1, c1, by rw [List.getElem?_set_ne (fun e => hij e.symm)]; exact e1, (hk e2 e3).1, (hk e2 e3).2, e4, e5⟩
theorem OwnC.cell {w : World} {base g c : Nat} {ds : List (List Int)} (h : OwnC X w base (some ⟨g, 0, none⟩) c ds) {i : Nat} {x : List Int} (hx : ds[i]? = some x) :
    ∃ a' c', w.cell? ⟨g, i, none⟩ = some (.slice a' x.length c') ∧ Ints w a' x ∧ TagX X w a' ∧ x.length ≤ c' ∧ (a' = none → c' = 0) := by
  obtain ⟨_, vals, hr, hv⟩ := h
  obtain ⟨a1, c1, e1, r⟩ := hv i x hx
  refine ⟨a1, c1, ?_, r⟩
  have := hr.cells (g := g) rfl i _ e1
  rw [addr_add, Nat.zero_add] at this
  exact this
theorem OwnC.frozen {w : World} {base g c : Nat} {ds : List (List Int)} (h : OwnC X w base (some ⟨g, 0, none⟩) c ds) (i : Nat) : w.frozen? ⟨g, i, none⟩ = false := by
  obtain ⟨_, cur, hg⟩ := h.row _ rfl
  simp [World.frozen?, hg]
theorem OwnC.addr0 {w : World} {base : Nat} {a : Option Addr} {c : Nat} {cs : List (List Int)} (h : OwnC X w base a c cs) (h0 : 0 < cs.length) : ∃ g, a = some ⟨g, 0, none⟩ ∧ g < w.heap.size := by
  obtain ⟨_, vals, hr, _⟩ := h
  rcases hr.2 with ⟨_, hn⟩ | ⟨g, cap, cur, e, _, hg, _⟩
  · omega
  · injection e with e1; exact ⟨g, e1, (Array.getElem?_eq_some_iff.1 hg).1⟩
theorem OwnC.cls {w : World} {base : Nat} {a : Option Addr} {c : Nat} {cs : List (List Int)} (h : OwnC X w base a c cs) (hl : cs.length ≤ 1000000) : Cls w a cs := by
  refine ⟨fun h0 => ?_, by omega⟩
  obtain ⟨g, rfl, hlt⟩ := h.addr0 h0
  refine ⟨g, 0, rfl, hlt, fun i x hx => ?_⟩
  obtain ⟨a', c', h1, h2, _⟩ := h.cell hx
  exact ⟨a', c', by rw [Nat.zero_add]; exact h1, h2⟩
theorem made_clauses (n : Nat) : (madeCells (Value.slice none 0 0).cells (n * 1)).toList = List.replicate n (Value.slice none 0 0) := by
  apply List.ext_getElem?
  intro i
  simp only [madeCells, Value.cells, Nat.mul_one]
  by_cases h : i < n
  · simp [h, Nat.mod_one]
  · simp [h]
/-- make([]api.Clause, n) -/
theorem wpList_make_Clauses {w : World} {ops : Array Oper} {rest : List Oper} {o : Oper} {act : Act} {Q : Exit → Act → World → Prop} (hgd : o.guard = none) (l c : Operand) (hop : o.op = Op.makeSlice 27 l c)
    (base n : Nat) (hl : act.eval l = .int .i64 n) (hc : act.eval c = .int .i64 n) (hn : n ≤ 1000000) (hbase : base ≤ w.heap.size) (hX : XLt X w)
    (h : ∀ w', OwnC X w' base (some ⟨w.heap.size, 0, none⟩) n (List.replicate n []) → Below w.heap.size w w' → wpList Tryd.prog ops Q rest (act.put o.dst (.slice (some ⟨w.heap.size, 0, none⟩) n n)) w') :
    wpList Tryd.prog ops Q (o :: rest) act w := by
  obtain ⟨i0, hi, hz0, hz1, hz2⟩ := info_parts Tryd.infoClause
  refine wpList_make_full w hgd l c 27 hop base 73 i0 (.slice none 0 0) 1 Tryd.underlying27 hi hz0 hz1 .i64 .i64 n n n hl hc rfl rfl (by rw [hz2]; omega) (by unfold maxLen; omega) hbase ?_
  intro w' h1 h2
  rw [made_clauses] at h1
  refine h w' ⟨(fun ad e hx => by cases e; have := hX _ hx; simp at this), List.replicate n (Value.slice none 0 0), by rw [List.length_replicate]; exact h1, fun i x hx => ?_⟩ ⟨h2.os, h2.tape, h2.output, h2.size, fun k hk => h2.block k hk (by simp)⟩
  rw [List.getElem?_replicate] at hx
  split at hx
  · cases hx
    exact ⟨none, 0, by rw [List.getElem?_replicate, if_pos (by assumption)]; rfl, Ints.nil _ _, ⟨OffX.none X, TagI.none _⟩, Nat.le_refl _, fun _ => rfl⟩
  · cases hx
/-- the first k clauses, then none -/
def M.clTo (cs : List (List Int)) (k : Nat) : List (List Int) := cs.take k ++ List.replicate (cs.length - k) []
theorem M.clTo_set {cs : List (List Int)} {k : Nat} {x : List Int} (h : cs[k]? = some x) : (M.clTo cs k).set k x = M.clTo cs (k + 1) := by
  have hk : k < cs.length := by
    rcases Nat.lt_or_ge k cs.length with h' | h'
    · exact h'
    · rw [List.getElem?_eq_none h'] at h; cases h
  unfold M.clTo
  rw [show cs.length - k = (cs.length - (k + 1)) + 1 by omega, List.replicate_succ, List.set_append_right _ _ (by simp; omega)]
  rw [List.length_take, Nat.min_eq_left (by omega), Nat.sub_self, List.set_cons_zero, List.take_add_one, h]
  simp
def ClausesPost (Y : Nat → Prop) (w : World) (cs : List (List Int)) (e : Ending) (w' : World) : Prop :=
  e = .returned (.slice (some ⟨w.heap.size, 0, none⟩) cs.length cs.length) ∧ OwnC Y w' w.heap.size (some ⟨w.heap.size, 0, none⟩) cs.length cs ∧ Below w.heap.size w w'
set_option maxHeartbeats 1000000 in
theorem clauses_any (base p vars : Nat) (cs : List (List Int)) (a : Option Addr) (c : Nat) (w : World) (hF : Fm X w base p vars cs a c) (hY : XLt Y w) :
    Calls Tryd.prog 24 #[.pointer (some ⟨p, 0, none⟩)] w (ClausesPost Y w cs) := by
  have h1 := hF.cell1
  have hps := hF.lt
  have hlen := hF.len
  have H1 := Lib.hid h1
  go_enter Tryd.func24, Tryd.ntmps24
  go_wp2_with (at_make; refine wpList_make_Clauses rfl (.tmp 10) (.tmp 10) rfl w.heap.size cs.length rfl rfl hlen (Nat.le_refl _) hY ?_; intro w1 hown hb1; have hk1 := (hF.below hb1).cell1; have HO := Lib.hid hown; have HB1 := Lib.hid hb1; clear hown hb1)
  go_loopw [4, 5, 17] (fun _ _ i wr => ∃ k : Nat, k ≤ cs.length ∧ i = .int .i64 k ∧ OwnC Y wr w.heap.size (some ⟨w.heap.size, 0, none⟩) cs.length (M.clTo cs k) ∧ Below w.heap.size w wr) (fun _ _ i _ => cs.length - (intOf i).toNat)
  case atStart => exact ⟨0, Nat.zero_le _, rfl, by simpa [M.clTo] using HO.out, HB1.out⟩
  case round =>
    obtain ⟨k, hk, rfl, ho, hb⟩ := hrel
    have HOW := Lib.hid ho
    have HB := Lib.hid hb
    clear ho hb h1 hk1
    by_cases hlt : k < cs.length
    · have hFr := hF.below HB.out
      obtain ⟨g, rfl, hgl⟩ := hFr.own.addr0 (by omega)
      obtain ⟨x, hx⟩ : ∃ x, cs[k]? = some x := ⟨cs[k], by simp [hlt]⟩
      obtain ⟨a', c', hcell, hi, ht, hcp, hnn⟩ := hFr.own.cell hx
      have HX := Lib.hid hx
      have HNN := Lib.hid hnn
      clear hx hnn hFr
      go_wp2_with fail
      refine (cloneC_any _ _ _ _ hi HNN.out).mono ?_
      rintro e w2 ⟨a2, c2, rfl, i1, i2, i3, i4, i5⟩
      have hO2 := HOW.out.below i4
      have hfz := hO2.frozen k
      obtain ⟨y, hy⟩ : ∃ y, (M.clTo cs k)[k]? = some y := ⟨_, List.getElem?_eq_getElem (by simp [M.clTo]; omega)⟩
      obtain ⟨a3, c3, hck, _⟩ := hO2.cell hy
      have HI1 := Lib.hid i1
      have HI3 := Lib.hid i3
      have HI4 := Lib.hid i4
      have HI5 := Lib.hid (i5.x (hY.mono HB.out.size))
      have HO2 := Lib.hid hO2
      clear hy hO2 i1 i3 i4 i5
      go_wp2
      go_roundw
      case rel =>
        refine ⟨k + 1, by omega, by go_num, ?_, (below_next HB.out HI4.out).setCell (Nat.le_refl _) _⟩
        rw [← M.clTo_set HX.out]
        exact HO2.out.stored k HI1.out HI5.out i2 HI3.out
      case measure => simp [intOf]; omega
    · go_wp2
      go_ret
      obtain rfl : k = cs.length := by omega
      exact ⟨rfl, by simpa [M.clTo] using HOW.out, HB.out⟩
theorem vars_any (p vars : Nat) (w : World) (h0 : w.cell? ⟨p, 0, none⟩ = some (.int .i64 vars)) :
    Calls Tryd.prog 22 #[.pointer (some ⟨p, 0, none⟩)] w fun e w' => e = .returned (.int .i64 vars) ∧ w = w' := by
  go_enter Tryd.func22, Tryd.ntmps22
  go_wp2
  go_ret
  exact ⟨rfl, rfl⟩
end Go.Proofs.YtgpifbhfnbkgoaaDoor
