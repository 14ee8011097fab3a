/- (*cnf.Formula).Many. -/
import Derived.Test.YtgpifbhfnbkgoaaDoorCnf
namespace Go.Proofs.YtgpifbhfnbkgoaaDoor
open Go.RowKit
variable {X : Nat → Prop}

theorem made_ints (n : Nat) : (madeCells (Value.int .i64 0).cells (n * 1)).toList = (List.replicate n (0 : Int)).map (Value.int .i64) := by
  apply List.ext_getElem?
  intro i
  simp only [madeCells, Value.cells, Nat.mul_one, List.map_replicate]
  by_cases h : i < n
  · simp [h, Nat.mod_one]
  · simp [h]
/-- make([]int, n) -/
theorem wpList_make_Ints {w : World} {ops : Array Oper} {rest : List Oper} {o : Oper} {act : Act} {Q : Exit → Act → World → Prop} (hgd : o.guard = none) (l c : Operand) (t : TypeId) (hop : o.op = Op.makeSlice t l c) (ht : Tryd.prog.underlying t = some (.slice 3))
    (base n : Nat) (hl : act.eval l = .int .i64 n) (hc : act.eval c = .int .i64 n) (hn : n ≤ 17592186043904) (hbase : base ≤ w.heap.size)
    (h : ∀ w', OwnI w' base (some ⟨w.heap.size, 0, none⟩) n (List.replicate n 0) → Below w.heap.size w w' → w.heap.size < w'.heap.size → wpList Tryd.prog ops Q rest (act.put o.dst (.slice (some ⟨w.heap.size, 0, none⟩) n n)) w') :
    wpList Tryd.prog ops Q (o :: rest) act w := by
  obtain ⟨i0, hi, hz0, hz1, hz2⟩ := info_parts Tryd.infoInt
  refine wpList_make_full w hgd l c t hop base 3 i0 (.int .i64 0) 1 ht hi hz0 hz1 .i64 .i64 n n n hl hc rfl rfl (by rw [hz2]; omega) (by unfold maxLen; omega) hbase ?_
  intro w' h1 h2
  rw [made_ints] at h1
  have h3 : OwnI w' base (some ⟨w.heap.size, 0, none⟩) n (List.replicate n 0) := by
    unfold OwnI; rw [List.length_replicate]; exact h1
  refine h w' h3 ⟨h2.os, h2.tape, h2.output, h2.size, fun k hk => h2.block k hk (by simp)⟩ ?_
  rcases h3.parts with ⟨e, _⟩ | ⟨g, cur, e, _, hlt, _⟩
  · cases e
  · cases e; exact hlt
theorem OwnI.stored {w : World} {base g c : Nat} {ys : List Int} (h : OwnI w base (some ⟨g, 0, none⟩) c ys) (j : Nat) (u : Int) : OwnI (w.setCell ⟨g, j, none⟩ (.int .i64 u)) base (some ⟨g, 0, none⟩) c (ys.set j u) := by
  have := (World.ownsRow.stored h j (.int .i64 u)).1
  unfold OwnI
  rw [List.length_set, List.map_set]; exact this
theorem OwnI.frozen {w : World} {base g c : Nat} {ys : List Int} (h : OwnI w base (some ⟨g, 0, none⟩) c ys) (i : Nat) : w.frozen? ⟨g, i, none⟩ = false := by
  rcases h.parts with ⟨e, _⟩ | ⟨g', cur, e, _, _, hg, _⟩
  · cases e
  · cases e; simp [World.frozen?, hg]
theorem OwnI.tag {w : World} {base c : Nat} {a : Option Addr} {ys : List Int} (h : OwnI w base a c ys) : TagI w a := by
  intro ad e
  rcases h.parts with ⟨e', _⟩ | ⟨g', cur, e', _, _, hg, _⟩
  · rw [e'] at e; cases e
  · rw [e'] at e; cases e; exact ⟨cur, _, hg⟩
/-- all but block p stands -/
structure AllBut (p : Nat) (w w' : World) : Prop where
  os : w'.os = w.os
  tape : w'.tape = w.tape
  output : w'.output = w.output
  size : w.heap.size ≤ w'.heap.size
  block : ∀ k, k < w.heap.size → k ≠ p → w'.heap[k]? = w.heap[k]?
theorem AllBut.of_below {p : Nat} {w w' : World} (h : Below w.heap.size w w') : AllBut p w w' := ⟨h.os, h.tape, h.output, h.size, fun k hk _ => h.block k hk⟩
theorem AllBut.set {p : Nat} {w w' : World} (h : AllBut p w w') (q i : Nat) (v : Value) (hq : q = p ∨ w.heap.size ≤ q) : AllBut p w (w'.setCell ⟨q, i, none⟩ v) :=
  ⟨h.os, h.tape, h.output, by simpa [World.setCell] using h.size, fun k hk hkp => by
    rw [Below.heap_setCell _ _ _ _ (by show k ≠ q; rcases hq with rfl | hq; exact hkp; omega)]; exact h.block k hk hkp⟩
theorem Fm.setV {w w' : World} {base p vars v : Nat} {cs : List (List Int)} {a : Option Addr} {c : Nat} (h : Fm X w base p vars cs a c) (hk : AllBut p w w') (hp : w'.heap[p]? = some (.cells #[.int .i64 v, .slice a cs.length c] 75 (0, 0))) (hv : v ≤ 20000) :
    Fm X w' base p v cs a c ∧ KeepsF p a w w' := by
  have hK : KeepsF p a w w' := ⟨hk.os, hk.tape, hk.output, hk.size, fun k hlt hkp _ => hk.block k hlt hkp⟩
  refine ⟨⟨h.le, hp, ?_, hv, h.len, h.xlt.mono hk.size, h.xp⟩, hK⟩
  obtain ⟨hoff, vals, hr, hv⟩ := h.own
  refine ⟨hoff, vals, ⟨hr.1, ?_⟩, fun i y hy => ?_⟩
  · rcases hr.2 with h0 | ⟨g, cap, cur, e, hbg, hgg, r⟩
    · exact .inl h0
    · refine .inr ⟨g, cap, cur, e, hbg, (hk.block g (Array.getElem?_eq_some_iff.1 hgg).1 fun e' => ?_).trans hgg, r⟩
      rw [e', h.blk] at hgg; cases hgg
  · obtain ⟨a1, c1, e1, e2, e3, e4, e5⟩ := hv i y hy
    have key : ∀ ad, a1 = some ad → w'.heap[ad.block]? = w.heap[ad.block]? := by
      intro ad e
      obtain ⟨cur, m, hc⟩ := e3.tag ad e
      refine hk.block _ (Array.getElem?_eq_some_iff.1 hc).1 fun e' => ?_
      rw [e', h.blk] at hc; cases hc
    exact ⟨a1, c1, e1, e2.same hk.size key, ⟨e3.off, e3.tag.same key⟩, e4, e5⟩
/-- numbers from v + 1 on -/
def M.iota (v n : Nat) : List Int := (List.range n).map fun (i : Nat) => (v : Int) + 1 + (i : Int)
theorem M.iota_length (v n : Nat) : (M.iota v n).length = n := by simp [M.iota]
def M.iotaTo (v n k : Nat) : List Int := M.iota v k ++ List.replicate (n - k) 0
theorem M.iotaTo_length (v n k : Nat) (h : k ≤ n) : (M.iotaTo v n k).length = n := by simp [M.iotaTo, M.iota]; omega
theorem M.iotaTo_set (v n k : Nat) (h : k < n) : (M.iotaTo v n k).set k ((v : Int) + (k : Int) + 1) = M.iotaTo v n (k + 1) := by
  unfold M.iotaTo
  rw [show n - k = (n - (k + 1)) + 1 by omega, List.replicate_succ, List.set_append_right _ _ (by simp [M.iota_length])]
  rw [M.iota_length, Nat.sub_self, List.set_cons_zero]
  have : M.iota v (k + 1) = M.iota v k ++ [(v : Int) + (k : Int) + 1] := by
    simp [M.iota, List.range_succ]; omega
  rw [this]; simp
def ManyOk (X : Nat → Prop) (w : World) (base p vars n : Nat) (cs : List (List Int)) (a : Option Addr) (c : Nat) (e : Ending) (w' : World) : Prop :=
  e = .returned (.tuple #[.slice (some ⟨w.heap.size, 0, none⟩) n n, .nilIface]) ∧ Fm X w' base p (vars + n) cs a c ∧ OwnI w' base (some ⟨w.heap.size, 0, none⟩) n (M.iota vars n) ∧ AllBut p w w'
theorem many_step {w wr : World} {base p vars n k : Nat} {cs : List (List Int)} {a : Option Addr} {c : Nat} (hlt : k < n) (hps : p < w.heap.size)
    (hp : wr.heap[p]? = some (.cells #[.int .i64 ((vars + k : Nat) : Int), .slice a cs.length c] 75 (0, 0))) (ho : OwnI wr base (some ⟨w.heap.size, 0, none⟩) n (M.iotaTo vars n k)) (hall : AllBut p w wr) :
    ((wr.setCell ⟨p, 0, none⟩ (.int .i64 ((vars : Int) + (k : Int) + 1))).setCell ⟨w.heap.size, k, none⟩ (.int .i64 ((vars : Int) + (k : Int) + 1))).heap[p]? = some (.cells #[.int .i64 ((vars + (k + 1) : Nat) : Int), .slice a cs.length c] 75 (0, 0)) ∧
    OwnI ((wr.setCell ⟨p, 0, none⟩ (.int .i64 ((vars : Int) + (k : Int) + 1))).setCell ⟨w.heap.size, k, none⟩ (.int .i64 ((vars : Int) + (k : Int) + 1))) base (some ⟨w.heap.size, 0, none⟩) n (M.iotaTo vars n (k + 1)) ∧
    AllBut p w ((wr.setCell ⟨p, 0, none⟩ (.int .i64 ((vars : Int) + (k : Int) + 1))).setCell ⟨w.heap.size, k, none⟩ (.int .i64 ((vars : Int) + (k : Int) + 1))) := by
  refine ⟨?_, ?_, (hall.set p 0 _ (.inl rfl)).set _ _ _ (.inr (Nat.le_refl _))⟩
  · rw [Below.heap_setCell _ _ _ _ (by show p ≠ w.heap.size; omega)]
    simp [World.setCell, Array.getElem?_modify, hp]
    omega
  · rw [← M.iotaTo_set vars n k hlt]
    refine OwnI.stored (OwnI.kept ho fun g cur _ hg => Below.heap_setCell _ _ _ _ fun e => ?_) k _
    rw [show g = p from e, hp] at hg; cases hg
set_option maxHeartbeats 1000000 in
theorem many_ok (base p vars n : Nat) (cs : List (List Int)) (a : Option Addr) (c : Nat) (w : World) (hF : Fm X w base p vars cs a c) (hn : 1 ≤ n) (hv : vars + n ≤ 20000) (hb : base ≤ w.heap.size) :
    Calls Tryd.prog 17 #[.pointer (some ⟨p, 0, none⟩), .int .i64 n] w (ManyOk X w base p vars n cs a c) := by
  have h0 := hF.cell0
  have hps := hF.lt
  go_enter Tryd.func17, Tryd.ntmps17
  go_wp2_with (at_make; refine wpList_make_Ints rfl (.tmp 18) (.tmp 18) 30 rfl Tryd.underlying30 base n rfl rfl (by omega) hb ?_; intro w1 hown hb1 hlt1; have HO := Lib.hid hown; have HB1 := Lib.hid hb1; clear hown hb1)
  go_loopw [7, 22] (fun _ i wr => ∃ k : Nat, k ≤ n ∧ i = .int .i64 k ∧ wr.heap[p]? = some (.cells #[.int .i64 ((vars + k : Nat) : Int), .slice a cs.length c] 75 (0, 0)) ∧ OwnI wr base (some ⟨w.heap.size, 0, none⟩) n (M.iotaTo vars n k) ∧ AllBut p w wr) (fun _ i _ => n - (intOf i).toNat)
  case atStart =>
    refine ⟨0, Nat.zero_le _, rfl, ?_, ?_, AllBut.of_below HB1.out⟩
    · exact (HB1.out.block p hps).trans hF.blk
    · simpa [M.iotaTo, M.iota] using HO.out
  case round =>
    obtain ⟨k, hk, rfl, hp, ho, hall⟩ := hrel
    have hc0 : wr.cell? ⟨p, 0, none⟩ = some (.int .i64 ((vars : Int) + (k : Int))) := by rw [cell_of_cells hp]; simp
    have hf0 : wr.frozen? ⟨p, 0, none⟩ = false := by simp [World.frozen?, hp]
    have HP := Lib.hid hp
    have HOW := Lib.hid ho
    have HALL := Lib.hid hall
    clear hp hall
    by_cases hlt : k < n
    · have hg : wr.cell? ⟨w.heap.size, k, none⟩ = some (.int .i64 0) := by
        have hi := ho.ints (fun z hz => by
          simp [M.iotaTo, M.iota] at hz
          rcases hz with ⟨j, hj, rfl⟩ | ⟨_, rfl⟩
          · constructor <;> omega
          · constructor <;> omega) (by rw [M.iotaTo_length _ _ _ hk]; omega)
        obtain ⟨b, off, e, _, hc⟩ := hi.addr (by rw [M.iotaTo_length _ _ _ hk]; omega)
        cases e
        have := hc k 0 (by rw [M.iotaTo, List.getElem?_append_right (by simp [M.iota_length]), M.iota_length, Nat.sub_self, List.getElem?_replicate, if_pos (by omega)])
        simpa using this
      have hgf : wr.frozen? ⟨w.heap.size, k, none⟩ = false := ho.frozen k
      have hne : p ≠ w.heap.size := by omega
      clear ho
      go_wp2
      go_roundw
      case rel =>
        obtain ⟨r1, r2, r3⟩ := many_step hlt hps HP.out HOW.out HALL.out
        exact ⟨k + 1, by omega, by go_num, r1, r2, r3⟩
      case measure => simp [intOf]; omega
    · go_wp2
      go_ret2
      obtain rfl : k = n := by omega
      obtain ⟨r1, r2⟩ := hF.setV HALL.out HP.out hv
      refine ⟨rfl, r1, ?_, HALL.out⟩
      have := HOW.out
      simpa [M.iotaTo] using this
theorem many_zero (p : Nat) (n : Int) (w : World) (hn : n < 1) :
    Calls Tryd.prog 17 #[.pointer (some ⟨p, 0, none⟩), .int .i64 n] w fun e w' => e = .returned (.tuple #[.slice none 0 0, .nilIface]) ∧ w = w' := by
  go_enter Tryd.func17, Tryd.ntmps17
  go_wp2
  go_ret2
  exact ⟨rfl, rfl⟩
theorem many_limit (p vars : Nat) (n : Int) (v : Value) (w : World) (h0 : w.cell? ⟨p, 0, none⟩ = some (.int .i64 vars)) (hv : vars ≤ 20000) (hn : 1 ≤ n) (hl : 20000 - (vars : Int) < n) (hg : w.cell? ⟨11, 0, none⟩ = some v) :
    Calls Tryd.prog 17 #[.pointer (some ⟨p, 0, none⟩), .int .i64 n] w fun e w' => e = .returned (.tuple #[.slice none 0 0, v]) ∧ ∃ q, w' = w.drewN q := by
  go_enter Tryd.func17, Tryd.ntmps17
  go_wp2
  go_quiet (fail)
  go_wp2
  go_ret2
  exact ⟨rfl, _, rfl⟩
end Go.Proofs.YtgpifbhfnbkgoaaDoor
