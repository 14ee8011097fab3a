/- errors.Is on the sentinels of package api, haversacknum.Num (beside rules and reduce). -/
import Derived.Test.YtnmcajinaigcjaaGreatDoorQLaid
import Derived.Test.YtnmcajinaigcjaaGreatDoorQBig
import Derived.LaidEql
import Derived.Stop.Asserts
import Derived.Stop.LaidErr
import Derived.RowKitTokens
namespace Go.Proofs.YtnmcajinaigcjaaGreatDoor
open Go.RowKit Go.Extern.Stop Go.Stop Go.Extern

/-! ### closed facts: what errors.Is asks of such an error -/
theorem Tryz.isTypeOf (v : Value) (w : World) : (callFunc 60 #[.iface 226 v]).run Tryz.prog w = .ok (.value (.iface 157 (.agg #[.pointer (some ⟨13, 226, none⟩)]))) w := by kernel_rfl
theorem Tryz.isComparable (w : World) : (callFunc 191 #[.agg #[.pointer (some ⟨13, 226, none⟩)]]).run Tryz.prog w = .ok (.value (.bool true)) w := by kernel_rfl
theorem Tryz.isMethodComparable (k : Nat) (v : Value) (w : World) : (Go.method (k + 1) 157 v "Comparable").run Tryz.prog w = .ok (191, v) w := by kernel_rfl
theorem Tryz.isComp : (Tryz.prog.info? 226).map (·.comparable) = some true := by kernel_rfl
theorem Tryz.isSize : (Tryz.prog.info? 250).map (·.size) = some 1 := by kernel_rfl
theorem Tryz.noIsE (v : Value) (xT : TypeId) (w : World) : (Instr.typeAssert (.iface 226 v) xT 159 true).run Tryz.prog w = .ok (.tuple #[.nilIface, .bool false]) w := run_typeAssert_lacksB Tryz.underlying159 (by kernel_rfl) (by kernel_rfl) v xT w
theorem Tryz.noUnwrapE (v : Value) (xT : TypeId) (w : World) : (Instr.typeAssert (.iface 226 v) xT 162 true).run Tryz.prog w = .ok (.tuple #[.nilIface, .bool false]) w := run_typeAssert_lacksB Tryz.underlying162 (by kernel_rfl) (by kernel_rfl) v xT w
theorem Tryz.noUnwrapsE (v : Value) (xT : TypeId) (w : World) : (Instr.typeAssert (.iface 226 v) xT 163 true).run Tryz.prog w = .ok (.tuple #[.nilIface, .bool false]) w := run_typeAssert_lacksB Tryz.underlying163 (by kernel_rfl) (by kernel_rfl) v xT w

set_option maxRecDepth 100000 in
/-- errors.Is(x, x) -/
theorem is_same (a : Addr) (w : World) :
    Calls Tryz.prog 31 #[errAt a, errAt a] w fun e w' => e = .returned (.bool true) ∧ w = w' := by
  obtain ⟨i, hi, hcmp⟩ := Option.map_eq_some_iff.1 Tryz.isComp
  obtain ⟨j, hj, hjs⟩ := Option.map_eq_some_iff.1 Tryz.isSize
  have tT := Tryz.isTypeOf
  have cT := Tryz.isComparable
  have mR := Tryz.isMethodComparable
  have heq := run_eql_iface_ptr_same (P := Tryz.prog) w a Tryz.underlying28 Tryz.underlying226 hi hcmp hj
  unfold errAt
  go_enter Tryz.func31, Tryz.ntmps31
  go_wp2
  refine wp_loop_rounds 1 ?_
  rw [rounds_succ]
  go_wp2
  go_ret
  exact ⟨rfl, rfl⟩
set_option maxRecDepth 100000 in
/-- errors.Is(x, y) -/
theorem is_other (a b : Addr) (ca cb : Array Value) (ta tb : TypeId) (w : World) (hne : a ≠ b) (ha : w.heap[a.block]? = some (.cells ca ta (0, 0))) (hb : w.heap[b.block]? = some (.cells cb tb (0, 0))) :
    Calls Tryz.prog 31 #[errAt a, errAt b] w fun e w' => e = .returned (.bool false) ∧ w = w' := by
  obtain ⟨i, hi, hcmp⟩ := Option.map_eq_some_iff.1 Tryz.isComp
  obtain ⟨j, hj, hjs⟩ := Option.map_eq_some_iff.1 Tryz.isSize
  have tT := Tryz.isTypeOf
  have cT := Tryz.isComparable
  have mR := Tryz.isMethodComparable
  have nE := Tryz.noIsE
  have uE := Tryz.noUnwrapE
  have vE := Tryz.noUnwrapsE
  have heq := run_eql_iface_ptr_other (P := Tryz.prog) w Tryz.underlying28 Tryz.underlying226 hi hcmp hj (by rw [hjs]; decide) hne ha hb
  unfold errAt
  go_enter Tryz.func31, Tryz.ntmps31
  go_wp2
  refine wp_loop_rounds 1 ?_
  rw [rounds_succ]
  go_wp2
  go_ret
  exact ⟨rfl, rfl⟩
/-- an error against nil -/
theorem eqlErr (a : Addr) (w : World) : (binOp .eql 28 (errAt a) .nilIface).run Tryz.prog w = .ok (.bool false) w := by kernel_rfl
theorem neqErr (a : Addr) (w : World) : (binOp .neq 28 (errAt a) .nilIface).run Tryz.prog w = .ok (.bool true) w := by kernel_rfl
theorem eqlErrG (a : Addr) (x y : Operand) (w : World) : (eqGuard .eql 28 x y (errAt a) .nilIface).run Tryz.prog w = .ok () w := by
  unfold eqGuard errAt; simp
theorem neqErrG (a : Addr) (x y : Operand) (w : World) : (eqGuard .neq 28 x y (errAt a) .nilIface).run Tryz.prog w = .ok () w := by
  unfold eqGuard errAt; simp
/-- the variables in the order of the document's table -/
def errG : List Nat := [2, 3, 0, 4, 5, 6, 7, 8, 9, 1, 10, 11, 12]
/-- all thirteen, at different places -/
structure Errs (w : World) (A : Nat → Addr) : Prop where
  at' : ∀ i g, errG[i]? = some g → ErrIn w g (A i)
  apart : ∀ i j, i < 13 → j < 13 → A i = A j → i = j
theorem Errs.below {w w' : World} {A : Nat → Addr} (h : Errs w A) (hb : Below w.heap.size w w') : Errs w' A := ⟨fun i g hg => (h.at' i g hg).below hb, h.apart⟩
theorem num_nil (w : World) : Calls Tryz.prog 9 #[.nilIface] w fun e w' => e = .returned (.int .i64 0) ∧ w = w' := by
  go_enter Tryz.func9, Tryz.ntmps9
  go_wp2
  go_ret
  exact ⟨rfl, rfl⟩
theorem num_list (w : World) (vs : Array Value) (t : TypeId) (i : Nat) (v : Value) (h : vs[i]? = some v) : (w.alloc (.cells vs t)).cell? ⟨w.heap.size, i, none⟩ = some v := by
  exact (cell_of_cells (w := w.alloc (.cells vs t)) (g := w.heap.size) (cur := vs) (e := t) (m := (0, 0)) (by show (w.heap.push _)[w.heap.size]? = _; simp) i).trans h
set_option maxHeartbeats 400000 in
set_option maxRecDepth 100000 in
theorem num_err (A : Nat → Addr) (n : Nat) (w : World) (hn : n < 13) (h : Errs w A) : Calls Tryz.prog 9 #[errAt (A n)] w fun e w' => e = .returned (.int .i64 ((n : Int) + 1)) ∧ Below w.heap.size w w' := by
  have hneq := eqlErr (A n)
  have hneg := eqlErrG (A n)
  unfold errAt at hneq hneg
  have c0 := (h.at' 0 _ rfl).cell
  unfold errAt at c0
  have c1 := (h.at' 1 _ rfl).cell
  unfold errAt at c1
  have c2 := (h.at' 2 _ rfl).cell
  unfold errAt at c2
  have c3 := (h.at' 3 _ rfl).cell
  unfold errAt at c3
  have c4 := (h.at' 4 _ rfl).cell
  unfold errAt at c4
  have c5 := (h.at' 5 _ rfl).cell
  unfold errAt at c5
  have c6 := (h.at' 6 _ rfl).cell
  unfold errAt at c6
  have c7 := (h.at' 7 _ rfl).cell
  unfold errAt at c7
  have c8 := (h.at' 8 _ rfl).cell
  unfold errAt at c8
  have c9 := (h.at' 9 _ rfl).cell
  unfold errAt at c9
  have c10 := (h.at' 10 _ rfl).cell
  unfold errAt at c10
  have c11 := (h.at' 11 _ rfl).cell
  unfold errAt at c11
  have c12 := (h.at' 12 _ rfl).cell
  unfold errAt at c12
  have HE := Lib.hid h
  clear h
  unfold errAt
  go_enter Tryz.func9, Tryz.ntmps9
  go_wp2
  have hcl : ∀ j, j < 13 → (w.alloc (.cells #[.iface 226 (.pointer (some (A 0))), .iface 226 (.pointer (some (A 1))), .iface 226 (.pointer (some (A 2))), .iface 226 (.pointer (some (A 3))), .iface 226 (.pointer (some (A 4))), .iface 226 (.pointer (some (A 5))), .iface 226 (.pointer (some (A 6))), .iface 226 (.pointer (some (A 7))), .iface 226 (.pointer (some (A 8))), .iface 226 (.pointer (some (A 9))), .iface 226 (.pointer (some (A 10))), .iface 226 (.pointer (some (A 11))), .iface 226 (.pointer (some (A 12)))] 28)).cell? ⟨w.heap.size, j, none⟩ = some (.iface 226 (.pointer (some (A j)))) := by
    intro j hj
    refine num_list w _ _ j _ ?_
    match j, hj with
    | 0, _ => rfl | 1, _ => rfl | 2, _ => rfl | 3, _ => rfl | 4, _ => rfl | 5, _ => rfl | 6, _ => rfl | 7, _ => rfl | 8, _ => rfl | 9, _ => rfl | 10, _ => rfl | 11, _ => rfl | 12, _ => rfl
  have HCL := Lib.hid hcl
  have hbW : Below w.heap.size w (w.alloc (.cells #[.iface 226 (.pointer (some (A 0))), .iface 226 (.pointer (some (A 1))), .iface 226 (.pointer (some (A 2))), .iface 226 (.pointer (some (A 3))), .iface 226 (.pointer (some (A 4))), .iface 226 (.pointer (some (A 5))), .iface 226 (.pointer (some (A 6))), .iface 226 (.pointer (some (A 7))), .iface 226 (.pointer (some (A 8))), .iface 226 (.pointer (some (A 9))), .iface 226 (.pointer (some (A 10))), .iface 226 (.pointer (some (A 11))), .iface 226 (.pointer (some (A 12)))] 28)) := b1 w _
  have HBW := Lib.hid hbW
  clear c0 c1 c2 c3 c4 c5 c6 c7 c8 c9 c10 c11 c12 hcl hbW
  generalize hgen : w.alloc (.cells #[.iface 226 (.pointer (some (A 0))), .iface 226 (.pointer (some (A 1))), .iface 226 (.pointer (some (A 2))), .iface 226 (.pointer (some (A 3))), .iface 226 (.pointer (some (A 4))), .iface 226 (.pointer (some (A 5))), .iface 226 (.pointer (some (A 6))), .iface 226 (.pointer (some (A 7))), .iface 226 (.pointer (some (A 8))), .iface 226 (.pointer (some (A 9))), .iface 226 (.pointer (some (A 10))), .iface 226 (.pointer (some (A 11))), .iface 226 (.pointer (some (A 12)))] 28) = W at *
  clear hgen
  go_loop [4, 5, 24] (fun _ _ i => ∃ j : Nat, j ≤ n ∧ i = .int .i64 j) (fun _ _ i => 13 - (intOf i).toNat)
  case atStart => exact ⟨0, Nat.zero_le _, rfl⟩
  case round =>
    obtain ⟨j, hj, rfl⟩ := hrel
    have hcell := HCL.out j (by omega)
    have hj13 : (j : Int) < 13 := by omega
    have hE := HE.out.below HBW.out
    by_cases hjn : j = n
    · subst hjn
      have hs := is_same (A j) W
      unfold errAt at hs
      have HS := Lib.hid hs
      clear hE hs
      go_wp2_with (go_at_call 31; refine HS.out.mono ?_; rintro e w' ⟨rfl, rfl⟩)
      go_ret
      exact ⟨rfl, HBW.out⟩
    · have ho : Calls Tryz.prog 31 #[errAt (A n), errAt (A j)] W fun e w' => e = .returned (.bool false) ∧ W = w' := by
        obtain ⟨gn, hgn⟩ : ∃ g, errG[n]? = some g := ⟨_, List.getElem?_eq_getElem (by simpa [errG] using hn)⟩
        obtain ⟨gj, hgj⟩ : ∃ g, errG[j]? = some g := ⟨_, List.getElem?_eq_getElem (by simp [errG]; omega)⟩
        obtain ⟨c1, t1, r1⟩ := (hE.at' n gn hgn).row
        obtain ⟨c2, t2, r2⟩ := (hE.at' j gj hgj).row
        exact is_other (A n) (A j) c1 c2 t1 t2 W (fun e => hjn (hE.apart n j hn (by omega) e).symm) r1 r2
      unfold errAt at ho
      have HS := Lib.hid ho
      clear hE ho
      go_wp2_with (go_at_call 31; refine HS.out.mono ?_; rintro e w' ⟨rfl, rfl⟩)
      go_round
      case rel => exact ⟨j + 1, by omega, by go_num⟩
      case measure => simp [intOf]; omega
end Go.Proofs.YtnmcajinaigcjaaGreatDoor
