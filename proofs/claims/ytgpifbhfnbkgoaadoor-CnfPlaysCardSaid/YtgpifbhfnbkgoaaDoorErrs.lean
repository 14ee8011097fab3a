/- The sentinels of package api, errors.Is on them, haversacknum.Num. -/
import Derived.Test.YtgpifbhfnbkgoaaDoorCnf
import Derived.LaidEql
import Derived.Stop.Asserts
import Derived.Stop.LaidErr
import Derived.RowKitTokens
namespace Go.Proofs.YtgpifbhfnbkgoaaDoor
open Go.RowKit Go.Extern.Stop Go.Stop Go.Extern

/-- the sentinels that are listed lie at different places -/
theorem laid_many {P : Program} {nm : String} {W : World} {ti tp te ts : TypeId} {ms : Array (String × TypeId)} {f : Field}
    (hi : P.underlying ti = some (.interface ms)) (hrow : ∀ u, P.typeName? 3 u = some nm → u = tp)
    (hp : P.underlying tp = some (.pointer te)) (he : P.underlying te = some (.struct #[f])) (hft : f.type = ts) (hfo : f.offset = 0) (hs : P.underlying ts = some .string) (hc : P.cellsOf te = 1) (hcs : P.cellsOf ts = 1) :
    ∀ (ns : List (String × List UInt8)) (ps : List MemPlace), DataW.LaidVars P W (ns.map fun n => (n.1, DataW.iface nm (.ptr (.agg [.lit (.string n.2)])))) ps → ps.Nodup →
      (∀ b off, MemPlace.cell b off ∈ ps → (∃ c t, W.heap[b]? = some (.cells c t (0, 0))) ∧ ∀ u v, W.cell? ⟨b, off, none⟩ = some (.iface u v) → Value.okWide P W .any 0 u v) →
      (∀ n ∈ ns, ∀ g, P.globalNamed n.1 = some g → (P.globals[g]?).map (·.type) = some ti) →
      ∃ ads : List Addr, ads.length = ns.length ∧ ads.Nodup ∧ (∀ a ∈ ads, MemPlace.cell a.block a.off ∈ ps) ∧ ∀ (i : Nat) (n : String × List UInt8) (a : Addr), ns[i]? = some n → ads[i]? = some a → W.var? P n.1 = some #[.iface tp (.pointer (some a))] ∧ ∃ c t, W.heap[a.block]? = some (.cells c t (0, 0))
  | [], _, _, _, _, _ => ⟨[], rfl, List.nodup_nil, fun a h => by simp at h, fun i n a h => by simp at h⟩
  | n0 :: ns, ps, h, hnd, hrows, hty => by
    obtain ⟨g, t, cs, fuel, p, q, hg, ht, hv, hd, hr, rfl⟩ := h
    have hti := hty n0 (by simp) g hg
    obtain rfl := Option.some.inj (hti.symm.trans ht)
    obtain ⟨l0⟩ := cs
    have ok0 : ∀ u v, l0 = [.iface u v] → Value.okWide P W .any 0 u v := fun u v e => by
      subst e
      exact (hrows g 0 (by simp [MemPlace.row])).2 u v (by simpa using World.var?_cell hg hv 0)
    obtain ⟨a0, s0, rfl, hc0, hs0, hz0, rfl⟩ := errorString_of_trod hi hrow hp he hft hfo hs hc hcs hd ok0
    have hnd' := (List.nodup_append.1 hnd)
    obtain ⟨ads, h1, h2, h3, h4⟩ := laid_many hi hrow hp he hft hfo hs hc hcs ns q hr hnd'.2.1 (fun b off hb => hrows b off (List.mem_append_right _ hb)) (fun n hn => hty n (List.mem_cons_of_mem _ hn))
    refine ⟨a0 :: ads, by simp [h1], ?_, ?_, ?_⟩
    · refine List.nodup_cons.2 ⟨fun hm => ?_, h2⟩
      have := h3 a0 hm
      refine hnd'.2.2 _ ?_ _ this rfl
      simp [MemPlace.row]
    · intro a ha
      rcases List.mem_cons.1 ha with rfl | ha
      · simp [MemPlace.row]
      · exact List.mem_append_right _ (h3 a ha)
    · intro i n a hn ha
      cases i with
      | zero =>
        simp at hn ha
        subst hn ha
        exact ⟨hv, (hrows a0.block a0.off (by simp [MemPlace.row])).1⟩
      | succ i => exact h4 i n a (by simpa using hn) (by simpa using ha)
/-- an error of package api -/
def errAt (a : Addr) : Value := .iface 208 (.pointer (some a))
/-- the variable g holds the error at a -/
structure ErrIn (w : World) (g : Nat) (a : Addr) : Prop where
  cell : w.cell? ⟨g, 0, none⟩ = some (errAt a)
  row : ∃ c t, w.heap[a.block]? = some (.cells c t (0, 0))
theorem ErrIn.below {w w' : World} {g : Nat} {a : Addr} (h : ErrIn w g a) (hb : Below w.heap.size w w') : ErrIn w' g a := by
  obtain ⟨c, t, hr⟩ := h.row
  refine ⟨?_, c, t, (hb.block _ (Array.getElem?_eq_some_iff.1 hr).1).trans hr⟩
  have hlt : g < w.heap.size := by
    have := World.block_lt_of_cell? w _ h.cell; exact this
  exact (hb.cell (p := ⟨g, 0, none⟩) hlt).trans h.cell

/-! ### closed facts: what errors.Is asks of such an error -/
theorem Tryd.isTypeOf (v : Value) (w : World) : (callFunc 66 #[.iface 208 v]).run Tryd.prog w = .ok (.value (.iface 142 (.agg #[.pointer (some ⟨13, 208, none⟩)]))) w := by kernel_rfl
theorem Tryd.isComparable (w : World) : (callFunc 170 #[.agg #[.pointer (some ⟨13, 208, none⟩)]]).run Tryd.prog w = .ok (.value (.bool true)) w := by kernel_rfl
theorem Tryd.isMethodComparable (k : Nat) (v : Value) (w : World) : (Go.method (k + 1) 142 v "Comparable").run Tryd.prog w = .ok (170, v) w := by kernel_rfl
theorem Tryd.isComp : (Tryd.prog.info? 208).map (·.comparable) = some true := by kernel_rfl
theorem Tryd.isSize : (Tryd.prog.info? 232).map (·.size) = some 1 := by kernel_rfl
theorem Tryd.noIsE (v : Value) (xT : TypeId) (w : World) : (Instr.typeAssert (.iface 208 v) xT 144 true).run Tryd.prog w = .ok (.tuple #[.nilIface, .bool false]) w := run_typeAssert_lacksB Tryd.underlying144 (by kernel_rfl) (by kernel_rfl) v xT w
theorem Tryd.noUnwrapE (v : Value) (xT : TypeId) (w : World) : (Instr.typeAssert (.iface 208 v) xT 147 true).run Tryd.prog w = .ok (.tuple #[.nilIface, .bool false]) w := run_typeAssert_lacksB Tryd.underlying147 (by kernel_rfl) (by kernel_rfl) v xT w
theorem Tryd.noUnwrapsE (v : Value) (xT : TypeId) (w : World) : (Instr.typeAssert (.iface 208 v) xT 149 true).run Tryd.prog w = .ok (.tuple #[.nilIface, .bool false]) w := run_typeAssert_lacksB Tryd.underlying149 (by kernel_rfl) (by kernel_rfl) v xT w

set_option maxRecDepth 100000 in
/-- errors.Is(x, x) -/
theorem is_same (a : Addr) (w : World) :
    Calls Tryd.prog 39 #[errAt a, errAt a] w fun e w' => e = .returned (.bool true) ∧ w = w' := by
  obtain ⟨i, hi, hcmp⟩ := Option.map_eq_some_iff.1 Tryd.isComp
  obtain ⟨j, hj, hjs⟩ := Option.map_eq_some_iff.1 Tryd.isSize
  have tT := Tryd.isTypeOf
  have cT := Tryd.isComparable
  have mR := Tryd.isMethodComparable
  have heq := run_eql_iface_ptr_same (P := Tryd.prog) w a Tryd.underlying36 Tryd.underlying208 hi hcmp hj
  unfold errAt
  go_enter Tryd.func39, Tryd.ntmps39
  go_wp2
  refine wp_loop_rounds 1 ?_
  rw [rounds_succ]
  go_wp2
  go_ret
  exact ⟨rfl, rfl⟩
set_option maxRecDepth 100000 in
/-- errors.Is(x, y) -/
theorem is_other (a b : Addr) (ca cb : Array Value) (ta tb : TypeId) (w : World) (hne : a ≠ b) (ha : w.heap[a.block]? = some (.cells ca ta (0, 0))) (hb : w.heap[b.block]? = some (.cells cb tb (0, 0))) :
    Calls Tryd.prog 39 #[errAt a, errAt b] w fun e w' => e = .returned (.bool false) ∧ w = w' := by
  obtain ⟨i, hi, hcmp⟩ := Option.map_eq_some_iff.1 Tryd.isComp
  obtain ⟨j, hj, hjs⟩ := Option.map_eq_some_iff.1 Tryd.isSize
  have tT := Tryd.isTypeOf
  have cT := Tryd.isComparable
  have mR := Tryd.isMethodComparable
  have nE := Tryd.noIsE
  have uE := Tryd.noUnwrapE
  have vE := Tryd.noUnwrapsE
  have heq := run_eql_iface_ptr_other (P := Tryd.prog) w Tryd.underlying36 Tryd.underlying208 hi hcmp hj (by rw [hjs]; decide) hne ha hb
  unfold errAt
  go_enter Tryd.func39, Tryd.ntmps39
  go_wp2
  refine wp_loop_rounds 1 ?_
  rw [rounds_succ]
  go_wp2
  go_ret
  exact ⟨rfl, rfl⟩
/-- an error against nil -/
theorem eqlErr (a : Addr) (w : World) : (binOp .eql 36 (errAt a) .nilIface).run Tryd.prog w = .ok (.bool false) w := by kernel_rfl
theorem neqErr (a : Addr) (w : World) : (binOp .neq 36 (errAt a) .nilIface).run Tryd.prog w = .ok (.bool true) w := by kernel_rfl
theorem eqlErrG (a : Addr) (x y : Operand) (w : World) : (eqGuard .eql 36 x y (errAt a) .nilIface).run Tryd.prog w = .ok () w := by
  unfold eqGuard errAt; simp
theorem neqErrG (a : Addr) (x y : Operand) (w : World) : (eqGuard .neq 36 x y (errAt a) .nilIface).run Tryd.prog w = .ok () w := by
  unfold eqGuard errAt; simp
/-- the variables in the order of the document's table -/
def errG : List Nat := [0, 1, 2, 3, 4, 5, 6, 7, 8, 9, 10, 11, 12]
/-- all thirteen, at different places -/
structure Errs (w : World) (A : Nat → Addr) : Prop where
  at' : ∀ i g, errG[i]? = some g → ErrIn w g (A i)
  apart : ∀ i j, i < 13 → j < 13 → A i = A j → i = j
theorem Errs.below {w w' : World} {A : Nat → Addr} (h : Errs w A) (hb : Below w.heap.size w w') : Errs w' A := ⟨fun i g hg => (h.at' i g hg).below hb, h.apart⟩
theorem num_nil (w : World) : Calls Tryd.prog 12 #[.nilIface] w fun e w' => e = .returned (.int .i64 0) ∧ w = w' := by
  go_enter Tryd.func12, Tryd.ntmps12
  go_wp2
  go_ret
  exact ⟨rfl, rfl⟩
theorem num_list (w : World) (vs : Array Value) (t : TypeId) (i : Nat) (v : Value) (h : vs[i]? = some v) : (w.alloc (.cells vs t)).cell? ⟨w.heap.size, i, none⟩ = some v := by
  exact (cell_of_cells (w := w.alloc (.cells vs t)) (g := w.heap.size) (cur := vs) (e := t) (m := (0, 0)) (by show (w.heap.push _)[w.heap.size]? = _; simp) i).trans h
end Go.Proofs.YtgpifbhfnbkgoaaDoor
