/- The sentinels that a row lists, and where they lie. -/
import Derived.Test.YtnmcajinaigcjaaGreatDoorQRead
import Derived.Test.YtnmcajinaigcjaaGreatDoorRows
import Derived.LaidEql
import Derived.Stop.LaidErr
import Derived.RowKitTokens
namespace Go.Proofs.YtnmcajinaigcjaaGreatDoor
open Go.RowKit Go.Extern.Stop Go.Stop Go.Extern

/-- the sentinels that are listed lie at different places -/
theorem laid_many {P : Program} {nm : String} {W : World} {ti tp te ts : TypeId} {ms : Array (String × TypeId)} {f : Field}
    (hi : P.underlying ti = some (.interface ms)) (hrow : ∀ u, P.typeName? 3 u = some nm → u = tp)
    (hp : P.underlying tp = some (.pointer te)) (he : P.underlying te = some (.struct #[f])) (hft : f.type = ts) (hfo : f.offset = 0) (hs : P.underlying ts = some .string) (hc : P.cellsOf te = 1) (hcs : P.cellsOf ts = 1) :
    ∀ (ns : List (String × List UInt8)) (ps : List MemPlace), DataW.LaidVars P W (ns.map fun n => (n.1, DataW.iface nm (.ptr (.agg [.lit (.string n.2)])))) ps → ps.Nodup →
      (∀ b off, MemPlace.cell b off ∈ ps → (∃ c t, W.heap[b]? = some (.cells c t (0, 0))) ∧ ∀ u v, W.cell? ⟨b, off, none⟩ = some (.iface u v) → Value.okWide P W .any 0 u v) →
      (∀ n ∈ ns, ∀ g, P.globalNamed n.1 = some g → (P.globals[g]?).map (·.type) = some ti) →
      ∃ ads : List Addr, ads.length = ns.length ∧ ads.Nodup ∧ (∀ a ∈ ads, MemPlace.cell a.block a.off ∈ ps) ∧ ∀ (i : Nat) (n : String × List UInt8) (a : Addr), ns[i]? = some n → ads[i]? = some a → W.var? P n.1 = some #[.iface tp (.pointer (some a))] ∧ ∃ c t, W.heap[a.block]? = some (.cells c t (0, 0))
  | [], _, _, _, _, _ => ⟨[], rfl, List.nodup_nil, fun a h => by simp at h, fun i n a h => by simp at h⟩
  | n0 :: ns, ps, h, hnd, hrows, hty => by
    obtain ⟨g, t, cs, fuel, p, q, hg, ht, hv, hd, hr, rfl⟩ := h
    have hti := hty n0 (by simp) g hg
    obtain rfl := Option.some.inj (hti.symm.trans ht)
    obtain ⟨l0⟩ := cs
    have ok0 : ∀ u v, l0 = [.iface u v] → Value.okWide P W .any 0 u v := fun u v e => by
      subst e
      exact (hrows g 0 (by simp [MemPlace.row])).2 u v (by simpa using World.var?_cell hg hv 0)
    obtain ⟨a0, s0, rfl, hc0, hs0, hz0, rfl⟩ := errorString_of_trod hi hrow hp he hft hfo hs hc hcs hd ok0
    have hnd' := (List.nodup_append.1 hnd)
    obtain ⟨ads, h1, h2, h3, h4⟩ := laid_many hi hrow hp he hft hfo hs hc hcs ns q hr hnd'.2.1 (fun b off hb => hrows b off (List.mem_append_right _ hb)) (fun n hn => hty n (List.mem_cons_of_mem _ hn))
    refine ⟨a0 :: ads, by simp [h1], ?_, ?_, ?_⟩
    · refine List.nodup_cons.2 ⟨fun hm => ?_, h2⟩
      have := h3 a0 hm
      refine hnd'.2.2 _ ?_ _ this rfl
      simp [MemPlace.row]
    · intro a ha
      rcases List.mem_cons.1 ha with rfl | ha
      · simp [MemPlace.row]
      · exact List.mem_append_right _ (h3 a ha)
    · intro i n a hn ha
      cases i with
      | zero =>
        simp at hn ha
        subst hn ha
        exact ⟨hv, (hrows a0.block a0.off (by simp [MemPlace.row])).1⟩
      | succ i => exact h4 i n a (by simpa using hn) (by simpa using ha)
/-- an error of package api -/
def errAt (a : Addr) : Value := .iface 226 (.pointer (some a))
/-- the variable g holds the error at a -/
structure ErrIn (w : World) (g : Nat) (a : Addr) : Prop where
  cell : w.cell? ⟨g, 0, none⟩ = some (errAt a)
  row : ∃ c t, w.heap[a.block]? = some (.cells c t (0, 0))
theorem ErrIn.below {w w' : World} {g : Nat} {a : Addr} (h : ErrIn w g a) (hb : Below w.heap.size w w') : ErrIn w' g a := by
  obtain ⟨c, t, hr⟩ := h.row
  refine ⟨?_, c, t, (hb.block _ (Array.getElem?_eq_some_iff.1 hr).1).trans hr⟩
  have hlt : g < w.heap.size := by
    have := World.block_lt_of_cell? w _ h.cell; exact this
  exact (hb.cell (p := ⟨g, 0, none⟩) hlt).trans h.cell

theorem Tryz.star : "*errors.errorString" = "*" ++ "errors.errorString" := by decide
theorem Tryz.rowErr (u : TypeId) (h : Tryz.prog.typeName? 3 u = some "*errors.errorString") : u = 226 :=
  typeName_ptr_named (nm := "errors.errorString") (by rw [← Tryz.star]; kernel_rfl) (by kernel_rfl) (by decide) u (by rw [← Tryz.star]; exact h)
theorem laid_plain {P : Program} {w : World} {l : List (String × DataW Unit)} (h : laidMetH P l w) (hf : l.filter (fun x => x.2.handleName?.isSome) = []) : laidMet P l w := by
  unfold laidMetH at h; rw [hf] at h; exact h
def textOf : DataW Unit → List UInt8
  | .iface _ (.ptr (.agg [.lit (.string s)])) => s
  | _ => []
def named (l : List (String × DataW Unit)) : List (String × List UInt8) := l.map fun x => (x.1, textOf x.2)
theorem var_cell {W : World} {n : String} {g : Nat} {v : Value} (hg : Tryz.prog.globalNamed n = some g) (h : W.var? Tryz.prog n = some #[v]) : W.cell? ⟨g, 0, none⟩ = some v := by
  simpa using World.var?_cell hg h 0
/-- the sentinels of a list -/
theorem errs_many {W : World} (l : List (String × DataW Unit)) (h : laidMetH Tryz.prog l W) (hf : l.filter (fun x => x.2.handleName?.isSome) = []) (hl : l = (named l).map fun n => (n.1, DataW.iface "*errors.errorString" (.ptr (.agg [.lit (.string n.2)]))))
    (hg : ((named l).all fun n => match Tryz.prog.globalNamed n.1 with | some g => (Tryz.prog.globals[g]?).map (·.type) == some 28 | none => false) = true) :
    ∃ A : Nat → Addr, (∀ i j, i < l.length → j < l.length → A i = A j → i = j) ∧ ∀ i n g, (named l)[i]? = some n → Tryz.prog.globalNamed n.1 = some g → ErrIn W g (A i) := by
  obtain ⟨ps, h1, h2, h3⟩ := laid_plain h hf
  rw [hl] at h1
  obtain ⟨ads, a1, a2, _, a4⟩ := laid_many Tryz.underlying28 Tryz.rowErr Tryz.underlying226 Tryz.underlying250 rfl rfl Tryz.underlying9 (by kernel_rfl) (by kernel_rfl) (named l) ps h1 h2 h3 (fun n hn g hgn => by
    have := List.all_eq_true.1 hg n hn
    rw [hgn] at this
    simpa using this)
  have hlen : ads.length = l.length := by rw [a1]; simp [named]
  refine ⟨fun i => ads.getD i ⟨0, 0, none⟩, fun i j hi hj e => ?_, fun i n g hn hgn => ?_⟩
  · simp only [List.getD_eq_getElem?_getD, List.getElem?_eq_getElem (show i < ads.length by omega), List.getElem?_eq_getElem (show j < ads.length by omega), Option.getD_some] at e
    exact (List.getElem_inj a2).1 e
  · have hi : i < ads.length := by
      rcases Nat.lt_or_ge i (named l).length with h' | h'
      · omega
      · rw [List.getElem?_eq_none h'] at hn; cases hn
    have hai : ads[i]? = some (ads.getD i ⟨0, 0, none⟩) := by simp [List.getElem?_eq_getElem hi]
    obtain ⟨b1, b2⟩ := a4 i n _ hn hai
    exact ⟨var_cell hgn b1, b2⟩
end Go.Proofs.YtnmcajinaigcjaaGreatDoor
