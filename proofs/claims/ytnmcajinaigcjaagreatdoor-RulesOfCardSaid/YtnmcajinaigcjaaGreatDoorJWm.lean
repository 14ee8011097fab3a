/- One text of XWMath, XWMath2, XWMath3: a claim has at most 60 files. -/
import Derived.Test.YtnmcajinaigcjaaGreatDoorJPl
import Derived.Test.YtnmcajinaigcjaaGreatDoorJDoc
import Derived.Test.YtnmcajinaigcjaaGreatDoorSXMath
namespace Go.Proofs.YtnmcajinaigcjaaGreatDoor.C.M
open Go.Proofs.YtnmcajinaigcjaaGreatDoor.Q (Rc Sp Dm)

/-- the variables of the places below n that are such -/
def pl (n : Nat) (f : Nat → Bool) : List Int := ((List.range n).filter f).map fun (i : Nat) => (i : Int) + 1
def someC (v : Int) (n : Nat) (f : Nat → Bool) : List Int := -v :: pl n f
def noneC (v : Int) (n : Nat) (f : Nat → Bool) : List (List Int) := ((List.range n).filter f).map fun (i : Nat) => [-v, -((i : Int) + 1)]
theorem pl_succ (n : Nat) (f : Nat → Bool) : pl (n + 1) f = pl n f ++ (if f n then [(n : Int) + 1] else []) := by
  unfold pl; rw [List.range_succ, List.filter_append, List.map_append]
  congr 1
  by_cases h : f n = true <;> simp [h]
theorem noneC_succ (v : Int) (n : Nat) (f : Nat → Bool) : noneC v (n + 1) f = noneC v n f ++ (if f n then [[-v, -((n : Int) + 1)]] else []) := by
  unfold noneC; rw [List.range_succ, List.filter_append, List.map_append]
  congr 1
  by_cases h : f n = true <;> simp [h]
theorem pl_length (n : Nat) (f : Nat → Bool) : (pl n f).length ≤ n := by
  unfold pl; rw [List.length_map]
  exact Nat.le_trans (List.length_filter_le _ _) (by simp)
theorem noneC_length (v : Int) (n : Nat) (f : Nat → Bool) : (noneC v n f).length ≤ n := by
  unfold noneC; rw [List.length_map]
  exact Nat.le_trans (List.length_filter_le _ _) (by simp)
theorem mem_pl {n : Nat} {f : Nat → Bool} {z : Int} : z ∈ pl n f ↔ ∃ i, i < n ∧ f i = true ∧ z = (i : Int) + 1 := by
  simp only [pl, List.mem_map, List.mem_filter, List.mem_range]
  constructor
  · rintro ⟨i, ⟨h1, h2⟩, rfl⟩; exact ⟨i, h1, h2, rfl⟩
  · rintro ⟨i, h1, h2, rfl⟩; exact ⟨i, ⟨h1, h2⟩, rfl⟩
theorem pl_congr {n : Nat} {f g : Nat → Bool} (h : ∀ i, i < n → f i = g i) : pl n f = pl n g := by
  unfold pl
  rw [List.filter_congr fun i hi => h i (List.mem_range.1 hi)]
theorem noneC_congr {v : Int} {n : Nat} {f g : Nat → Bool} (h : ∀ i, i < n → f i = g i) : noneC v n f = noneC v n g := by
  unfold noneC
  rw [List.filter_congr fun i hi => h i (List.mem_range.1 hi)]
/-- is a variable so -/
def atB (x : List Bool) (i : Nat) : Bool := x[i]?.getD false
theorem holds_var {i : Nat} (hi : i + 1 ≤ 20000) (x : List Bool) : holds ((i : Int) + 1) x = atB x i := holds_pos hi x
theorem lit_var {i : Nat} (hi : i + 1 ≤ 20000) : isLit ((i : Int) + 1) = true := by rw [isLit_iff]; omega
theorem someC_true {v : Int} {n : Nat} {f : Nat → Bool} (hv : isLit v = true) (hn : n ≤ 10000) (x : List Bool) : tru (someC v n f) x = true ↔ (holds v x = true → ∃ i, i < n ∧ f i = true ∧ atB x i = true) := by
  have e : tru (someC v n f) x = (!(holds v x) || tru (pl n f) x) := by simp [tru, someC, holds_neg x hv]
  rw [e]
  have e2 : tru (pl n f) x = true ↔ ∃ i, i < n ∧ f i = true ∧ atB x i = true := by
    unfold tru
    rw [List.any_eq_true]
    constructor
    · rintro ⟨z, hz, h⟩
      obtain ⟨i, h1, h2, rfl⟩ := mem_pl.1 hz
      rw [holds_var (by omega)] at h
      exact ⟨i, h1, h2, h⟩
    · rintro ⟨i, h1, h2, h3⟩
      exact ⟨_, mem_pl.2 ⟨i, h1, h2, rfl⟩, by rw [holds_var (by omega)]; exact h3⟩
  rw [Bool.or_eq_true, e2]
  cases holds v x <;> simp
theorem noneC_true {v : Int} {n : Nat} {f : Nat → Bool} (hv : isLit v = true) (hn : n ≤ 10000) (x : List Bool) : allTrue (noneC v n f) x = true ↔ (holds v x = true → ∀ i, i < n → f i = true → atB x i = false) := by
  unfold allTrue
  rw [List.all_eq_true]
  constructor
  · intro h hh i h1 h2
    have := h [-v, -((i : Int) + 1)] (List.mem_map.2 ⟨i, List.mem_filter.2 ⟨List.mem_range.2 h1, h2⟩, rfl⟩)
    simp only [tru, List.any_cons, List.any_nil, holds_neg x hv, holds_neg x (lit_var (i := i) (by omega)), holds_var (i := i) (by omega), hh] at this
    simpa using this
  · intro h c hc
    obtain ⟨i, hi, rfl⟩ := List.mem_map.1 hc
    obtain ⟨h1, h2⟩ := List.mem_filter.1 hi
    have h1 := List.mem_range.1 h1
    simp only [tru, List.any_cons, List.any_nil, holds_neg x hv, holds_neg x (lit_var (i := i) (by omega)), holds_var (i := i) (by omega)]
    cases hh : holds v x
    · rfl
    · rw [h hh i h1 h2]; rfl
theorem someC_lits {v : Int} {n : Nat} {f : Nat → Bool} (hv : isLit v = true) (hn : n ≤ 10000) : ∀ z ∈ someC v n f, isLit z = true := by
  intro z hz
  rcases List.mem_cons.1 hz with rfl | hz
  · rw [isLit_neg]; exact hv
  · obtain ⟨i, h1, _, rfl⟩ := mem_pl.1 hz
    exact lit_var (by omega)
theorem noneC_lits {v : Int} {n : Nat} {f : Nat → Bool} (hv : isLit v = true) (hn : n ≤ 10000) : ∀ c ∈ noneC v n f, ∀ z ∈ c, isLit z = true := by
  intro c hc z hz
  obtain ⟨i, hi, rfl⟩ := List.mem_map.1 hc
  have h1 := List.mem_range.1 (List.mem_filter.1 hi).1
  simp at hz
  rcases hz with rfl | rfl
  · rw [isLit_neg]; exact hv
  · rw [isLit_neg]; exact lit_var (by omega)
theorem someC_own {v : Int} {n V : Nat} {f : Nat → Bool} (hv : own V [v] = true) (hn : n ≤ V) : own V (someC v n f) = true := by
  rw [own_iff] at *
  have h0 := hv v (by simp)
  intro z hz
  rcases List.mem_cons.1 hz with rfl | hz
  · omega
  · obtain ⟨i, h1, _, rfl⟩ := mem_pl.1 hz
    omega
theorem noneC_own {v : Int} {n V : Nat} {f : Nat → Bool} (hv : own V [v] = true) (hn : n ≤ V) : ∀ c ∈ noneC v n f, own V c = true := by
  intro c hc
  obtain ⟨i, hi, rfl⟩ := List.mem_map.1 hc
  have h1 := List.mem_range.1 (List.mem_filter.1 hi).1
  rw [own_iff] at *
  have h0 := hv v (by simp)
  intro z hz
  simp at hz
  rcases hz with rfl | rfl
  · omega
  · omega
/-! ### at most one -/
theorem allTrue_append (a b : List (List Int)) (x : List Bool) : allTrue (a ++ b) x = (allTrue a x && allTrue b x) := by simp [allTrue]
theorem oneC_yes (x : List Bool) : ∀ (l : List Int), (∀ z ∈ l, isLit z = true) → l.Pairwise (fun a b => a ≠ -b) → (allTrue (oneC l) x = true ↔ l.Pairwise (fun a b => ¬ (holds a x = true ∧ holds b x = true)))
  | [], _, _ => by simp [oneC, allTrue]
  | a :: l, hl, hd => by
    have hd' := List.pairwise_cons.1 hd
    rw [show oneC (a :: l) = (l.filter (fun b => !(a == -b))).map (fun b => norm [-a, -b]) ++ oneC l from rfl, allTrue_append, Bool.and_eq_true, oneC_yes x l (fun z hz => hl z (List.mem_cons_of_mem _ hz)) hd'.2, List.pairwise_cons]
    refine and_congr ?_ Iff.rfl
    have e : l.filter (fun b => !(a == -b)) = l := List.filter_eq_self.2 fun z hz => by simp [hd'.1 z hz]
    rw [e]
    unfold allTrue
    rw [List.all_map, List.all_eq_true]
    refine forall_congr' fun z => forall_congr' fun hz => ?_
    show tru (norm [-a, -z]) x = true ↔ _
    rw [tru_norm]
    simp only [tru, List.any_cons, List.any_nil, holds_neg x (hl a (by simp)), holds_neg x (hl z (List.mem_cons_of_mem _ hz))]
    cases holds a x <;> cases holds z x <;> simp
theorem pl_apart (n : Nat) (f : Nat → Bool) : (pl n f).Pairwise (fun a b => a ≠ -b) := by
  refine List.Pairwise.imp_of_mem (R := fun _ _ => True) (fun {a b} ha hb _ => ?_) (List.pairwise_of_forall fun _ _ => trivial)
  obtain ⟨i, _, _, rfl⟩ := mem_pl.1 ha
  obtain ⟨j, _, _, rfl⟩ := mem_pl.1 hb
  omega
theorem pl_lits {n : Nat} (hn : n ≤ 10000) (f : Nat → Bool) : ∀ z ∈ pl n f, isLit z = true := by
  intro z hz
  obtain ⟨i, h1, _, rfl⟩ := mem_pl.1 hz
  exact lit_var (by omega)
theorem onePl_true {n : Nat} (hn : n ≤ 10000) (f : Nat → Bool) (x : List Bool) : allTrue (oneC (pl n f)) x = true ↔ ∀ i j, i < j → j < n → f i = true → f j = true → atB x i = true → atB x j = true → False := by
  rw [oneC_yes x _ (pl_lits hn f) (pl_apart n f)]
  unfold pl
  rw [List.pairwise_map, List.pairwise_filter]
  constructor
  · intro h i j hij hj hfi hfj hi hjx
    have h2 := List.pairwise_iff_getElem.1 h i j (by simp; omega) (by simp; omega) hij
    simp only [List.getElem_range] at h2
    exact h2 hfi hfj ⟨by rw [holds_var (by omega)]; exact hi, by rw [holds_var (by omega)]; exact hjx⟩
  · intro h
    rw [List.pairwise_iff_getElem]
    intro i j hi hj hij
    simp only [List.getElem_range, List.length_range] at hi hj ⊢
    intro hfi hfj ⟨h1, h2⟩
    rw [holds_var (by omega)] at h1 h2
    exact h i j hij hj hfi hfj h1 h2
theorem oneC_own {V : Nat} : ∀ {l : List Int}, own V l = true → ∀ c ∈ oneC l, own V c = true
  | [], _, c, hc => by simp [oneC] at hc
  | a :: l, h, c, hc => by
    have ho := (own_iff _ _).1 h
    rcases List.mem_append.1 hc with hc | hc
    · obtain ⟨b, hb, rfl⟩ := List.mem_map.1 hc
      have hb := (List.mem_filter.1 hb).1
      refine (own_iff _ _).2 fun z hz => ?_
      have h1 := ho a (by simp)
      have h2 := ho b (List.mem_cons_of_mem _ hb)
      have hz := (mem_norm _ _).1 hz
      simp at hz
      rcases hz with rfl | rfl <;> omega
    · exact oneC_own ((own_iff _ _).2 fun z hz => ho z (List.mem_cons_of_mem _ hz)) c hc
theorem oneC_len : ∀ (l : List Int), (oneC l).length ≤ l.length * l.length
  | [] => by simp [oneC]
  | a :: l => by
    have ih := oneC_len l
    rw [show oneC (a :: l) = (l.filter (fun b => !(a == -b))).map (fun b => norm [-a, -b]) ++ oneC l from rfl, List.length_append, List.length_map, List.length_cons, Nat.succ_mul, Nat.mul_succ]
    have := List.length_filter_le (fun b => !(a == -b)) l
    omega
/-! ### the formula of rules -/
def onB (on : List Bool) (i : Nat) : Bool := on[i]?.getD false
def mtB (l : List Rc) (s : Sp) (i : Nat) : Bool := (l[i]?.map (Q.mt s)).getD false
def agB (l : List Rc) (s : Sp) (i : Nat) : Bool := (l[i]?.map (Q.against s)).getD false
def nmB (l : List Rc) (nm : List UInt8) (i : Nat) : Bool := (l[i]?.map fun r => r.name.toList == nm).getD false
/-- has one ahead of a place the same name -/
def seen (l : List Rc) (nm : List UInt8) (i : Nat) : Bool := (List.range i).any fun j => nmB l nm j
def offC (on : List Bool) (n : Nat) : List (List Int) := ((List.range n).filter fun i => !(onB on i)).map fun (i : Nat) => [-((i : Int) + 1)]
theorem offC_succ (on : List Bool) (n : Nat) : offC on (n + 1) = offC on n ++ (if onB on n then [] else [[-((n : Int) + 1)]]) := by
  unfold offC; rw [List.range_succ, List.filter_append, List.map_append]
  congr 1
  cases h : onB on n <;> simp [h]
/-- the places that are on, of a name, below n -/
def grp (l : List Rc) (on : List Bool) (nm : List UInt8) (n : Nat) : List Int := pl n fun j => onB on j && nmB l nm j
def nameC (l : List Rc) (on : List Bool) (i : Nat) : List (List Int) := match l[i]? with | some r => if seen l r.name.toList i then [] else oneC (grp l on r.name.toList l.length) | none => []
def namesC (l : List Rc) (on : List Bool) (n : Nat) : List (List Int) := (List.range n).flatMap (nameC l on)
theorem namesC_succ (l : List Rc) (on : List Bool) (n : Nat) : namesC l on (n + 1) = namesC l on n ++ nameC l on n := by simp [namesC, List.range_succ]
def cnB (l : List Rc) (r : Rc) (i : Nat) : Bool := r.cons.any fun s => agB l s i
def depC (l : List Rc) (on : List Bool) (v : Int) (s : Sp) : List Int := someC v l.length fun j => onB on j && mtB l s j
def recC (l : List Rc) (on : List Bool) (i : Nat) : List (List Int) :=
  match l[i]? with | some r => if onB on i then r.deps.map (depC l on ((i : Int) + 1)) ++ noneC ((i : Int) + 1) l.length (fun j => onB on j && cnB l r j) else [] | none => []
def recsC (l : List Rc) (on : List Bool) (n : Nat) : List (List Int) := (List.range n).flatMap (recC l on)
theorem recsC_succ (l : List Rc) (on : List Bool) (n : Nat) : recsC l on (n + 1) = recsC l on n ++ recC l on n := by simp [recsC, List.range_succ]
def dmC (l : List Rc) (on : List Bool) (v : Int) (d : Dm) : List (List Int) :=
  if d.how = 1 then [depC l on v d.spec] else if d.how = 2 then noneC v l.length (fun j => onB on j && mtB l d.spec j) else noneC v l.length (fun j => onB on j && agB l d.spec j)
def dmAt (l : List Rc) (on : List Bool) (ds : List Dm) (k : Nat) : List (List Int) := match ds[k]? with | some d => dmC l on (((l.length + k : Nat) : Int) + 1) d | none => []
def dmsC (l : List Rc) (on : List Bool) (ds : List Dm) (n : Nat) : List (List Int) := (List.range n).flatMap (dmAt l on ds)
theorem dmsC_succ (l : List Rc) (on : List Bool) (ds : List Dm) (n : Nat) : dmsC l on ds (n + 1) = dmsC l on ds n ++ dmAt l on ds n := by simp [dmsC, List.range_succ]
/-- all clauses -/
def rulesC (l : List Rc) (on : List Bool) (ds : List Dm) : List (List Int) :=
  (dmsC l on ds ds.length).foldl addC ((recsC l on l.length).foldl addC ((offC on l.length).foldl addC [] ++ namesC l on l.length))
/-- what the clauses say -/
structure Says (l : List Rc) (on : List Bool) (ds : List Dm) (x : List Bool) : Prop where
  off : ∀ i, i < l.length → onB on i = false → atB x i = false
  names : ∀ i j ri rj, i < j → l[i]? = some ri → l[j]? = some rj → ri.name.toList = rj.name.toList → onB on i = true → onB on j = true → atB x i = true → atB x j = true → False
  deps : ∀ i r, l[i]? = some r → onB on i = true → atB x i = true → ∀ s ∈ r.deps, ∃ j, j < l.length ∧ onB on j = true ∧ mtB l s j = true ∧ atB x j = true
  cons : ∀ i r, l[i]? = some r → onB on i = true → atB x i = true → ∀ s ∈ r.cons, ∀ j, j < l.length → onB on j = true → agB l s j = true → atB x j = false
  dms : ∀ k d, ds[k]? = some d → atB x (l.length + k) = true → (d.how = 1 → ∃ j, j < l.length ∧ onB on j = true ∧ mtB l d.spec j = true ∧ atB x j = true) ∧ (d.how = 2 → ∀ j, j < l.length → onB on j = true → mtB l d.spec j = true → atB x j = false) ∧
    (d.how ≠ 1 → d.how ≠ 2 → ∀ j, j < l.length → onB on j = true → agB l d.spec j = true → atB x j = false)
theorem offC_true {on : List Bool} {n : Nat} (hn : n ≤ 10000) (x : List Bool) : allTrue (offC on n) x = true ↔ ∀ i, i < n → onB on i = false → atB x i = false := by
  unfold allTrue
  rw [List.all_eq_true]
  constructor
  · intro h i h1 h2
    have := h [-((i : Int) + 1)] (List.mem_map.2 ⟨i, List.mem_filter.2 ⟨List.mem_range.2 h1, by rw [h2]; rfl⟩, rfl⟩)
    simp only [tru, List.any_cons, List.any_nil, holds_neg x (lit_var (i := i) (by omega)), holds_var (i := i) (by omega)] at this
    simpa using this
  · intro h c hc
    obtain ⟨i, hi, rfl⟩ := List.mem_map.1 hc
    obtain ⟨h1, h2⟩ := List.mem_filter.1 hi
    have h1 := List.mem_range.1 h1
    simp only [tru, List.any_cons, List.any_nil, holds_neg x (lit_var (i := i) (by omega)), holds_var (i := i) (by omega)]
    rw [h i h1 (by simpa using h2)]; rfl
theorem offC_lits {on : List Bool} {n : Nat} (hn : n ≤ 10000) : ∀ c ∈ offC on n, ∀ z ∈ c, isLit z = true := by
  intro c hc z hz
  obtain ⟨i, hi, rfl⟩ := List.mem_map.1 hc
  have h1 := List.mem_range.1 (List.mem_filter.1 hi).1
  simp only [List.mem_singleton] at hz
  subst hz
  rw [isLit_neg]; exact lit_var (by omega)
theorem offC_own {on : List Bool} {n V : Nat} (hn : n ≤ V) : ∀ c ∈ offC on n, own V c = true := by
  intro c hc
  obtain ⟨i, hi, rfl⟩ := List.mem_map.1 hc
  have h1 := List.mem_range.1 (List.mem_filter.1 hi).1
  refine (own_iff _ _).2 fun z hz => ?_
  simp only [List.mem_singleton] at hz
  subst hz
  omega
theorem nmB_iff {l : List Rc} {nm : List UInt8} {i : Nat} {r : Rc} (hr : l[i]? = some r) : nmB l nm i = true ↔ r.name.toList = nm := by
  unfold nmB; rw [hr]; simp
theorem first_of {l : List Rc} {nm : List UInt8} : ∀ {i : Nat}, nmB l nm i = true → ∃ j, j ≤ i ∧ nmB l nm j = true ∧ seen l nm j = false := by
  intro i
  induction i using Nat.strongRecOn with
  | ind i ih =>
    intro h
    cases hs : seen l nm i
    · exact ⟨i, Nat.le_refl _, h, hs⟩
    · obtain ⟨j, hj, h2⟩ := List.any_eq_true.1 hs
      have hj := List.mem_range.1 hj
      obtain ⟨k, h3, h4⟩ := ih j hj h2
      exact ⟨k, by omega, h4⟩
theorem namesC_true {l : List Rc} {on : List Bool} (hn : l.length ≤ 10000) (x : List Bool) : allTrue (namesC l on l.length) x = true ↔ ∀ i j ri rj, i < j → l[i]? = some ri → l[j]? = some rj → ri.name.toList = rj.name.toList → onB on i = true → onB on j = true → atB x i = true → atB x j = true → False := by
  unfold allTrue namesC
  rw [List.all_flatMap, List.all_eq_true]
  constructor
  · intro h i j ri rj hij hri hrj hnm oi oj xi xj
    obtain ⟨f, hf, hfn, hfs⟩ := first_of (l := l) (nm := ri.name.toList) (i := i) ((nmB_iff hri).2 rfl)
    have hil := (List.getElem?_eq_some_iff.1 hri).1
    have hjl := (List.getElem?_eq_some_iff.1 hrj).1
    obtain ⟨rf, hrf⟩ : ∃ rf, l[f]? = some rf := ⟨l[f]'(by omega), List.getElem?_eq_getElem _⟩
    have hfe := (nmB_iff hrf).1 hfn
    have h1 := h f (List.mem_range.2 (by omega))
    unfold nameC at h1
    rw [hrf] at h1
    simp only [hfe, hfs] at h1
    have h2 := (onePl_true hn _ x).1 (show allTrue (oneC (pl l.length _)) x = true from h1)
    exact h2 i j hij hjl (by rw [oi, (nmB_iff hri).2 rfl]; rfl) (by rw [oj, (nmB_iff hrj).2 hnm.symm]; rfl) xi xj
  · intro h f hf
    have hf := List.mem_range.1 hf
    obtain ⟨rf, hrf⟩ : ∃ rf, l[f]? = some rf := ⟨l[f], List.getElem?_eq_getElem _⟩
    unfold nameC
    rw [hrf]
    simp only
    split
    · rfl
    · refine (onePl_true hn _ x).2 fun i j hij hj fi fj xi xj => ?_
      rw [Bool.and_eq_true] at fi fj
      obtain ⟨ri, hri⟩ : ∃ r, l[i]? = some r := ⟨l[i]'(by omega), List.getElem?_eq_getElem _⟩
      obtain ⟨rj, hrj⟩ : ∃ r, l[j]? = some r := ⟨l[j]'(by omega), List.getElem?_eq_getElem _⟩
      exact h i j ri rj hij hri hrj (((nmB_iff hri).1 fi.2).trans ((nmB_iff hrj).1 fj.2).symm) fi.1 fj.1 xi xj
theorem depC_true {l : List Rc} {on : List Bool} {v : Int} {s : Sp} (hv : isLit v = true) (hn : l.length ≤ 10000) (x : List Bool) : tru (depC l on v s) x = true ↔ (holds v x = true → ∃ j, j < l.length ∧ onB on j = true ∧ mtB l s j = true ∧ atB x j = true) := by
  unfold depC
  rw [someC_true hv hn]
  simp only [Bool.and_eq_true, and_assoc]
theorem cnB_iff {l : List Rc} {r : Rc} {i : Nat} : cnB l r i = true ↔ ∃ s ∈ r.cons, agB l s i = true := by unfold cnB; rw [List.any_eq_true]
theorem recsC_lits {l : List Rc} {on : List Bool} (hn : l.length ≤ 10000) (n : Nat) : ∀ c ∈ recsC l on n, ∀ z ∈ c, isLit z = true := by
  intro c hc
  obtain ⟨i, _, hc⟩ := List.mem_flatMap.1 hc
  unfold recC at hc
  split at hc
  · rename_i r hr
    have hil := (List.getElem?_eq_some_iff.1 hr).1
    have hv : isLit ((i : Int) + 1) = true := lit_var (by omega)
    split at hc
    · rcases List.mem_append.1 hc with hc | hc
      · obtain ⟨s, _, rfl⟩ := List.mem_map.1 hc
        exact someC_lits hv hn
      · exact noneC_lits hv hn c hc
    · simp at hc
  · simp at hc
theorem recsC_true {l : List Rc} {on : List Bool} (hn : l.length ≤ 10000) (x : List Bool) : allTrue (recsC l on l.length) x = true ↔ (∀ i r, l[i]? = some r → onB on i = true → atB x i = true → ∀ s ∈ r.deps, ∃ j, j < l.length ∧ onB on j = true ∧ mtB l s j = true ∧ atB x j = true) ∧
    (∀ i r, l[i]? = some r → onB on i = true → atB x i = true → ∀ s ∈ r.cons, ∀ j, j < l.length → onB on j = true → agB l s j = true → atB x j = false) := by
  unfold allTrue recsC
  rw [List.all_flatMap, List.all_eq_true]
  have key : ∀ i r, l[i]? = some r → ((recC l on i).all (tru · x) = true ↔ (onB on i = true → atB x i = true → (∀ s ∈ r.deps, ∃ j, j < l.length ∧ onB on j = true ∧ mtB l s j = true ∧ atB x j = true) ∧ ∀ s ∈ r.cons, ∀ j, j < l.length → onB on j = true → agB l s j = true → atB x j = false)) := by
    intro i r hr
    have hil := (List.getElem?_eq_some_iff.1 hr).1
    have hv : isLit ((i : Int) + 1) = true := lit_var (by omega)
    unfold recC
    rw [hr]
    simp only
    cases ho : onB on i
    · simp
    · rw [if_pos rfl, List.all_append, Bool.and_eq_true, List.all_map, List.all_eq_true]
      rw [show (noneC ((i : Int) + 1) l.length fun j => onB on j && cnB l r j).all (tru · x) = allTrue (noneC ((i : Int) + 1) l.length fun j => onB on j && cnB l r j) x from rfl, noneC_true hv hn, holds_var (by omega)]
      constructor
      · rintro ⟨h1, h2⟩ _ hx
        refine ⟨fun s hs => ?_, fun s hs j hj oj aj => h2 hx j hj (by rw [oj, cnB_iff.2 ⟨s, hs, aj⟩]; rfl)⟩
        have h3 := h1 s hs
        rw [Function.comp_apply] at h3
        have := (depC_true hv hn x).1 h3
        rw [holds_var (by omega)] at this
        exact this hx
      · intro h
        refine ⟨fun s hs => ?_, fun hx j hj hf => ?_⟩
        · rw [Function.comp_apply]
          refine (depC_true hv hn x).2 fun hh => ?_
          rw [holds_var (by omega)] at hh
          exact (h rfl hh).1 s hs
        · rw [Bool.and_eq_true] at hf
          obtain ⟨s, hs, aj⟩ := cnB_iff.1 hf.2
          exact (h rfl hx).2 s hs j hj hf.1 aj
  constructor
  · intro h
    have h' : ∀ i r, l[i]? = some r → _ := fun i r hr => (key i r hr).1 (h i (List.mem_range.2 (List.getElem?_eq_some_iff.1 hr).1))
    exact ⟨fun i r hr oi xi => (h' i r hr oi xi).1, fun i r hr oi xi => (h' i r hr oi xi).2⟩
  · rintro ⟨h1, h2⟩ i hi
    have hi := List.mem_range.1 hi
    exact (key i l[i] (List.getElem?_eq_getElem hi)).2 fun oi xi => ⟨h1 i _ (List.getElem?_eq_getElem hi) oi xi, h2 i _ (List.getElem?_eq_getElem hi) oi xi⟩
theorem dmsC_lits {l : List Rc} {on : List Bool} {ds : List Dm} (hn : l.length + ds.length ≤ 10000) (n : Nat) : ∀ c ∈ dmsC l on ds n, ∀ z ∈ c, isLit z = true := by
  intro c hc
  obtain ⟨k, _, hc⟩ := List.mem_flatMap.1 hc
  unfold dmAt at hc
  split at hc
  · rename_i d hd
    have hkl := (List.getElem?_eq_some_iff.1 hd).1
    have hv : isLit (((l.length + k : Nat) : Int) + 1) = true := lit_var (by omega)
    unfold dmC at hc
    split at hc
    · simp only [List.mem_singleton] at hc; subst hc; exact someC_lits hv (by omega)
    · split at hc <;> exact noneC_lits hv (by omega) c hc
  · simp at hc
theorem dmsC_true {l : List Rc} {on : List Bool} {ds : List Dm} (hn : l.length + ds.length ≤ 10000) (x : List Bool) : allTrue (dmsC l on ds ds.length) x = true ↔ ∀ k d, ds[k]? = some d → atB x (l.length + k) = true → (d.how = 1 → ∃ j, j < l.length ∧ onB on j = true ∧ mtB l d.spec j = true ∧ atB x j = true) ∧ (d.how = 2 → ∀ j, j < l.length → onB on j = true → mtB l d.spec j = true → atB x j = false) ∧
    (d.how ≠ 1 → d.how ≠ 2 → ∀ j, j < l.length → onB on j = true → agB l d.spec j = true → atB x j = false) := by
  unfold allTrue dmsC
  rw [List.all_flatMap, List.all_eq_true]
  have key : ∀ k d, ds[k]? = some d → ((dmAt l on ds k).all (tru · x) = true ↔ (atB x (l.length + k) = true → (d.how = 1 → ∃ j, j < l.length ∧ onB on j = true ∧ mtB l d.spec j = true ∧ atB x j = true) ∧ (d.how = 2 → ∀ j, j < l.length → onB on j = true → mtB l d.spec j = true → atB x j = false) ∧
      (d.how ≠ 1 → d.how ≠ 2 → ∀ j, j < l.length → onB on j = true → agB l d.spec j = true → atB x j = false))) := by
    intro k d hd
    have hkl := (List.getElem?_eq_some_iff.1 hd).1
    have hv : isLit (((l.length + k : Nat) : Int) + 1) = true := lit_var (by omega)
    have none' : ∀ f : Nat → Bool, (noneC (((l.length + k : Nat) : Int) + 1) l.length fun j => onB on j && f j).all (tru · x) = true ↔ (atB x (l.length + k) = true → ∀ j, j < l.length → onB on j = true → f j = true → atB x j = false) := fun f => by
      refine (noneC_true hv (by omega) x).trans ?_
      rw [holds_var (by omega)]
      refine forall_congr' fun _ => forall_congr' fun j => forall_congr' fun _ => ?_
      rw [Bool.and_eq_true]
      exact ⟨fun h a b => h ⟨a, b⟩, fun h a => h a.1 a.2⟩
    unfold dmAt
    rw [hd]
    unfold dmC
    simp only
    by_cases h1 : d.how = 1
    · rw [if_pos h1, List.all_cons, List.all_nil, Bool.and_true, depC_true hv (by omega), holds_var (by omega)]
      refine forall_congr' fun _ => ?_
      exact ⟨fun h => ⟨fun _ => h, fun h2 => by omega, fun h2 => absurd h1 h2⟩, fun h => h.1 h1⟩
    · rw [if_neg h1]
      by_cases h2 : d.how = 2
      · rw [if_pos h2, none']
        refine forall_congr' fun _ => ?_
        exact ⟨fun h => ⟨fun h3 => absurd h3 h1, fun _ => h, fun _ h3 => absurd h2 h3⟩, fun h => h.2.1 h2⟩
      · rw [if_neg h2, none']
        refine forall_congr' fun _ => ?_
        exact ⟨fun h => ⟨fun h3 => absurd h3 h1, fun h3 => absurd h3 h2, fun _ _ => h⟩, fun h => h.2.2 h1 h2⟩
  constructor
  · intro h k d hd
    exact (key k d hd).1 (h k (List.mem_range.2 (List.getElem?_eq_some_iff.1 hd).1))
  · intro h k hk
    have hk := List.mem_range.1 hk
    exact (key k ds[k] (List.getElem?_eq_getElem hk)).2 (h k _ (List.getElem?_eq_getElem hk))
theorem rulesC_true {l : List Rc} {on : List Bool} {ds : List Dm} (hn : l.length + ds.length ≤ 10000) (x : List Bool) : allTrue (rulesC l on ds) x = true ↔ Says l on ds x := by
  unfold rulesC
  rw [allTrue_addCs _ _ (dmsC_lits hn _), allTrue_addCs _ _ (recsC_lits (by omega) _), allTrue_append, allTrue_addCs _ _ (offC_lits (by omega))]
  simp only [Bool.and_eq_true]
  rw [offC_true (by omega), namesC_true (by omega), recsC_true (by omega), dmsC_true hn]
  constructor
  · rintro ⟨⟨⟨⟨_, h1⟩, h2⟩, h3, h4⟩, h5⟩
    exact ⟨h1, h2, h3, h4, h5⟩
  · rintro ⟨h1, h2, h3, h4, h5⟩
    exact ⟨⟨⟨⟨rfl, h1⟩, h2⟩, h3, h4⟩, h5⟩
end Go.Proofs.YtnmcajinaigcjaaGreatDoor.C.M
namespace Go.Proofs.YtnmcajinaigcjaaGreatDoor.C.M
open Go.Proofs.YtnmcajinaigcjaaGreatDoor.Q (Rc Sp Dm)

theorem some_at {p : Rc → Bool} {l : List Rc} {ch : List Bool} : Q.some_ p l ch = true ↔ ∃ (j : Nat) (r : Rc), l[j]? = some r ∧ p r = true ∧ ch[j]? = some true := by
  unfold Q.some_
  rw [List.any_eq_true]
  constructor
  · rintro ⟨⟨r, c⟩, h1, h2⟩
    rw [Bool.and_eq_true] at h2
    obtain ⟨h2, h3⟩ := h2
    obtain ⟨i, hi⟩ := List.mem_iff_getElem?.1 h1
    rw [List.getElem?_zip_eq_some] at hi
    simp only at h2 hi h3
    subst h2
    exact ⟨i, r, hi.1, h3, hi.2⟩
  · rintro ⟨i, r, h1, h2, h3⟩
    refine ⟨(r, true), List.mem_of_getElem? (i := i) ?_, by simp [h2]⟩
    rw [List.getElem?_zip_eq_some]; exact ⟨h1, h3⟩
theorem some_no {p : Rc → Bool} {l : List Rc} {ch : List Bool} : Q.some_ p l ch = false ↔ ∀ (j : Nat) (r : Rc), l[j]? = some r → p r = true → ch[j]? = some true → False := by
  rw [← Bool.not_eq_true, some_at]
  exact ⟨fun h j r h1 h2 h3 => h ⟨j, r, h1, h2, h3⟩, fun h ⟨j, r, h1, h2, h3⟩ => h j r h1 h2 h3⟩
theorem onB_iff {on : List Bool} {i : Nat} : onB on i = true ↔ on[i]? = some true := by
  unfold onB
  cases on[i]? with
  | none => simp
  | some b => simp
theorem atB_iff {on : List Bool} {i : Nat} : atB on i = true ↔ on[i]? = some true := onB_iff
theorem mtB_iff {l : List Rc} {s : Sp} {i : Nat} : mtB l s i = true ↔ ∃ r, l[i]? = some r ∧ Q.mt s r = true := by
  unfold mtB
  cases l[i]? with
  | none => simp
  | some b => simp
theorem agB_iff {l : List Rc} {s : Sp} {i : Nat} : agB l s i = true ↔ ∃ r, l[i]? = some r ∧ Q.against s r = true := by
  unfold agB
  cases l[i]? with
  | none => simp
  | some b => simp
section
variable {l : List Rc} {on ch sel : List Bool} {ds : List Dm}
theorem at_ch (hc : ch.length = l.length) {i : Nat} (hi : i < l.length) : atB (ch ++ sel) i = onB ch i := by
  unfold atB onB; rw [List.getElem?_append_left (by omega)]
theorem at_sel (hc : ch.length = l.length) (k : Nat) : atB (ch ++ sel) (l.length + k) = onB sel k := by
  unfold atB onB; rw [List.getElem?_append_right (by omega), hc, Nat.add_sub_cancel_left]
theorem at_false {x : List Bool} {i : Nat} : atB x i = false ↔ ¬ x[i]? = some true := by rw [← atB_iff, Bool.not_eq_true]
/-- the sound choices, in plain words -/
structure Snd (l : List Rc) (on ch : List Bool) : Prop where
  on : ∀ i : Nat, ch[i]? = some true → on[i]? = some true
  deps : ∀ (i : Nat) r, l[i]? = some r → ch[i]? = some true → ∀ s ∈ r.deps, Q.some_ (Q.mt s) l ch = true
  names : ∀ (i j : Nat) ri rj, i < j → l[i]? = some ri → l[j]? = some rj → ri.name.toList = rj.name.toList → ch[i]? = some true → ch[j]? = some true → False
  cons : ∀ (i : Nat) r, l[i]? = some r → ch[i]? = some true → ∀ s ∈ r.cons, Q.some_ (Q.against s) l ch = false
theorem sound_iff (ho : on.length = l.length) (hc : ch.length = l.length) : Q.sound l on ch = true ↔ Snd l on ch := by
  have hlt : ∀ {i : Nat}, ch[i]? = some true → i < l.length := fun h => by have := (List.getElem?_eq_some_iff.1 h).1; omega
  unfold Q.sound Q.dwhole
  rw [decide_eq_true ho, decide_eq_true hc, Bool.true_and, Bool.true_and, Bool.and_eq_true, List.all_eq_true, List.all_eq_true]
  constructor
  · rintro ⟨h1, h2⟩
    have k2 : ∀ (i : Nat) r, l[i]? = some r → ch[i]? = some true → on[i]? = some true ∧ Q.twice l ch i r.name.toList = false ∧ ∀ s ∈ r.cons, Q.some_ (Q.against s) l ch = false := by
      intro i r hr hi
      have h := h2 i (List.mem_range.2 (hlt hi))
      unfold Q.sndAt at h
      rw [hr, hi] at h
      simp only [Bool.and_eq_true, beq_iff_eq, Bool.not_eq_true', List.all_eq_true] at h
      refine ⟨h.1.1, h.1.2, fun s hs => ?_⟩
      have h3 := h.2 s hs
      unfold Q.holds at h3
      rw [if_pos hc, if_neg (show ¬ (3 : Int) = 1 by decide), if_neg (show ¬ (3 : Int) = 2 by decide), if_pos rfl] at h3
      simpa using h3
    refine ⟨fun i hi => ?_, fun i r hr hi s hs => ?_, fun i j ri rj hij hri hrj hnm hi hj => ?_, fun i r hr hi => (k2 i r hr hi).2.2⟩
    · obtain ⟨r, hr⟩ : ∃ r, l[i]? = some r := ⟨_, List.getElem?_eq_getElem (hlt hi)⟩
      exact (k2 i r hr hi).1
    · have h := h1 i (List.mem_range.2 (hlt hi))
      rw [Q.dwholeAt_on hr hi] at h
      unfold Q.dneeds at h
      have h3 := List.all_eq_true.1 h s hs
      rw [Q.some_dhas]; exact h3
    · have h := (k2 j rj hrj hj).2.1
      unfold Q.twice at h
      rw [List.any_eq_false] at h
      refine h i (List.mem_range.2 hij) ?_
      rw [hi, hri]
      simp [hnm]
  · intro h
    refine ⟨fun i hi => ?_, fun i hi => ?_⟩
    · have hi := List.mem_range.1 hi
      obtain ⟨r, hr⟩ : ∃ r, l[i]? = some r := ⟨_, List.getElem?_eq_getElem hi⟩
      obtain ⟨c, hcc⟩ : ∃ c, ch[i]? = some c := ⟨_, List.getElem?_eq_getElem (by omega)⟩
      cases c
      · exact Q.dwholeAt_off hcc
      · rw [Q.dwholeAt_on hr hcc]
        unfold Q.dneeds
        rw [List.all_eq_true]
        intro s hs
        rw [← Q.some_dhas]; exact h.deps i r hr hcc s hs
    · have hi := List.mem_range.1 hi
      obtain ⟨r, hr⟩ : ∃ r, l[i]? = some r := ⟨_, List.getElem?_eq_getElem hi⟩
      obtain ⟨c, hcc⟩ : ∃ c, ch[i]? = some c := ⟨_, List.getElem?_eq_getElem (by omega)⟩
      cases c
      · exact Q.sndAt_off hcc
      · rw [Q.sndAt_on hr hcc (h.on i hcc)]
        simp only [Bool.true_and, Bool.and_eq_true, Bool.not_eq_true', List.all_eq_true]
        refine ⟨?_, fun s hs => ?_⟩
        · unfold Q.twice
          rw [List.any_eq_false]
          intro j hj hh
          have hj := List.mem_range.1 hj
          rw [Bool.and_eq_true] at hh
          obtain ⟨rj, hrj⟩ : ∃ r, l[j]? = some r := ⟨_, List.getElem?_eq_getElem (by omega)⟩
          rw [hrj] at hh
          simp only [beq_iff_eq, Option.map_some, Option.some.injEq] at hh
          exact h.names j i rj r hj hrj hr hh.2 hh.1 hcc
        · unfold Q.holds
          rw [if_pos hc, if_neg (show ¬ (3 : Int) = 1 by decide), if_neg (show ¬ (3 : Int) = 2 by decide), if_pos rfl, h.cons i r hr hcc s hs]; rfl
theorem says_iff (ho : on.length = l.length) (hc : ch.length = l.length) (hw : ∀ d ∈ ds, 1 ≤ d.how ∧ d.how ≤ 3) :
    Says l on ds (ch ++ sel) ↔ Q.sound l on ch = true ∧ ∀ k d, ds[k]? = some d → onB sel k = true → Q.holds l ch d = true := by
  have hlt : ∀ {i : Nat}, ch[i]? = some true → i < l.length := fun h => by have := (List.getElem?_eq_some_iff.1 h).1; omega
  have hx : ∀ {i : Nat}, i < l.length → (atB (ch ++ sel) i = true ↔ ch[i]? = some true) := fun hi => by rw [at_ch hc hi, onB_iff]
  have hxf : ∀ {i : Nat}, i < l.length → (atB (ch ++ sel) i = false ↔ ¬ ch[i]? = some true) := fun hi => by rw [← hx hi, Bool.not_eq_true]
  have hll : ∀ {i : Nat} {r : Rc}, l[i]? = some r → i < l.length := fun h => (List.getElem?_eq_some_iff.1 h).1
  rw [sound_iff ho hc]
  constructor
  · intro h
    have hon : ∀ i : Nat, ch[i]? = some true → on[i]? = some true := fun i hi => by
      rw [← onB_iff]
      cases hb : onB on i
      · have := h.off i (hlt hi) hb
        rw [hxf (hlt hi)] at this
        exact absurd hi this
      · rfl
    have hsome : ∀ s, (∃ j, j < l.length ∧ onB on j = true ∧ mtB l s j = true ∧ atB (ch ++ sel) j = true) → Q.some_ (Q.mt s) l ch = true := by
      rintro s ⟨j, hj, _, hm, ha⟩
      obtain ⟨r, hr, hm⟩ := mtB_iff.1 hm
      exact some_at.2 ⟨j, r, hr, hm, (hx hj).1 ha⟩
    refine ⟨⟨hon, fun i r hr hi s hs => hsome s (h.deps i r hr (onB_iff.2 (hon i hi)) ((hx (hlt hi)).2 hi) s hs), fun i j ri rj hij hri hrj hnm hi hj => ?_, fun i r hr hi s hs => ?_⟩, fun k d hd hk => ?_⟩
    · exact h.names i j ri rj hij hri hrj hnm (onB_iff.2 (hon i hi)) (onB_iff.2 (hon j hj)) ((hx (hlt hi)).2 hi) ((hx (hlt hj)).2 hj)
    · refine some_no.2 fun j rj hrj hm hj => ?_
      have := h.cons i r hr (onB_iff.2 (hon i hi)) ((hx (hlt hi)).2 hi) s hs j (hlt hj) (onB_iff.2 (hon j hj)) (agB_iff.2 ⟨rj, hrj, hm⟩)
      exact (hxf (hlt hj)).1 this hj
    · obtain ⟨d1, d2, d3⟩ := h.dms k d hd (by rw [at_sel hc]; exact hk)
      have hwd := hw d (List.mem_of_getElem? hd)
      unfold Q.holds
      rw [if_pos hc]
      by_cases e1 : d.how = 1
      · rw [if_pos e1]; exact hsome _ (d1 e1)
      · rw [if_neg e1]
        by_cases e2 : d.how = 2
        · rw [if_pos e2, Bool.not_eq_true']
          refine some_no.2 fun j rj hrj hm hj => ?_
          exact (hxf (hlt hj)).1 (d2 e2 j (hlt hj) (onB_iff.2 (hon j hj)) (mtB_iff.2 ⟨rj, hrj, hm⟩)) hj
        · rw [if_neg e2, if_pos (by omega), Bool.not_eq_true']
          refine some_no.2 fun j rj hrj hm hj => ?_
          exact (hxf (hlt hj)).1 (d3 e1 e2 j (hlt hj) (onB_iff.2 (hon j hj)) (agB_iff.2 ⟨rj, hrj, hm⟩)) hj
  · rintro ⟨h, hd⟩
    have hmt : ∀ s, Q.some_ (Q.mt s) l ch = true → ∃ j, j < l.length ∧ onB on j = true ∧ mtB l s j = true ∧ atB (ch ++ sel) j = true := by
      intro s hs
      obtain ⟨j, r, hr, hm, hj⟩ := some_at.1 hs
      exact ⟨j, hlt hj, onB_iff.2 (h.on j hj), mtB_iff.2 ⟨r, hr, hm⟩, (hx (hlt hj)).2 hj⟩
    refine ⟨fun i hi hf => ?_, fun i j ri rj hij hri hrj hnm _ _ xi xj => ?_, fun i r hr _ xi s hs => ?_, fun i r hr _ xi s hs j hj _ aj => ?_, fun k d hk xk => ?_⟩
    · rw [hxf hi]
      intro hh
      have := onB_iff.2 (h.on i hh)
      rw [hf] at this; cases this
    · exact h.names i j ri rj hij hri hrj hnm ((hx (hll hri)).1 xi) ((hx (hll hrj)).1 xj)
    · exact hmt s (h.deps i r hr ((hx (hll hr)).1 xi) s hs)
    · rw [hxf hj]
      intro hh
      obtain ⟨rj, hrj, ha⟩ := agB_iff.1 aj
      exact some_no.1 (h.cons i r hr ((hx (hll hr)).1 xi) s hs) j rj hrj ha hh
    · rw [at_sel hc] at xk
      have hh := hd k d hk xk
      have hwd := hw d (List.mem_of_getElem? hk)
      unfold Q.holds at hh
      rw [if_pos hc] at hh
      refine ⟨fun e1 => ?_, fun e2 j hj _ mj => ?_, fun e1 e2 j hj _ aj => ?_⟩
      · rw [if_pos e1] at hh; exact hmt _ hh
      · rw [if_neg (by omega), if_pos e2, Bool.not_eq_true'] at hh
        rw [hxf hj]
        intro h3
        obtain ⟨rj, hrj, ha⟩ := mtB_iff.1 mj
        exact some_no.1 hh j rj hrj ha h3
      · rw [if_neg e1, if_neg e2, if_pos (by omega), Bool.not_eq_true'] at hh
        rw [hxf hj]
        intro h3
        obtain ⟨rj, hrj, ha⟩ := agB_iff.1 aj
        exact some_no.1 hh j rj hrj ha h3
theorem rulesC_iff (ho : on.length = l.length) (hc : ch.length = l.length) (hw : ∀ d ∈ ds, 1 ≤ d.how ∧ d.how ≤ 3) (hn : l.length + ds.length ≤ 10000) :
    allTrue (rulesC l on ds) (ch ++ sel) = true ↔ Q.sound l on ch = true ∧ ∀ k d, ds[k]? = some d → onB sel k = true → Q.holds l ch d = true :=
  (rulesC_true hn _).trans (says_iff ho hc hw)
end
end Go.Proofs.YtnmcajinaigcjaaGreatDoor.C.M
namespace Go.Proofs.YtnmcajinaigcjaaGreatDoor.C.M
open Go.Proofs.YtnmcajinaigcjaaGreatDoor.Q (Rc Sp Dm)

theorem num_testBit : ∀ (ds : List Bool) (i : Nat), (num ds).testBit i = onB ds i
  | [], i => by simp [num, onB]
  | b :: ds, 0 => by
    rw [num, Nat.testBit_zero]
    cases b <;> simp [onB] <;> omega
  | b :: ds, i + 1 => by
    have ih := num_testBit ds i
    rw [num, Nat.testBit_succ]
    have : (b.toNat + 2 * num ds) / 2 = num ds := by cases b <;> simp <;> omega
    rw [this, ih]
    simp [onB]
def bitsOf (K s : Nat) : List Bool := (List.range K).map fun i => s.testBit i
theorem bitsOf_length (K s : Nat) : (bitsOf K s).length = K := by simp [bitsOf]
theorem bitsOf_at {K s i : Nat} (h : i < K) : onB (bitsOf K s) i = s.testBit i := by simp [bitsOf, onB, h]
theorem num_bitsOf {K s : Nat} (h : s < 2 ^ K) : num (bitsOf K s) = s := by
  refine Nat.eq_of_testBit_eq fun i => ?_
  rw [num_testBit]
  rcases Nat.lt_or_ge i K with hi | hi
  · exact bitsOf_at hi
  · rw [Nat.testBit_lt_two_pow (Nat.lt_of_lt_of_le h (Nat.pow_le_pow_right (by omega) hi))]
    simp [bitsOf, onB, hi]
theorem onB_false_ge {ds : List Bool} {i : Nat} (h : ds.length ≤ i) : onB ds i = false := by simp [onB, h]
theorem addCs_own {V : Nat} {cs ds : List (List Int)} (h1 : ∀ c ∈ cs, own V c = true) (h2 : ∀ c ∈ ds, own V c = true) : ∀ c ∈ ds.foldl addC cs, own V c = true := fun c hc => by
  rcases addCs_from hc with h | ⟨d, hd, rfl⟩
  · exact h1 c h
  · exact own_norm (h2 d hd)
theorem recsC_own {l : List Rc} {on : List Bool} {V : Nat} (hn : l.length ≤ V) (n : Nat) : ∀ c ∈ recsC l on n, own V c = true := by
  intro c hc
  obtain ⟨i, _, hc⟩ := List.mem_flatMap.1 hc
  unfold recC at hc
  split at hc
  · rename_i r hr
    have hil := (List.getElem?_eq_some_iff.1 hr).1
    have hv : own V [(i : Int) + 1] = true := (own_iff _ _).2 fun z hz => by simp at hz; subst hz; omega
    split at hc
    · rcases List.mem_append.1 hc with hc | hc
      · obtain ⟨s, _, rfl⟩ := List.mem_map.1 hc
        exact someC_own hv hn
      · exact noneC_own hv hn c hc
    · simp at hc
  · simp at hc
theorem dmsC_own {l : List Rc} {on : List Bool} {ds : List Dm} (n : Nat) : ∀ c ∈ dmsC l on ds n, own (l.length + ds.length) c = true := by
  intro c hc
  obtain ⟨k, _, hc⟩ := List.mem_flatMap.1 hc
  unfold dmAt at hc
  split at hc
  · rename_i d hd
    have hkl := (List.getElem?_eq_some_iff.1 hd).1
    have hv : own (l.length + ds.length) [((l.length + k : Nat) : Int) + 1] = true := (own_iff _ _).2 fun z hz => by simp at hz; subst hz; omega
    unfold dmC at hc
    split at hc
    · simp only [List.mem_singleton] at hc; subst hc; exact someC_own hv (by omega)
    · split at hc <;> exact noneC_own hv (by omega) c hc
  · simp at hc
theorem namesC_own {l : List Rc} {on : List Bool} {V : Nat} (hn : l.length ≤ V) (n : Nat) : ∀ c ∈ namesC l on n, own V c = true := by
  intro c hc
  obtain ⟨k, _, hc⟩ := List.mem_flatMap.1 hc
  unfold nameC at hc
  split at hc
  · split at hc
    · simp at hc
    · refine oneC_own ?_ c hc
      rw [own_iff]
      intro z hz
      obtain ⟨i, h1, _, rfl⟩ := mem_pl.1 hz
      omega
  · simp at hc
theorem rulesC_own {l : List Rc} {on : List Bool} {ds : List Dm} : ∀ c ∈ rulesC l on ds, own (l.length + ds.length) c = true := by
  unfold rulesC
  refine addCs_own (addCs_own ?_ (recsC_own (by omega) _)) (dmsC_own _)
  intro c hc
  rcases List.mem_append.1 hc with hc | hc
  · exact addCs_own (fun c h => by simp at h) (offC_own (by omega)) c hc
  · exact namesC_own (by omega) _ c hc
/-- no literal stands twice in a clause -/
theorem oneC_sorted : ∀ {l : List Int}, ∀ c ∈ oneC l, Sorted c
  | [], c, hc => by simp [oneC] at hc
  | a :: l, c, hc => by
    rcases List.mem_append.1 hc with hc | hc
    · obtain ⟨b, _, rfl⟩ := List.mem_map.1 hc
      exact sorted_norm _
    · exact oneC_sorted c hc
theorem addCs_sorted {cs ds : List (List Int)} (h1 : ∀ c ∈ cs, Sorted c) : ∀ c ∈ ds.foldl addC cs, Sorted c := fun c hc => by
  rcases addCs_from hc with h | ⟨d, hd, rfl⟩
  · exact h1 c h
  · exact sorted_norm _
theorem rulesC_sorted {l : List Rc} {on : List Bool} {ds : List Dm} : ∀ c ∈ rulesC l on ds, Sorted c := by
  unfold rulesC
  refine addCs_sorted (addCs_sorted ?_)
  intro c hc
  rcases List.mem_append.1 hc with hc | hc
  · exact addCs_sorted (fun c h => by simp at h) c hc
  · obtain ⟨k, _, hc⟩ := List.mem_flatMap.1 hc
    unfold nameC at hc
    split at hc
    · split at hc
      · simp at hc
      · exact oneC_sorted c hc
    · simp at hc
theorem flat_len {α : Type} (f : Nat → List α) (m : Nat) (h : ∀ i, (f i).length ≤ m) : ∀ n, ((List.range n).flatMap f).length ≤ n * m
  | 0 => by simp
  | n + 1 => by
    have ih := flat_len f m h n
    have := h n
    have e : ([n].flatMap f).length = (f n).length := by simp
    rw [List.range_succ, List.flatMap_append, List.length_append, Nat.succ_mul, e]
    omega
theorem rulesC_len {l : List Rc} {on : List Bool} {ds : List Dm} (h6 : l.length ≤ 6) (h4 : ds.length ≤ 4) (hd : ∀ r ∈ l, r.deps.length ≤ 20) : (rulesC l on ds).length ≤ 1000 := by
  unfold rulesC
  have a1 := addCs_length ((recsC l on l.length).foldl addC ((offC on l.length).foldl addC [] ++ namesC l on l.length)) (dmsC l on ds ds.length)
  have a2 := addCs_length ((offC on l.length).foldl addC [] ++ namesC l on l.length) (recsC l on l.length)
  have a3 := addCs_length [] (offC on l.length)
  rw [List.length_append] at a2
  have b1 : (dmsC l on ds ds.length).length ≤ ds.length * 6 := flat_len _ 6 (fun k => by
    unfold dmAt
    split
    · unfold dmC
      split
      · simp
      · split <;> exact Nat.le_trans (noneC_length _ _ _) h6
    · simp) _
  have b2 : (recsC l on l.length).length ≤ l.length * 26 := flat_len _ 26 (fun i => by
    unfold recC
    split
    · rename_i r hr
      split
      · rw [List.length_append, List.length_map]
        have h1 := hd r (List.mem_of_getElem? hr)
        have h2 := noneC_length ((i : Int) + 1) l.length (fun j => onB on j && cnB l r j)
        omega
      · simp
    · simp) _
  have b3 : (namesC l on l.length).length ≤ l.length * 36 := flat_len _ 36 (fun i => by
    unfold nameC
    split
    · split
      · simp
      · rename_i r _ _
        refine Nat.le_trans (oneC_len _) ?_
        have h2 : (grp l on r.name.toList l.length).length ≤ 6 := Nat.le_trans (pl_length _ _) h6
        exact Nat.mul_le_mul h2 h2
    · simp) _
  have b4 : (offC on l.length).length ≤ l.length := by
    unfold offC
    rw [List.length_map]
    exact Nat.le_trans (List.length_filter_le _ _) (by simp)
  have c1 : ds.length * 6 ≤ 4 * 6 := Nat.mul_le_mul_right 6 h4
  have c2 : l.length * 26 ≤ 6 * 26 := Nat.mul_le_mul_right 26 h6
  have c3 : l.length * 36 ≤ 6 * 36 := Nat.mul_le_mul_right 36 h6
  simp only [List.length_nil] at a3
  omega
/-- the choice's variables are set -/
theorem un_choice {cs : List (List Int)} {ch : List Bool} {K : Nat} {l' : List Int} (hV : ch.length + K ≤ 20000) (h : PropRes cs (frm ch) l' true) : un (ch.length + K) l' ≤ K := by
  unfold un
  rw [List.range_add, List.countP_append]
  have h0 : (List.range ch.length).countP (isUn l') = 0 := by
    rw [List.countP_eq_zero]
    intro i hi
    have hi := List.mem_range.1 hi
    have hm : lit1 ch i ∈ frm ch := List.mem_map.2 ⟨i, List.mem_range.2 hi, rfl⟩
    have hl : isLit (lit1 ch i) = true := own_isLit (vars := ch.length) (by omega) frm_own _ hm
    have hin := (h.yes.2.1 _).2 (derF hm hl)
    unfold isUn
    unfold lit1 at hin
    split at hin
    · rw [(inn_iff _ _).2 hin]; simp
    · rw [(inn_iff l' (-((i : Int) + 1))).2 hin]; simp
  rw [h0]
  refine Nat.le_trans (Nat.le_of_eq (Nat.zero_add _)) (Nat.le_trans List.countP_le_length ?_)
  simp
/-- which selectors are so in a model -/
def setN (n K : Nat) (x : List Bool) : Nat := num ((List.range K).map fun i => holds (((n + i : Nat) : Int) + 1) x)
theorem ext_of {ch x : List Bool} (hV : x.length ≤ 20000) (hx : ch.length ≤ x.length) (h : ∀ z ∈ frm ch, holds z x = true) : ∃ sel, x = ch ++ sel := by
  refine ⟨x.drop ch.length, ?_⟩
  refine List.ext_getElem? fun i => ?_
  rcases Nat.lt_or_ge i ch.length with hi | hi
  · rw [List.getElem?_append_left hi]
    have hz := h (lit1 ch i) (List.mem_map.2 ⟨i, List.mem_range.2 hi, rfl⟩)
    have hxi : x[i]? = some (x[i]'(by omega)) := List.getElem?_eq_getElem _
    have hci : ch[i]? = some ch[i] := List.getElem?_eq_getElem _
    rw [hxi, hci]
    unfold lit1 at hz
    rw [hci] at hz
    simp only [Option.getD_some] at hz
    split at hz
    · rename_i hc
      rw [holds_var (by omega)] at hz
      have : atB x i = x[i]'(by omega) := by unfold atB; rw [hxi]; rfl
      rw [this] at hz
      rw [hz, hc]
    · rename_i hc
      rw [holds_neg x (lit_var (by omega)), holds_var (by omega)] at hz
      have : atB x i = x[i]'(by omega) := by unfold atB; rw [hxi]; rfl
      rw [this] at hz
      rw [Bool.not_eq_true'] at hz
      rw [hz]
      simpa using hc
  · rw [List.getElem?_append_right hi, List.getElem?_drop]
    congr 1; omega
theorem frm_of {ch sel : List Bool} (hV : ch.length ≤ 20000) : ∀ z ∈ frm ch, holds z (ch ++ sel) = true := fun z hz => by
  simp only [frm, List.mem_map, List.mem_range] at hz
  obtain ⟨i, hi, rfl⟩ := hz
  exact holds_lit1 hi hV
theorem setN_append {ch sel : List Bool} {K : Nat} (hs : sel.length = K) (hV : ch.length + K ≤ 20000) : setN ch.length K (ch ++ sel) = num sel := by
  unfold setN
  congr 1
  refine List.ext_getElem? fun i => ?_
  rcases Nat.lt_or_ge i K with hi | hi
  · rw [List.getElem?_map, List.getElem?_range hi, Option.map_some, holds_var (by omega)]
    unfold atB
    rw [List.getElem?_append_right (by omega), Nat.add_sub_cancel_left, List.getElem?_eq_getElem (by omega)]
    rfl
  · rw [List.getElem?_eq_none (by simp; omega), List.getElem?_eq_none (by omega)]
/-- the demands that a set of selectors stands for hold, and the choice is sound -/
def okTo (l : List Rc) (on ch : List Bool) (ds : List Dm) (s k : Nat) : Bool := (List.range k).foldl (fun ok i => if s.testBit i then ok && (ds[i]?.map (Q.holds l ch)).getD true else ok) (Q.sound l on ch)
theorem okTo_succ {l : List Rc} {on ch : List Bool} {ds : List Dm} {s k : Nat} {d : Dm} (h : ds[k]? = some d) : okTo l on ch ds s (k + 1) = if s.testBit k then okTo l on ch ds s k && Q.holds l ch d else okTo l on ch ds s k := by
  unfold okTo
  rw [List.range_succ, List.foldl_append]
  simp [h]
theorem okTo_iff {l : List Rc} {on ch : List Bool} {ds : List Dm} {s : Nat} : ∀ k, k ≤ ds.length → (okTo l on ch ds s k = true ↔ Q.sound l on ch = true ∧ ∀ (i : Nat) (d : Dm), i < k → ds[i]? = some d → s.testBit i = true → Q.holds l ch d = true)
  | 0, _ => by simp [okTo]
  | k + 1, hk => by
    have ih := okTo_iff (l := l) (on := on) (ch := ch) (ds := ds) (s := s) k (by omega)
    obtain ⟨d, hd⟩ : ∃ d, ds[k]? = some d := ⟨ds[k], List.getElem?_eq_getElem _⟩
    rw [okTo_succ hd]
    have split : ∀ P : Nat → Dm → Prop, (∀ (i : Nat) (d : Dm), i < k + 1 → ds[i]? = some d → P i d) ↔ (∀ (i : Nat) (d : Dm), i < k → ds[i]? = some d → P i d) ∧ P k d := fun P => by
      constructor
      · intro h
        exact ⟨fun i e hi he => h i e (by omega) he, h k d (by omega) hd⟩
      · rintro ⟨h1, h2⟩ i e hi he
        rcases Nat.lt_or_ge i k with h3 | h3
        · exact h1 i e h3 he
        · obtain rfl : i = k := by omega
          rw [hd] at he; cases he; exact h2
    rw [split (fun i d => s.testBit i = true → Q.holds l ch d = true)]
    cases hs : s.testBit k
    · simp only [Bool.false_eq_true, if_false, false_implies, and_true]
      exact ih
    · rw [if_pos rfl, Bool.and_eq_true, ih]
      simp only [true_implies]
      exact and_assoc
/-- the formula's models behind a choice, by their selectors -/
theorem rules_models {l : List Rc} {on ch : List Bool} {ds : List Dm} {xs : List (List Bool)} (ho : on.length = l.length) (hc : ch.length = l.length) (hw : ∀ d ∈ ds, 1 ≤ d.how ∧ d.how ≤ 3) (hn : l.length + ds.length ≤ 10000)
    (hx : XR (rulesC l on ds) (l.length + ds.length) (frm ch) xs) {s : Nat} (hs : s < 2 ^ ds.length) : (∃ x ∈ xs, setN l.length ds.length x = s) ↔ okTo l on ch ds s ds.length = true := by
  rw [okTo_iff _ (Nat.le_refl _)]
  constructor
  · rintro ⟨x, hxx, hxs⟩
    obtain ⟨h1, h2, h3⟩ := (hx x).1 hxx
    obtain ⟨sel, rfl⟩ := ext_of (ch := ch) (x := x) (by omega) (by omega) h2
    have hsl : sel.length = ds.length := by rw [List.length_append] at h1; omega
    rw [← hc, setN_append hsl (by omega)] at hxs
    obtain ⟨h4, h5⟩ := (rulesC_iff ho hc hw hn).1 h3
    exact ⟨h4, fun i d hi hd hb => h5 i d hd (by rw [← num_testBit, hxs]; exact hb)⟩
  · rintro ⟨h1, h2⟩
    refine ⟨ch ++ bitsOf ds.length s, (hx _).2 ⟨by rw [List.length_append, bitsOf_length]; omega, frm_of (by omega), (rulesC_iff ho hc hw hn).2 ⟨h1, fun k d hd hk => ?_⟩⟩, ?_⟩
    · have hkl := (List.getElem?_eq_some_iff.1 hd).1
      rw [bitsOf_at hkl] at hk
      exact h2 k d hkl hd hk
    · rw [← hc, setN_append (bitsOf_length _ _) (by omega)]; exact num_bitsOf hs
end Go.Proofs.YtnmcajinaigcjaaGreatDoor.C.M
