/- One text of XSXMath, XSX, XSAtG, XSXPart, XSBLaw: a claim has at most 60 files. -/
import Derived.Test.YtllkeojkejbbeaaDoorSPlAll
import Derived.Test.YtllkeojkejbbeaaDoorModels
import Derived.Test.YtllkeojkejbbeaaDoorSLim
import Derived.Test.YtllkeojkejbbeaaDoorSBits
import Derived.Test.YtllkeojkejbbeaaDoorSRef
import Derived.Test.YtllkeojkejbbeaaDoorSDig
import Derived.Test.YtllkeojkejbbeaaDoorSDigLaw
namespace Go.Proofs.YtllkeojkejbbeaaDoor.M

/-! ### how many literals a sorted list has -/
def key (z : Int) : Int := 2 * vr z + (if 0 < z then 1 else 0)
theorem key_less {a b : Int} (h : less a b = true) : key a < key b := by
  rw [less_iff] at h
  unfold key vr at *
  split at h <;> split at h <;> (repeat' split) <;> omega
theorem sorted_room : ∀ {l : List Int} {lo hi : Int}, Sorted l → (∀ x ∈ l, lo ≤ key x ∧ key x < hi) → l ≠ [] → lo + l.length ≤ hi
  | [], _, _, _, _, h => absurd rfl h
  | [x], lo, hi, _, h, _ => by
    have := h x (by simp)
    simp; omega
  | x :: y :: r, lo, hi, hs, h, _ => by
    obtain ⟨h1, h2⟩ := List.pairwise_cons.1 hs
    have ih := sorted_room (lo := key x + 1) (hi := hi) h2 (fun z hz => ⟨by have := key_less (h1 z hz); omega, (h z (List.mem_cons_of_mem _ hz)).2⟩) (by simp)
    have := h x (by simp)
    simp only [List.length_cons] at ih ⊢
    omega
theorem own_room {V : Nat} {l : List Int} (hs : Sorted l) (ho : own V l = true) : l.length ≤ 2 * V := by
  by_cases h : l = []
  · subst h; simp
  · have := sorted_room (lo := 2) (hi := 2 * V + 2) hs (fun x hx => by
      have h1 := (own_iff _ _).1 ho x hx
      unfold key vr
      repeat' split
      all_goals omega) h
    omega
theorem own_mem {V : Nat} {l : List Int} {z : Int} (ho : own V l = true) (h : z ∈ l) : own V [z] = true :=
  (own_iff _ _).2 fun y hy => by simp at hy; subst hy; exact (own_iff _ _).1 ho _ h
theorem own_of {V : Nat} {l : List Int} (h : ∀ z ∈ l, own V [z] = true) : own V l = true :=
  (own_iff _ _).2 fun y hy => (own_iff _ _).1 (h y hy) y (by simp)
theorem own_neg1 {V : Nat} {z : Int} (h : own V [z] = true) : own V [-z] = true := by
  have := (own_iff _ _).1 h z (by simp)
  exact (own_iff _ _).2 fun y hy => by simp at hy; subst hy; omega
theorem der_own {cs : List (List Int)} {fr : List Int} {V : Nat} (hc : ∀ c ∈ cs, own V c = true) (hf : own V fr = true) {z : Int} (h : Der cs fr z) : own V [z] = true :=
  h (fun z => own V [z] = true) ⟨fun _ hl _ => own_mem hf hl, fun _ hcc _ hl _ _ => own_mem (hc _ hcc) hl⟩
theorem der_mono {cs cs' : List (List Int)} {fr fr' : List Int} (h1 : ∀ c ∈ cs, c ∈ cs') (h2 : ∀ z ∈ fr, isLit z = true → Der cs' fr' z) {z : Int} (h : Der cs fr z) : Der cs' fr' z :=
  h _ ⟨h2, fun c hc l hl hil hk => (der_closed cs' fr').2 c (h1 c hc) l hl hil hk⟩
theorem derF {cs : List (List Int)} {fr : List Int} {x : Int} (hx : x ∈ fr) (hl : isLit x = true) : Der cs fr x := (der_closed cs fr).1 x hx hl
/-! ### what is not set -/
def isUn (l : List Int) (i : Nat) : Bool := !(inn l ((i : Int) + 1)) && !(inn l (-((i : Int) + 1)))
def un (V : Nat) (l : List Int) : Nat := (List.range V).countP (isUn l)
theorem countP_lt {α : Type} {p q : α → Bool} : ∀ {L : List α} {a : α}, (∀ x ∈ L, p x = true → q x = true) → a ∈ L → q a = true → p a = false → L.countP p < L.countP q
  | [], a, _, h, _, _ => by simp at h
  | y :: L, a, h, ha, hq, hp => by
    rw [List.countP_cons, List.countP_cons]
    have hle : L.countP p ≤ L.countP q := List.countP_mono_left fun x hx => h x (List.mem_cons_of_mem _ hx)
    rcases List.mem_cons.1 ha with rfl | ha
    · rw [hq, hp]; simp; omega
    · have ih := countP_lt (fun x hx => h x (List.mem_cons_of_mem _ hx)) ha hq hp
      have := h y (by simp)
      cases hpy : p y
      · simp; split <;> omega
      · rw [this hpy]; simp; omega
/-- just the models of so many variables with which literals and clauses are true -/
def XR (cs : List (List Int)) (V : Nat) (fr : List Int) (xs : List (List Bool)) : Prop :=
  ∀ x, x ∈ xs ↔ x.length = V ∧ (∀ z ∈ fr, holds z x = true) ∧ allTrue cs x = true
def setM (V : Nat) (l : List Int) : List Bool := (List.range V).map fun (i : Nat) => inn l ((i : Int) + 1)
theorem setM_length (V : Nat) (l : List Int) : (setM V l).length = V := by simp [setM]
section
variable {cs : List (List Int)} {V : Nat} {fr l : List Int}
theorem PropRes.yes (h : PropRes cs fr l true) : Sorted l ∧ (∀ x, x ∈ l ↔ Der cs fr x) ∧ ¬ Conf cs fr := by
  rcases h with ⟨_, h1, h2, h3⟩ | ⟨h, _⟩
  · exact ⟨h1, h2, h3⟩
  · cases h
theorem PropRes.noC (h : PropRes cs fr l false) : Conf cs fr := by
  rcases h with ⟨h, _⟩ | ⟨_, _, h⟩
  · cases h
  · exact h
theorem PropRes.own (h : PropRes cs fr l true) (hc : ∀ c ∈ cs, own V c = true) (hf : own V fr = true) : M.own V l = true :=
  own_of fun z hz => der_own hc hf ((h.yes.2.1 z).1 hz)
theorem leaf_no (h : Conf cs fr) : XR cs V fr [] := fun x => ⟨fun hx => by simp at hx, fun hx => (conf_false hx.2.2 (fun z hz _ => hx.2.1 z hz) h).elim⟩
theorem set_holds (hV : V ≤ 20000) (h : PropRes cs fr l true) (hu : ∀ i, i < V → isUn l i = false) {z : Int} (hz : M.own V [z] = true) : holds z (setM V l) = true ↔ z ∈ l := by
  obtain ⟨_, hd, hn⟩ := h.yes
  have hz' := (own_iff _ _).1 hz z (by simp)
  have hpos : ∀ i : Nat, i < V → holds ((i + 1 : Nat) : Int) (setM V l) = inn l ((i : Int) + 1) := fun i hi => by
    rw [holds_pos (by omega)]; simp [setM, hi]
  have hcon : ∀ y, y ∈ l → -y ∈ l → False := fun y h1 h2 => hn (.inl ⟨y, (hd y).1 h1, (hd _).1 h2⟩)
  rcases Int.lt_or_gt_of_ne hz'.1 with h1 | h1
  · obtain ⟨i, rfl⟩ : ∃ i : Nat, z = -((i + 1 : Nat) : Int) := ⟨(-z - 1).toNat, by omega⟩
    have hi : i < V := by omega
    have hl : isLit ((i + 1 : Nat) : Int) = true := by rw [isLit_iff]; omega
    rw [holds_neg _ hl, hpos i hi]
    have e : ((i : Int) + 1) = ((i + 1 : Nat) : Int) := by omega
    have h2 := hu i hi
    unfold isUn at h2
    rw [e] at h2 ⊢
    rw [← inn_iff]
    cases h3 : inn l ((i + 1 : Nat) : Int)
    · rw [h3] at h2
      simp at h2
      simp [h2]
    · cases h4 : inn l (-((i + 1 : Nat) : Int))
      · simp
      · exact (hcon _ ((inn_iff _ _).1 h3) ((inn_iff _ _).1 h4)).elim
  · obtain ⟨i, rfl⟩ : ∃ i : Nat, z = ((i + 1 : Nat) : Int) := ⟨(z - 1).toNat, by omega⟩
    rw [hpos i (by omega)]
    have e : ((i : Int) + 1) = ((i + 1 : Nat) : Int) := by omega
    rw [e, inn_iff]
theorem leaf_yes (hV : V ≤ 20000) (hc : ∀ c ∈ cs, M.own V c = true) (hf : M.own V fr = true) (h : PropRes cs fr l true) (hu : ∀ i, i < V → isUn l i = false) : XR cs V fr [setM V l] := by
  obtain ⟨_, hd, hn⟩ := h.yes
  intro x
  constructor
  · intro hx
    rw [List.mem_singleton] at hx
    subst hx
    refine ⟨setM_length V l, fun z hz => ?_, ?_⟩
    · have hz1 := own_mem hf hz
      exact (set_holds hV h hu hz1).2 ((hd z).2 (derF hz (own_isLit hV hz1 z (by simp))))
    · unfold allTrue
      rw [List.all_eq_true]
      intro c hcc
      refine Classical.byContradiction fun hno => hn (.inr ⟨c, hcc, fun k hk hkl => ?_⟩)
      have hk1 := own_mem (hc c hcc) hk
      refine (hd _).1 ((set_holds hV h hu (own_neg1 hk1)).1 ?_)
      rw [holds_neg _ hkl]
      cases hh : holds k (setM V l)
      · rfl
      · exact absurd (List.any_eq_true.2 ⟨k, hk, hh⟩) hno
  · rintro ⟨h1, h2, h3⟩
    rw [List.mem_singleton]
    refine List.ext_getElem? fun i => ?_
    by_cases hi : i < V
    · have hi2 : i < x.length := by omega
      have hl : isLit ((i + 1 : Nat) : Int) = true := by rw [isLit_iff]; omega
      have e : ((i : Int) + 1) = ((i + 1 : Nat) : Int) := by omega
      have hx : x[i]? = some (holds ((i + 1 : Nat) : Int) x) := by rw [holds_pos (by omega), List.getElem?_eq_getElem hi2]; rfl
      have hs : (setM V l)[i]? = some (inn l ((i : Int) + 1)) := by simp [setM, hi]
      rw [hx, hs]
      refine congrArg some ?_
      have h4 := hu i hi
      unfold isUn at h4
      rw [e] at h4 ⊢
      cases h5 : inn l ((i + 1 : Nat) : Int)
      · rw [h5] at h4
        have h6 : inn l (-((i + 1 : Nat) : Int)) = true := by simpa using h4
        have h7 := der_true h3 (fun z hz _ => h2 z hz) ((hd _).1 ((inn_iff _ _).1 h6))
        rw [holds_neg _ hl] at h7
        simpa using h7
      · exact der_true h3 (fun z hz _ => h2 z hz) ((hd _).1 ((inn_iff _ _).1 h5))
    · rw [List.getElem?_eq_none (by omega), List.getElem?_eq_none (by rw [setM_length]; omega)]
theorem node (hV : V ≤ 20000) (hf : M.own V fr = true) (h : PropRes cs fr l true) {v : Int} (hv : M.own V [v] = true) {xa xb : List (List Bool)} (ha : XR cs V (l ++ [v]) xa) (hb : XR cs V (l ++ [-v]) xb) : XR cs V fr (xa ++ xb) := by
  obtain ⟨_, hd, _⟩ := h.yes
  have hfl : ∀ z ∈ fr, z ∈ l := fun z hz => (hd z).2 (derF hz (own_isLit hV hf z hz))
  intro x
  rw [List.mem_append, ha x, hb x]
  constructor
  · rintro (⟨h1, h2, h3⟩ | ⟨h1, h2, h3⟩)
    · exact ⟨h1, fun z hz => h2 z (List.mem_append_left _ (hfl z hz)), h3⟩
    · exact ⟨h1, fun z hz => h2 z (List.mem_append_left _ (hfl z hz)), h3⟩
  · rintro ⟨h1, h2, h3⟩
    have h4 : ∀ z ∈ l, holds z x = true := fun z hz => der_true h3 (fun z hz _ => h2 z hz) ((hd z).1 hz)
    cases hh : holds v x
    · refine .inr ⟨h1, fun z hz => ?_, h3⟩
      rcases List.mem_append.1 hz with hz | hz
      · exact h4 z hz
      · simp at hz; subst hz
        rw [holds_neg _ (own_isLit hV hv v (by simp)), hh]; rfl
    · refine .inl ⟨h1, fun z hz => ?_, h3⟩
      rcases List.mem_append.1 hz with hz | hz
      · exact h4 z hz
      · simp at hz; subst hz; exact hh
theorem un_next {l' : List Int} {i : Nat} {z : Int} (h : PropRes cs (l ++ [z]) l' true) (hl : ∀ x ∈ l, isLit x = true) (hi : i < V) (hu : isUn l i = true) (hz : z = (i : Int) + 1 ∨ z = -((i : Int) + 1)) (hzl : isLit z = true) : un V l' < un V l := by
  obtain ⟨_, hd, _⟩ := h.yes
  have hin : ∀ x ∈ l, x ∈ l' := fun x hx => (hd x).2 (derF (List.mem_append_left _ hx) (hl x hx))
  have hz' : z ∈ l' := (hd z).2 (derF (by simp) hzl)
  refine countP_lt (fun j _ hj => ?_) (List.mem_range.2 hi) hu ?_
  · unfold isUn at hj ⊢
    simp only [Bool.and_eq_true, Bool.not_eq_true', inn_false] at hj ⊢
    exact ⟨fun h1 => hj.1 (hin _ h1), fun h1 => hj.2 (hin _ h1)⟩
  · unfold isUn
    rcases hz with e | e
    · rw [e] at hz'
      rw [(inn_iff _ _).2 hz']; rfl
    · rw [e] at hz'
      rw [(inn_iff l' (-((i : Int) + 1))).2 hz']; simp
end
/-! ### at most k -/
def amC (zs : List Int) (k : Nat) (ys : List Int) : Nat → List (List Int)
  | 0 => []
  | j + 1 => if k.testBit j then amC zs k (ys ++ [-(zs.getD j 0)]) j else ([-(zs.getD j 0)] ++ ys) :: amC zs k ys j
def amAll (zs : List Int) (k s : Int) : List (List Int) :=
  if k < 0 then [[-s]] else if 0 < k / 2 ^ zs.length then [] else amC zs k.toNat [-s] zs.length
theorem tru_append (a b : List Int) (m : List Bool) : tru (a ++ b) m = (tru a m || tru b m) := by simp [tru]
theorem tru_one (z : Int) (m : List Bool) : tru [z] m = holds z m := by simp [tru]
theorem amC_true {zs : List Int} (k : Nat) (x : List Bool) (hz : ∀ z ∈ zs, isLit z = true) : ∀ (m : Nat) (ys : List Int), m ≤ zs.length → allTrue (amC zs k ys m) x = (tru ys x || decide (num ((zs.take m).map (holds · x)) ≤ k % 2 ^ m)) := by
  intro m
  induction m with
  | zero => intro ys _; simp [amC, allTrue, num]
  | succ j ih =>
    intro ys hj
    have hzj : zs[j]? = some zs[j] := List.getElem?_eq_getElem (by omega)
    have hg : zs.getD j 0 = zs[j] := by rw [List.getD_eq_getElem?_getD, hzj]; rfl
    have hl := hz zs[j] (List.getElem_mem _)
    have hn : num ((zs.take (j + 1)).map (holds · x)) = num ((zs.take j).map (holds · x)) + (if holds zs[j] x then 2 ^ j else 0) := by
      have := num_snoc (ds := zs.map (holds · x)) (k := j) (b := holds zs[j] x) (by rw [List.getElem?_map, hzj]; rfl)
      rw [List.map_take, List.map_take]; exact this
    have hlt : num ((zs.take j).map (holds · x)) < 2 ^ j := by
      have := num_lt ((zs.take j).map (holds · x))
      rwa [List.length_map, List.length_take, Nat.min_eq_left (by omega)] at this
    have hm : k % 2 ^ (j + 1) = k % 2 ^ j + 2 ^ j * (k.testBit j).toNat := by
      rw [Nat.mod_pow_succ, Nat.toNat_testBit]
    have hml : k % 2 ^ j < 2 ^ j := Nat.mod_lt _ (Nat.two_pow_pos j)
    rw [hn, hm, amC, hg]
    clear hn hm
    have key : ∀ (A B P : Nat) (t h b : Bool), A < P → B < P → (((t || !h) || decide (A ≤ B)) = (t || decide (A + (if h then P else 0) ≤ B + P * 1))) ∧ ((((!h) || t) && (t || decide (A ≤ B))) = (t || decide (A + (if h then P else 0) ≤ B + P * 0))) := by
      intro A B P t h b hA hB
      cases t <;> cases h <;> simp <;> omega
    have hk := key _ _ _ (tru ys x) (holds zs[j] x) true hlt hml
    cases hb : k.testBit j
    · rw [if_neg (by simp)]
      rw [show allTrue (([-zs[j]] ++ ys) :: amC zs k ys j) x = (tru ([-zs[j]] ++ ys) x && allTrue (amC zs k ys j) x) from rfl]
      rw [ih ys (by omega), tru_append, tru_one, holds_neg _ hl]
      exact hk.2
    · rw [if_pos rfl, ih _ (by omega), tru_append, tru_one, holds_neg _ hl]
      exact hk.1
theorem amAll_true {zs : List Int} {k s : Int} (x : List Bool) (hz : ∀ z ∈ zs, isLit z = true) (hs : isLit s = true) : allTrue (amAll zs k s) x = true ↔ (holds s x = false ∨ (num (zs.map (holds · x)) : Int) ≤ k) := by
  have hlt : num (zs.map (holds · x)) < 2 ^ zs.length := by
    have := num_lt (zs.map (holds · x))
    rwa [List.length_map] at this
  unfold amAll
  by_cases h1 : k < 0
  · rw [if_pos h1]
    simp only [allTrue, List.all_cons, List.all_nil, Bool.and_true, tru_one, holds_neg _ hs]
    simp
    omega
  · rw [if_neg h1]
    obtain ⟨n, rfl⟩ : ∃ n : Nat, k = n := ⟨k.toNat, by omega⟩
    have e : ((n : Int) / 2 ^ zs.length) = ((n / 2 ^ zs.length : Nat) : Int) := by simp
    rw [e]
    by_cases h2 : 0 < ((n / 2 ^ zs.length : Nat) : Int)
    · rw [if_pos h2]
      have h3 : 2 ^ zs.length ≤ n := by
        refine Classical.byContradiction fun hno => ?_
        rw [Nat.div_eq_of_lt (by omega)] at h2
        omega
      simp only [allTrue, List.all_nil, true_iff]
      right; omega
    · rw [if_neg h2, amC_true (Int.toNat n) x hz zs.length _ (Nat.le_refl _), List.take_length, tru_one, holds_neg _ hs]
      have h3 : n < 2 ^ zs.length := by
        refine Classical.byContradiction fun hno => ?_
        have := Nat.div_pos (a := n) (b := 2 ^ zs.length) (by omega) (Nat.two_pow_pos _)
        omega
      rw [Int.toNat_natCast, Nat.mod_eq_of_lt h3]
      cases holds s x <;> simp
theorem amC_own {V : Nat} {zs : List Int} (k : Nat) (hz : own V zs = true) : ∀ (m : Nat) (ys : List Int), m ≤ zs.length → own V ys = true → (∀ c ∈ amC zs k ys m, own V c = true) ∧ (amC zs k ys m).length ≤ m ∧ ∀ c ∈ amC zs k ys m, c.length ≤ ys.length + m := by
  intro m
  induction m with
  | zero => intro ys _ _; simp [amC]
  | succ j ih =>
    intro ys hj hy
    have hzj : zs[j]? = some zs[j] := List.getElem?_eq_getElem (by omega)
    have hg : zs.getD j 0 = zs[j] := by rw [List.getD_eq_getElem?_getD, hzj]; rfl
    have h1 : own V [-zs[j]] = true := own_neg1 (own_mem hz (List.getElem_mem _))
    rw [amC, hg]
    split
    · obtain ⟨a1, a2, a3⟩ := ih (ys ++ [-zs[j]]) (by omega) (own_append.2 ⟨hy, h1⟩)
      exact ⟨a1, by omega, fun c hc => by have := a3 c hc; simp at this; omega⟩
    · obtain ⟨a1, a2, a3⟩ := ih ys (by omega) hy
      refine ⟨fun c hc => ?_, by simp; exact a2, fun c hc => ?_⟩
      · rcases List.mem_cons.1 hc with rfl | hc
        · exact own_append.2 ⟨h1, hy⟩
        · exact a1 c hc
      · rcases List.mem_cons.1 hc with rfl | hc
        · simp
        · have := a3 c hc; omega
theorem amAll_own {V : Nat} {zs : List Int} {k s : Int} (hz : own V zs = true) (hs : own V [s] = true) : (∀ c ∈ amAll zs k s, own V c = true) ∧ (amAll zs k s).length ≤ zs.length + 1 ∧ ∀ c ∈ amAll zs k s, c.length ≤ zs.length + 1 := by
  unfold amAll
  split
  · exact ⟨fun c hc => by simp at hc; subst hc; exact own_neg1 hs, by simp, fun c hc => by simp at hc; subst hc; simp⟩
  · split
    · simp
    · obtain ⟨a1, a2, a3⟩ := amC_own k.toNat hz zs.length [-s] (Nat.le_refl _) (own_neg1 hs)
      exact ⟨a1, by omega, fun c hc => by have := a3 c hc; simp at this; omega⟩
/-! ### the two questions of the law -/
theorem own_norm {V : Nat} {l : List Int} (h : own V l = true) : own V (norm l) = true :=
  own_of fun z hz => own_mem h ((mem_norm l z).1 hz)
theorem gatesC_own {V : Nat} : ∀ {gs : List G}, Gok V gs → V + gs.length ≤ 20000 → ∀ c ∈ gatesC V gs, own (V + gs.length) c = true := by
  intro gs
  generalize hn : gs.length = n
  induction n generalizing gs with
  | zero => intro _ _ c hc; rw [List.eq_nil_of_length_eq_zero hn] at hc; simp [gatesC] at hc
  | succ n ih =>
    intro h hV c hc
    rcases List.eq_nil_or_concat gs with rfl | ⟨gs', g, rfl⟩
    · simp at hn
    · rw [List.concat_eq_append] at *
      have hn' : gs'.length = n := by simpa using hn
      have hk : Gok V gs' := fun i g' hg => h i g' (by rw [List.getElem?_append_left (List.getElem?_eq_some_iff.1 hg).1]; exact hg)
      rw [gatesC_snoc] at hc
      rcases addCs_from hc with hc | ⟨d, hd, rfl⟩
      · exact own_mono (by omega) (ih hn' hk (by omega) c hc)
      · obtain ⟨ho, hf⟩ := h gs'.length g (by simp)
        have hvr := gateC_vr (N := V + gs'.length) hf.1 hf.2 (own_vr ho) d hd
        have hlit := gateC_lits (g := ((V + gs'.length + 1 : Nat) : Int)) (by rw [isLit_iff]; omega) (own_isLit (vars := V + gs'.length) (by omega) ho) hf.1 hf.2 d hd
        refine own_norm (own_of fun z hz => ?_)
        have h1 := vr_bd (hvr z hz)
        have h2 := (isLit_iff z).1 (hlit z hz)
        exact (own_iff _ _).2 fun y hy => by simp at hy; subst hy; omega
theorem frm_own {m : List Bool} : own m.length (frm m) = true :=
  own_of fun z hz => by
    simp only [frm, List.mem_map, List.mem_range] at hz
    obtain ⟨i, hi, rfl⟩ := hz
    refine (own_iff _ _).2 fun y hy => ?_
    simp at hy; subst hy
    unfold lit1; split <;> omega
theorem frm_len (m : List Bool) : (frm m).length = m.length := by simp [frm]
theorem un_zero {V : Nat} {l : List Int} (h : ∀ i, i < V → isUn l i = false) : un V l = 0 := by
  unfold un
  rw [List.countP_eq_zero]
  intro i hi
  rw [h i (List.mem_range.1 hi)]; simp
theorem un_one {V : Nat} {l : List Int} (h : ∀ i, i < V → isUn l i = false) : un (V + 1) l ≤ 1 := by
  unfold un
  rw [List.range_succ, List.countP_append]
  have := un_zero h
  unfold un at this
  rw [this]
  simp [List.countP_cons]
  split <;> omega
section
variable {V : Nat} {gs : List G} {m : List Bool}
theorem frm_ext (hV : V + gs.length ≤ 20000) (hm : m.length = V) {z : Int} (hz : z ∈ frm m) (k : List Bool) : holds z (m ++ k) = true := by
  simp only [frm, List.mem_map, List.mem_range] at hz
  obtain ⟨i, hi, rfl⟩ := hz
  exact holds_lit1 hi (by omega)
theorem set_all (h : Gok V gs) (hV : V + gs.length ≤ 20000) (hm : m.length = V) {i : Nat} (hi : i < V + gs.length) : Der (gatesC V gs) (frm m) ((i : Int) + 1) ∨ Der (gatesC V gs) (frm m) (-((i : Int) + 1)) := by
  have ho : own (V + gs.length) [(i : Int) + 1] = true := (own_iff _ _).2 fun y hy => by simp at hy; subst hy; omega
  have hl : isLit ((i : Int) + 1) = true := by rw [isLit_iff]; omega
  cases hh : holds ((i : Int) + 1) (ext m gs)
  · exact .inr (holds_der h hV hm gs.length (Nat.le_refl _) _ (own_neg1 ho) (by rw [holds_neg _ hl, hh]; rfl))
  · exact .inl (holds_der h hV hm gs.length (Nat.le_refl _) _ ho hh)
theorem un_of (h : Gok V gs) (hV : V + gs.length ≤ 20000) (hm : m.length = V) {cs : List (List Int)} (hc : ∀ c ∈ gatesC V gs, c ∈ cs) {l : List Int} (hp : PropRes cs (frm m) l true) {i : Nat} (hi : i < V + gs.length) : isUn l i = false := by
  obtain ⟨_, hd, _⟩ := hp.yes
  have mono : ∀ {z : Int}, Der (gatesC V gs) (frm m) z → z ∈ l := fun hz => (hd _).2 (der_mono hc (fun z hz hl => derF hz hl) hz)
  unfold isUn
  rcases set_all h hV hm hi with h1 | h1
  · rw [(inn_iff _ _).2 (mono h1)]; rfl
  · rw [(inn_iff l (-((i : Int) + 1))).2 (mono h1)]; simp
theorem on_one (h : Gok V gs) (hV : V + gs.length ≤ 20000) (hm : m.length = V) {xs : List (List Bool)} (hx : XR (gatesC V gs) (V + gs.length) (frm m) xs) (hl : xs.length ≤ 1) : xs = [ext m gs] := by
  have hin : ext m gs ∈ xs := (hx _).2 ⟨by rw [ext_length, hm], fun z hz => by
    obtain ⟨k, e⟩ := ext_eq m gs
    rw [e]; exact frm_ext hV hm hz k, gates_hold h hV m hm⟩
  match xs, hl, hin with
  | [x], _, hin => simp at hin; rw [hin]
theorem own_holds {V : Nat} {cs : List (List Int)} {x y : List Bool} (hc : ∀ c ∈ cs, own V c = true) (hxy : ∀ z, own V [z] = true → holds z x = holds z y) : allTrue cs x = allTrue cs y := by
  rw [Bool.eq_iff_iff]
  simp only [allTrue, List.all_eq_true, tru, List.any_eq_true]
  constructor
  · intro h c hcc
    obtain ⟨z, hz, h1⟩ := h c hcc
    exact ⟨z, hz, by rw [← hxy z (own_mem (hc c hcc) hz)]; exact h1⟩
  · intro h c hcc
    obtain ⟨z, hz, h1⟩ := h c hcc
    exact ⟨z, hz, by rw [hxy z (own_mem (hc c hcc) hz)]; exact h1⟩
theorem yes_iff (h : Gok V gs) (hV : V + gs.length + 1 ≤ 20000) (hm : m.length = V) {bits : List Int} (hb : own (V + gs.length) bits = true) {k s : Int} (hs : s = ((V + gs.length + 1 : Nat) : Int)) {xs : List (List Bool)}
    (hx : XR ((amAll bits k s).foldl addC (gatesC V gs)) (V + gs.length + 1) (frm m) xs) : (∃ x ∈ xs, holds s x = true) ↔ (num (bits.map (holds · (ext m gs))) : Int) ≤ k := by
  have hsl : isLit s = true := by rw [isLit_iff]; omega
  have hs1 : own (V + gs.length + 1) [s] = true := by rw [hs]; exact own_new _
  have hbl := own_isLit (vars := V + gs.length) (by omega) hb
  obtain ⟨a1, _, _⟩ := amAll_own (k := k) (own_mono (Nat.le_succ _) hb) hs1
  have hal : ∀ x, allTrue ((amAll bits k s).foldl addC (gatesC V gs)) x = true ↔ allTrue (gatesC V gs) x = true ∧ (holds s x = false ∨ (num (bits.map (holds · x)) : Int) ≤ k) := fun x => by
    rw [allTrue_addCs _ _ (fun c hc => own_isLit (by omega) (a1 c hc)), Bool.and_eq_true, amAll_true x hbl hsl]
  have hnum : ∀ x, (∀ z, own (V + gs.length) [z] = true → holds z (ext m gs) = holds z x) → num (bits.map (holds · x)) = num (bits.map (holds · (ext m gs))) := fun x hh => by
    congr 1
    exact List.map_congr_left fun z hz => (hh z (own_mem hb hz)).symm
  constructor
  · rintro ⟨x, hxx, hsx⟩
    obtain ⟨h1, h2, h3⟩ := (hx x).1 hxx
    obtain ⟨h4, h5⟩ := (hal x).1 h3
    have hh : ∀ z, own (V + gs.length) [z] = true → holds z (ext m gs) = holds z x := fun z hz => by
      have hzl := own_isLit (vars := V + gs.length) (by omega) hz z (by simp)
      have key : ∀ z, own (V + gs.length) [z] = true → holds z (ext m gs) = true → holds z x = true := fun z hz hh =>
        der_true h4 (fun z hz _ => h2 z hz) (holds_der h (by omega) hm gs.length (Nat.le_refl _) z hz hh)
      cases h6 : holds z (ext m gs)
      · have := key (-z) (own_neg1 hz) (by rw [holds_neg _ hzl, h6]; rfl)
        rw [holds_neg _ hzl] at this
        simpa using this.symm
      · exact (key z hz h6).symm
    rw [hsx, hnum x hh] at h5
    simpa using h5
  · intro hk
    have hel : (ext m gs).length = V + gs.length := by rw [ext_length, hm]
    have hh : ∀ z, own (V + gs.length) [z] = true → holds z (ext m gs) = holds z (ext m gs ++ [true]) := fun z hz => (holds_append _ _ (by rw [hel]; exact own_vr hz z (by simp))).symm
    refine ⟨ext m gs ++ [true], (hx _).2 ⟨by simp [hel], fun z hz => ?_, (hal _).2 ⟨?_, .inr (by rw [hnum _ hh]; exact hk)⟩⟩, ?_⟩
    · obtain ⟨k, e⟩ := ext_eq m gs
      rw [e, List.append_assoc]; exact frm_ext (gs := gs) (by omega) hm hz _
    · rw [← own_holds (gatesC_own h (by omega)) hh]; exact gates_hold h (by omega) m hm
    · rw [hs, holds_pos (by omega), List.getElem?_append_right (by omega), hel]; simp
end
end Go.Proofs.YtllkeojkejbbeaaDoor.M
namespace Go.Proofs.YtllkeojkejbbeaaDoor
open Go.RowKit

theorem OwnR.weaken {w : World} {base b2 : Nat} {a : Option Addr} {c : Nat} {ms : List (List Bool)} (h : OwnR w base a c ms) (hb : b2 ≤ base) : OwnR w b2 a c ms := by
  obtain ⟨vals, ho, hv⟩ := h
  refine ⟨vals, ⟨ho.1, ?_⟩, fun i m hm => ?_⟩
  · rcases ho.2 with h0 | ⟨g, cap, cur, e, hbg, r⟩
    · exact .inl h0
    · exact .inr ⟨g, cap, cur, e, by omega, r⟩
  · obtain ⟨a', h1, h2⟩ := hv i m hm
    exact ⟨a', h1, h2.weaken hb⟩
/-- append(rows, rows...) -/
theorem wpList_append_RowsS {w : World} {ops : Array Oper} {rest : List Oper} {o : Oper} {act : Act} {Q : Exit → Act → World → Prop} (hgd : o.guard = none) (s x : Operand)
    (ho : o.op = .call { callee := .builtin .append, args := #[s, x], argTypes := #[76, 76] })
    (base : Nat) (a : Option Addr) (n c : Nat) (ms : List (List Bool)) (hs : act.eval s = .slice a n c) (hn : ms.length = n) (hown : OwnR w base a c ms)
    (b2 : Nat) (b : Option Addr) (m d : Nat) (ks : List (List Bool)) (hx : act.eval x = .slice b m d) (hm : ks.length = m) (hb : OwnR w b2 b d ks) (hb2 : base ≤ b2) (hlen : n + m ≤ 1000000) (hbase : base ≤ w.heap.size)
    (h : ∀ a' c' w', OwnR w' base a' c' (ms ++ ks) → Below base w w' → wpList Tryd.prog ops Q rest (act.put o.dst (.slice a' (n + m) c')) w') :
    wpList Tryd.prog ops Q (o :: rest) act w := by
  subst hn hm
  obtain ⟨i0, hi, hz0, hz1, hz2⟩ := info_parts Tryd.infoBools
  have hrow := hown.row
  obtain ⟨vals, hr, hvals⟩ := hown
  obtain ⟨vals2, hr2, hvals2⟩ := hb
  have hvl : vals.length = ms.length := by simpa using hr.1
  have hvl2 : vals2.length = ks.length := by simpa using hr2.1
  have fin : ∀ v' w', w'.ownsRow base 54 1 v' (ms.length + ks.length) (vals ++ vals2) → w.grownBy w' (Value.slice a ms.length c).ownBlock → wpList Tryd.prog ops Q rest (act.put o.dst v') w' := by
    intro v' w' h1 h2
    have hob : ∀ k, (Value.slice a ms.length c).ownBlock = some k → base ≤ k ∧ ∃ cur, w.heap[k]? = some (.cells cur 54 (0, 0)) := by
      intro k hk
      cases a with
      | none => simp [Value.ownBlock] at hk
      | some ad => simp [Value.ownBlock] at hk; subst hk; exact hrow ad rfl
    have hkp : ∀ {b' : Option Addr} {d' : Nat} {m' : List Bool}, OwnB w base b' d' m' → OwnB w' base b' d' m' := by
      intro b' d' m' h3
      refine h3.kept fun g cur hlt hg => h2.block g hlt fun e => ?_
      obtain ⟨_, cur', hc⟩ := hob g e.symm
      rw [hg] at hc; cases hc
    have hbel : Below base w w' := (Below.refl base w).grown h2 hbase (fun k hk => (hob k hk).1)
    have : ∃ a' c', v' = .slice a' (ms.length + ks.length) c' := by
      rcases h1.2 with ⟨e, hn⟩ | ⟨g, cap, cur, e, _⟩
      · exact ⟨none, 0, by rw [e, hn]⟩
      · exact ⟨_, _, e⟩
    obtain ⟨a', c', rfl⟩ := this
    refine h a' c' w' ⟨vals ++ vals2, by simpa using h1, fun i y hy => ?_⟩ hbel
    by_cases hil : i < ms.length
    · rw [List.getElem?_append_left hil] at hy
      obtain ⟨a1, e1, e2⟩ := hvals i y hy
      exact ⟨a1, by rw [List.getElem?_append_left (by omega)]; exact e1, hkp e2⟩
    · rw [List.getElem?_append_right (by omega)] at hy
      obtain ⟨a1, e1, e2⟩ := hvals2 _ y hy
      exact ⟨a1, by rw [List.getElem?_append_right (by omega), hvl]; exact e1, hkp (e2.weaken hb2)⟩
  have hcase : (b = none ∧ d = 0 ∧ ks = []) ∨ ∃ g, b = some ⟨g, 0, none⟩ := by
    rcases hr2.2 with ⟨e, hn⟩ | ⟨g, cap, cur, e, _⟩
    · injection e with e1 e2 e3
      exact .inl ⟨e1, e3, List.eq_nil_of_length_eq_zero hn⟩
    · injection e with e1
      exact .inr ⟨g, e1⟩
  rcases hcase with ⟨rfl, rfl, rfl⟩ | ⟨g, rfl⟩
  · have e0 : vals2 = [] := List.eq_nil_of_length_eq_zero hvl2
    subst e0
    refine wpList_append_own_none hgd s x 76 ho base 54 i0 1 Tryd.underlying76 hi _ _ _ hs hr hx ?_
    exact fin _ _ (by simpa using hr) ⟨rfl, rfl, rfl, Nat.le_refl _, fun _ _ _ => rfl⟩
  · refine wpList_append_own w hgd s x 76 ho base 54 i0 (.slice none 0 0) 1 24 Tryd.underlying76 hi hz0 hz1 hz2 rfl (by decide) _ _ _ hs hr ⟨g, 0, none⟩ ks.length d vals2 hx (by omega) ?_ ?_ ?_ ?_ hbase ?_
    · intro j u hj
      exact hr2.cells (g := g) rfl j u hj
    · intro u hu
      obtain ⟨j, hj, rfl⟩ := List.getElem_of_mem hu
      obtain ⟨a1, e1, _⟩ := hvals2 j _ (List.getElem?_eq_getElem (by omega))
      rw [List.getElem?_eq_getElem hj] at e1
      rw [Option.some.inj e1]; rfl
    · unfold maxLen; omega
    · omega
    · intro v' w' h1 h2 _
      exact fin v' w' h1 h2
theorem OwnR.one (w : World) (base : Nat) (hb : base ≤ w.heap.size) (a : Option Addr) (m : List Bool) (hm : OwnB w base a m.length m) : OwnR (w.alloc (.cells #[.slice a m.length m.length] 54)) base (some ⟨w.heap.size, 0, none⟩) 1 [m] :=
  ⟨[.slice a m.length m.length], ⟨rfl, .inr ⟨w.heap.size, 1, #[.slice a m.length m.length], rfl, hb, by show (w.heap.push _)[w.heap.size]? = _; simp, Nat.le_refl _, by decide, rfl, rfl⟩⟩, fun i y hy => by
    match i, hy with
    | 0, hy => simp at hy; subst hy; exact ⟨a, rfl, hm.alloc _⟩⟩
theorem OwnR.nil (w : World) (base : Nat) : OwnR w base none 0 [] := ⟨[], World.ownsRow_nil _ _ _ _, fun i m h => by simp at h⟩
/-- the literals so far as a model -/
theorem M.setM_pos {V q : Nat} {l : List Int} {k : Nat} (h : l[k]? = some ((q : Int) + 1)) (hq : q < V) : (M.setM V (l.take k)).set q true = M.setM V (l.take (k + 1)) := by
  refine List.ext_getElem? fun i => ?_
  rw [List.getElem?_set]
  unfold M.setM
  rw [List.length_map, List.length_range, if_pos hq]
  by_cases hi : i < V
  · rw [List.getElem?_map, List.getElem?_map, List.getElem?_range hi]
    by_cases e : q = i
    · subst e
      rw [if_pos rfl]
      simp [M.inn_snoc h]
    · rw [if_neg e]
      simp [M.inn_snoc h]
      intro h2; omega
  · rw [if_neg (by omega), List.getElem?_eq_none (by simp; omega), List.getElem?_eq_none (by simp; omega)]
theorem M.setM_neg {V : Nat} {z : Int} {l : List Int} {k : Nat} (h : l[k]? = some z) (hz : z ≤ 0) : M.setM V (l.take (k + 1)) = M.setM V (l.take k) := by
  unfold M.setM
  refine List.map_congr_left fun i _ => ?_
  rw [M.inn_snoc h]
  have : (z == (i : Int) + 1) = false := by rw [beq_eq_false_iff_ne]; omega
  rw [this, Bool.or_false]
theorem M.setM_nil (V : Nat) : M.setM V [] = List.replicate V false := by
  unfold M.setM
  refine List.ext_getElem? fun i => ?_
  by_cases hi : i < V
  · simp [hi, M.inn]
  · rw [List.getElem?_eq_none (by simp; omega), List.getElem?_eq_none (by simp; omega)]
def XPost (w : World) (cs : List (List Int)) (V : Nat) (fr : List Int) (n : Nat) (e : Ending) (w' : World) : Prop :=
  ∃ xs a c, e = .returned (.slice a xs.length c) ∧ xs.length ≤ 2 ^ n ∧ M.XR cs V fr xs ∧ OwnR w' w.heap.size a c xs ∧ Below w.heap.size w w'
set_option maxHeartbeats 4000000 in
set_option maxRecDepth 100000 in
theorem extended_step (a : Option Addr) (c : Nat) (cs : List (List Int)) (V : Nat) (hV : V ≤ 400) (hco : ∀ x ∈ cs, M.own V x = true) (hl : cs.length ≤ 1000) (hcl : ∀ x ∈ cs, x.length ≤ 1000)
    (n : Nat) (b : Option Addr) (d : Nat) (fr : List Int) (w : World) (hn : n ≤ 3) (hz : Cls w a cs) (hf : Ints w b fr) (hfo : M.own V fr = true) (hfl : fr.length ≤ 1000) (hf0 : 0 < fr.length)
    (hrec : ∀ (l : List Int) (k : Nat) (z : Int) (b : Option Addr) (d : Nat) (w : World), M.PropRes cs fr l true → k < V → M.isUn l k = true → (z = (k : Int) + 1 ∨ z = -((k : Int) + 1)) → l.length ≤ 900 → (∀ y ∈ l, I64 y) → Cls w a cs → Ints w b (l ++ [z]) →
      ∃ n', n = n' + 1 ∧ Calls Tryd.prog 65 #[.slice a cs.length c, .int .i64 V, .slice b (l.length + 1) d] w (XPost w cs V (l ++ [z]) n')) :
    Calls Tryd.prog 65 #[.slice a cs.length c, .int .i64 V, .slice b fr.length d] w (XPost w cs V fr n) := by
  have HCO := Lib.hid hco
  have HCLL := Lib.hid hcl
  have HPR := Lib.hid (rprop_any a c cs b d fr w hz hl hcl hf hfl)
  have HZ := Lib.hid hz
  have HREC := Lib.hid hrec
  have HFO := Lib.hid hfo
  clear hco hcl hz hf hrec hfo
  go_enter Tryd.func65, Tryd.ntmps65
  go_wp2_with fail
  refine HPR.out.mono ?_
  rintro e w1 ⟨l, ok, a1, c1, rfl, hres, hI1, hb1⟩
  have HRES := Lib.hid hres
  have HI1 := Lib.hid hI1
  have HB1 := Lib.hid hb1
  clear hres hI1 hb1 HPR
  cases ok
  · go_wp2
    go_ret
    exact ⟨[], none, 0, rfl, Nat.zero_le _, M.leaf_no HRES.out.noC, OwnR.nil _ _, HB1.out⟩
  · have hlo : M.own V l = true := HRES.out.own HCO.out HFO.out
    have hll : l.length ≤ 2 * V := M.own_room HRES.out.yes.1 hlo
    have hl0 : 0 < l.length := by
      obtain ⟨z, hz⟩ : ∃ z, z ∈ fr := ⟨fr[0], List.getElem_mem _⟩
      have hzo := M.own_mem HFO.out hz
      exact List.length_pos_of_mem ((HRES.out.yes.2.1 z).2 (M.derF hz (M.own_isLit (vars := V) (by omega) hzo z (by simp))))
    have HLO := Lib.hid hlo
    clear hlo
    go_wp2
    go_loop [9] (fun i => ∃ k : Nat, k ≤ V ∧ i = .int .i64 ((k : Int) + 1) ∧ ∀ j, j < k → M.isUn l j = false) (fun i => V + 1 - (intOf i).toNat)
    case atStart => exact ⟨0, Nat.zero_le _, rfl, fun j h => absurd h (Nat.not_lt_zero _)⟩
    case round =>
      obtain ⟨k, hk, rfl, hset⟩ := hrel
      have HSET := Lib.hid hset
      clear hset
      by_cases hlt : k < V
      · have hw1 : wrap64 (-((k : Int) + 1)) = -((k : Int) + 1) := IntWalk.wrap64_in _ ⟨by omega, by omega⟩
        have hw2 : IntKind.i64.wrap (-((k : Int) + 1)) = -((k : Int) + 1) := by rw [IntKind.wrap_i64]; omega
        have h1 := in_any a1 c1 l ((k : Int) + 1) w1 HI1.out
        have h2 := in_any a1 c1 l (-((k : Int) + 1)) w1 HI1.out
        have hun : M.isUn l k = (!(M.inn l ((k : Int) + 1)) && !(M.inn l (-((k : Int) + 1)))) := rfl
        have hle1 : (k : Int) + 1 ≤ (V : Int) := by omega
        cases hh1 : M.inn l ((k : Int) + 1)
        · cases hh2 : M.inn l (-((k : Int) + 1))
          · rw [hh1] at h1
            rw [hh2] at h2
            rw [hh1, hh2] at hun
            have HUN := Lib.hid (show M.isUn l k = true from hun)
            have H1 := Lib.hid h1
            have H2 := Lib.hid h2
            clear h1 h2 hun hh1 hh2 HSET
            obtain ⟨bl, ol, rfl, hbl, hcl⟩ := HI1.out.addr hl0
            clear hcl
            have hwf : ∀ y ∈ l, I64 y := HI1.out.wf
            have HWF := Lib.hid hwf
            have hvo : M.own V [(k : Int) + 1] = true := (M.own_iff _ _).2 fun y hy => by simp at hy; subst hy; omega
            have HVO := Lib.hid hvo
            clear hwf hvo
            go_wp2_with (first
              | (go_at_call 33; first | ((with_reducible refine H1.out.mono ?_); rintro e w' ⟨rfl, rfl⟩) | ((with_reducible refine H2.out.mono ?_); rintro e w' ⟨rfl, rfl⟩))
              | (at_builtin; refine wpList_append_Ints rfl (.tmp 41) (.tmp 42) 30 rfl Tryd.underlying30 w1.heap.size _ 0 0 [] rfl rfl (OwnI.made0 w1 _ (Nat.le_refl _)) (some ⟨bl, ol, none⟩) l.length c1 l rfl rfl (HI1.out.alloc _) (fun h => by cases h) (by omega) (by simp) ?_; intro a3 c3 w3 hO3 _ hB3; have HO3 := Lib.hid hO3; have HB3 := Lib.hid (put_below1 hB3); clear hO3 hB3)
              | (at_builtin; refine wpList_append_Ints rfl (.tmp 43) (.tmp 45) 30 rfl Tryd.underlying30 w1.heap.size a3 _ c3 ([] ++ l) rfl (by simp) (HO3.out.alloc _) _ 1 1 [(k : Int) + 1] rfl rfl (Ints.one w3 ((k : Int) + 1) ⟨by omega, by omega⟩ _) (fun h => by cases h) (by omega) (by have := HB3.out.size; simp; omega) ?_; intro a4 c4 w4 hO4 _ hB4; have HO4 := Lib.hid hO4; have HB4 := Lib.hid (put_below2 HB3.out hB4); clear hO4 hB4))
            obtain ⟨n1, hn1, hc1⟩ := HREC.out l k ((k : Int) + 1) a4 c4 w4 HRES.out hlt HUN.out (.inl rfl) (by omega) HWF.out ((HZ.out.below HB1.out).below HB4.out) (HO4.out.ints (fun y hy => by
              rcases List.mem_append.1 hy with h | h
              · exact HWF.out y (by simpa using h)
              · simp at h; subst h; exact ⟨by omega, by omega⟩) (by simp; omega))
            have HC1 := Lib.hid hc1
            have HN1 := Lib.hid hn1
            have HB14 := Lib.hid (HB1.out.trans (HB4.out.mono HB1.out.size))
            clear hc1 hn1 HO3 HB3 HO4 H1 H2
            refine HC1.out.mono ?_
            rintro e w5 ⟨xa, a5, c5, rfl, hxl, hxr, hxo, hxb⟩
            have HXL := Lib.hid hxl
            have HXR := Lib.hid hxr
            have HXO := Lib.hid (hxo.weaken HB14.out.size)
            have HB5 := Lib.hid (HB14.out.trans (hxb.mono HB14.out.size))
            have HI5 := Lib.hid ((HI1.out.below HB4.out).below hxb)
            clear hxl hxr hxo hxb HC1 HB14 HB4
            go_wp2_with (first
              | (at_builtin; refine wpList_append_Ints rfl (.tmp 50) (.tmp 51) 30 rfl Tryd.underlying30 w5.heap.size _ 0 0 [] rfl rfl (OwnI.made0 w5 _ (Nat.le_refl _)) (some ⟨bl, ol, none⟩) l.length c1 l rfl rfl (HI5.out.alloc _) (fun h => by cases h) (by omega) (by simp) ?_; intro a6 c6 w6 hO6 _ hB6; have HO6 := Lib.hid hO6; have HB6 := Lib.hid (put_below1 hB6); clear hO6 hB6)
              | (at_builtin; refine wpList_append_Ints rfl (.tmp 52) (.tmp 55) 30 rfl Tryd.underlying30 w5.heap.size a6 _ c6 ([] ++ l) rfl (by simp) (HO6.out.alloc _) _ 1 1 [-((k : Int) + 1)] rfl rfl (Ints.one w6 (-((k : Int) + 1)) ⟨by omega, by omega⟩ _) (fun h => by cases h) (by omega) (by have := HB6.out.size; simp; omega) ?_; intro a7 c7 w7 hO7 _ hB7; have HO7 := Lib.hid hO7; have HB7 := Lib.hid (put_below2 HB6.out hB7); clear hO7 hB7))
            obtain ⟨n2, hn2, hc2⟩ := HREC.out l k (-((k : Int) + 1)) a7 c7 w7 HRES.out hlt HUN.out (.inr rfl) (by omega) HWF.out ((HZ.out.below HB5.out).below HB7.out) (HO7.out.ints (fun y hy => by
              rcases List.mem_append.1 hy with h | h
              · exact HWF.out y (by simpa using h)
              · simp at h; subst h; exact ⟨by omega, by omega⟩) (by simp; omega))
            obtain rfl : n2 = n1 := by have := HN1.out; omega
            have HC2 := Lib.hid hc2
            have HB57 := Lib.hid (HB5.out.trans (HB7.out.mono HB5.out.size))
            have HXO7 := Lib.hid (HXO.out.below HB7.out)
            clear hc2 hn2 HO6 HB6 HO7 HXO HB5 HB7
            refine HC2.out.mono ?_
            rintro e w8 ⟨xb, a8, c8, rfl, hxl, hxr, hxo, hxb⟩
            have HXL2 := Lib.hid hxl
            have HXR2 := Lib.hid hxr
            have HXO2 := Lib.hid (hxo.weaken HB57.out.size)
            have HXO8 := Lib.hid (HXO7.out.below hxb)
            have HB8 := Lib.hid (HB57.out.trans (hxb.mono HB57.out.size))
            have hp2 : 2 ^ n2 ≤ 8 := Nat.pow_le_pow_right (n := 2) (by omega) (show n2 ≤ 3 by have := HN1.out; omega)
            have hx1 : xa.length + xb.length ≤ 1000000 := by have := HXL.out; have := HXL2.out; omega
            clear hxl hxr hxo hxb HC2 HB57 HXO7 HI5
            go_wp2_with (at_builtin; refine wpList_append_RowsS rfl (.tmp 58) (.tmp 59) rfl w.heap.size a5 _ c5 xa rfl rfl HXO8.out w.heap.size a8 _ c8 xb rfl rfl HXO2.out (Nat.le_refl _) hx1 HB8.out.size ?_; intro a9 c9 w9 hO9 hB9; have HO9 := Lib.hid hO9; have HB9 := Lib.hid (HB8.out.trans hB9); clear hO9 hB9)
            go_ret
            refine ⟨xa ++ xb, a9, c9, by simp, ?_, M.node (by omega) HFO.out HRES.out HVO.out HXR.out HXR2.out, HO9.out, HB9.out⟩
            have h1 := HXL.out
            have h2 := HXL2.out
            rw [HN1.out, List.length_append, Nat.pow_succ]
            omega
          · rw [hh1] at h1
            rw [hh2] at h2
            have H1 := Lib.hid h1
            have H2 := Lib.hid h2
            rw [hh1, hh2] at hun
            have HUN := Lib.hid (show M.isUn l k = false from hun)
            clear h1 h2 hun hh1 hh2
            go_wp2_with (go_at_call 33; first | ((with_reducible refine H1.out.mono ?_); rintro e w' ⟨rfl, rfl⟩) | ((with_reducible refine H2.out.mono ?_); rintro e w' ⟨rfl, rfl⟩))
            go_round
            case rel => exact ⟨k + 1, by omega, by go_num, fun j hj => by
              rcases Nat.lt_or_ge j k with h | h
              · exact HSET.out j h
              · obtain rfl : j = k := by omega
                exact HUN.out⟩
            case measure => simp [intOf]; omega
        · rw [hh1] at h1
          have H1 := Lib.hid h1
          rw [hh1] at hun
          have HUN := Lib.hid (show M.isUn l k = false by rw [hun]; rfl)
          clear h1 h2 hun hh1
          go_wp2_with (go_at_call 33; (with_reducible refine H1.out.mono ?_); rintro e w' ⟨rfl, rfl⟩)
          go_round
          case rel => exact ⟨k + 1, by omega, by go_num, fun j hj => by
            rcases Nat.lt_or_ge j k with h | h
            · exact HSET.out j h
            · obtain rfl : j = k := by omega
              exact HUN.out⟩
          case measure => simp [intOf]; omega
      · obtain rfl : k = V := by omega
        clear HREC
        have hle1 : ¬ ((k : Int) + 1 ≤ (k : Int)) := by omega
        obtain ⟨wp, hwp⟩ : ∃ wp, wp = w1 := ⟨_, rfl⟩
        subst hwp
        go_wp2_with (at_make; refine wpList_make_Bools rfl (.tmp 61) (.tmp 61) rfl w.heap.size k rfl rfl (by omega) HB1.out.size ?_; intro w2 hown hb2 hlt2; have HO2 := Lib.hid hown; have HB2 := Lib.hid hb2; clear hown hb2 hlt2)
        go_loopw [14, 65] (fun _ i wr => ∃ j : Nat, j ≤ l.length ∧ i = .int .i64 j ∧ OwnB wr w.heap.size (some ⟨wp.heap.size, 0, none⟩) k (M.setM k (l.take j)) ∧ Below wp.heap.size wp wr) (fun _ i _ => l.length - (intOf i).toNat)
        case atStart => exact ⟨0, Nat.zero_le _, rfl, by rw [List.take_zero, M.setM_nil]; exact HO2.out, HB2.out⟩
        case round =>
          clear HO2 HB2
          obtain ⟨j, hj, rfl, ho, hb⟩ := hrel
          have HO := Lib.hid ho
          have HB := Lib.hid hb
          clear ho hb
          by_cases hjl : j < l.length
          · obtain ⟨b3, o3, rfl, hb3, hc3⟩ := (HI1.out.below HB.out).addr (by omega)
            obtain ⟨z, hzk⟩ : ∃ z, l[j]? = some z := ⟨l[j], by simp [hjl]⟩
            have hcell := hc3 j z hzk
            have hzo := (M.own_iff _ _).1 HLO.out z (List.mem_of_getElem? hzk)
            have HZK := Lib.hid hzk
            clear hc3 hzk
            by_cases hz0 : 0 < z
            · obtain ⟨q, rfl⟩ : ∃ q : Nat, z = (q : Int) + 1 := ⟨(z - 1).toNat, by omega⟩
              have hqk : q < k := by omega
              have hqk2 : (q : Int) < (k : Int) := by omega
              have hle : (q : Int) + 1 ≤ (k : Int) := by omega
              have hw1 : wrap64 ((q : Int) + 1 - 1) = (q : Int) := by rw [IntWalk.wrap64_in _ ⟨by omega, by omega⟩]; omega
              have hfz := HO.out.frozen q
              obtain ⟨y, hy⟩ : ∃ y, (M.setM k (l.take j))[q]? = some y := ⟨_, List.getElem?_eq_getElem (by rw [M.setM_length]; exact hqk)⟩
              have hcy := HO.out.cell hy
              clear hy hzo
              go_wp2
              go_roundw
              case rel => exact ⟨j + 1, by omega, by go_num, by rw [← M.setM_pos HZK.out hqk]; exact HO.out.stored q true, HB.out.setCell (Nat.le_refl _) _⟩
              case measure => simp [intOf]; omega
            · go_wp2
              go_roundw
              case rel => exact ⟨j + 1, by omega, by go_num, by rw [M.setM_neg HZK.out (by omega)]; exact HO.out, HB.out⟩
              case measure => simp [intOf]; omega
          · obtain rfl : j = l.length := by omega
            have ho := HO.out
            rw [List.take_length] at ho
            have HO3 := Lib.hid ho
            have HB3 := Lib.hid (HB1.out.trans (HB.out.mono HB1.out.size))
            clear ho HO
            go_wp2
            go_ret
            have hk := M.setM_length k l
            refine ⟨[M.setM k l], some ⟨wr.heap.size, 0, none⟩, 1, rfl, Nat.one_le_two_pow, M.leaf_yes (by omega) HCO.out HFO.out HRES.out HSET.out, ?_, HB3.out.alloc HB3.out.size _⟩
            have h9 := OwnR.one wr w.heap.size HB3.out.size (some ⟨wp.heap.size, 0, none⟩) (M.setM k l) (by rw [hk]; exact HO3.out)
            rw [hk] at h9
            exact h9
theorem extended_any (a : Option Addr) (c : Nat) (cs : List (List Int)) (V : Nat) (hV : V ≤ 400) (hco : ∀ x ∈ cs, M.own V x = true) (hl : cs.length ≤ 1000) (hcl : ∀ x ∈ cs, x.length ≤ 1000) :
    ∀ (n : Nat) (b : Option Addr) (d : Nat) (fr : List Int) (w : World), n ≤ 3 → Cls w a cs → Ints w b fr → M.own V fr = true → fr.length ≤ 1000 → 0 < fr.length → (∀ l, M.PropRes cs fr l true → M.un V l ≤ n) →
    Calls Tryd.prog 65 #[.slice a cs.length c, .int .i64 V, .slice b fr.length d] w (XPost w cs V fr n) := by
  intro n
  induction n with
  | zero =>
    intro b d fr w hn hz hf hfo hfl hf0 hun
    refine extended_step a c cs V hV hco hl hcl 0 b d fr w hn hz hf hfo hfl hf0 fun l k z b d w hp hk hu _ _ _ _ _ => ?_
    have h1 := hun l hp
    have h2 : 0 < M.un V l := List.countP_pos_iff.2 ⟨k, List.mem_range.2 hk, hu⟩
    omega
  | succ n ih =>
    intro b d fr w hn hz hf hfo hfl hf0 hun
    refine extended_step a c cs V hV hco hl hcl (n + 1) b d fr w hn hz hf hfo hfl hf0 fun l k z b d w hp hk hu hz2 hl9 _ hz3 hi => ⟨n, rfl, ?_⟩
    have hlo := hp.own hco hfo
    have hzo : M.own V [z] = true := (M.own_iff _ _).2 fun y hy => by simp at hy; subst hy; omega
    have e : l.length + 1 = (l ++ [z]).length := by simp
    rw [e]
    refine ih b d (l ++ [z]) w (by omega) hz3 hi (M.own_append.2 ⟨hlo, hzo⟩) (by simp; omega) (by simp) fun l' hp' => ?_
    have h1 := hun l hp
    have h2 := M.un_next hp' (M.own_isLit (vars := V) (by omega) hlo) hk hu hz2 (M.own_isLit (vars := V) (by omega) hzo z (by simp))
    omega
set_option maxHeartbeats 4000000 in
set_option maxRecDepth 100000 in
theorem Extended_any (a : Option Addr) (c : Nat) (cs : List (List Int)) (V : Nat) (b : Option Addr) (d : Nat) (m : List Bool) (n : Nat) (w : World) (hV : V ≤ 400) (hco : ∀ x ∈ cs, M.own V x = true) (hl : cs.length ≤ 1000) (hcl : ∀ x ∈ cs, x.length ≤ 1000) (hn : n ≤ 3)
    (hz : Cls w a cs) (hb : Bools w b m) (hm : m.length ≤ V) (hm0 : 0 < m.length) (hun : ∀ l, M.PropRes cs (M.frm m) l true → M.un V l ≤ n) :
    Calls Tryd.prog 44 #[.slice a cs.length c, .int .i64 V, .slice b m.length d] w (XPost w cs V (M.frm m) n) := by
  have HZ := Lib.hid hz
  have HB := Lib.hid hb
  have hex := fun b d fr w => extended_any a c cs V hV hco hl hcl n b d fr w hn
  have HEX := Lib.hid hex
  have HUN := Lib.hid hun
  have hfl : (M.frm m).length = m.length := M.frm_len m
  clear hz hb hex hun hco hcl
  go_enter Tryd.func44, Tryd.ntmps44
  go_wp2
  go_loopw [7, 8, 9, 13] (fun vf _ _ i wr => ∃ (k : Nat) (af : Option Addr) (cf : Nat), k ≤ m.length ∧ i = .int .i64 k ∧ vf = .slice af k cf ∧ OwnI wr w.heap.size af cf ((M.frm m).take k) ∧ Below w.heap.size w wr) (fun _ _ _ i _ => m.length - (intOf i).toNat)
  case atStart => exact ⟨0, _, 0, Nat.zero_le _, rfl, rfl, OwnI.made0 w _ (Nat.le_refl _), (Below.refl _ _).alloc (Nat.le_refl _) _⟩
  case round =>
    obtain ⟨k, af, cf, hk, rfl, rfl, ho, hbr⟩ := hrel
    have HO := Lib.hid ho
    have HBR := Lib.hid hbr
    clear ho hbr
    by_cases hlt : k < m.length
    · obtain ⟨bm, om, rfl, hbm, hcm⟩ := (HB.out.below HBR.out).addr (by omega)
      obtain ⟨y, hy⟩ : ∃ y, m[k]? = some y := ⟨m[k], by simp [hlt]⟩
      have hcy := hcm k y hy
      have hkl : ((M.frm m).take k).length = k := by rw [List.length_take]; omega
      have hsn : (M.frm m).take (k + 1) = (M.frm m).take k ++ [if y then (k : Int) + 1 else -(k : Int) - 1] := by
        rw [List.take_add_one]
        congr 1
        have : (M.frm m)[k]? = some (M.lit1 m k) := by simp [M.frm, hlt]
        rw [this]
        unfold M.lit1
        rw [hy]
        cases y
        · simp; omega
        · simp
      have HSN := Lib.hid hsn
      have HKL := Lib.hid hkl
      have hw1 : wrap64 (-(k : Int)) = -(k : Int) := IntWalk.wrap64_in _ ⟨by omega, by omega⟩
      have hw2 : IntKind.i64.wrap (-(k : Int)) = -(k : Int) := by rw [IntKind.wrap_i64]; omega
      have hw3 : wrap64 (-(k : Int) - 1) = -(k : Int) - 1 := IntWalk.wrap64_in _ ⟨by omega, by omega⟩
      clear hcm hy hsn hkl
      obtain ⟨wp, hwp⟩ : ∃ wp, wp = wr := ⟨_, rfl⟩
      subst hwp
      cases y
      · rw [if_neg (by simp)] at HSN
        go_wp2_with (at_builtin; refine wpList_append_Ints rfl (.tmp 24) (.tmp 28) 30 rfl Tryd.underlying30 w.heap.size af _ cf _ rfl HKL.out (HO.out.alloc _) _ 1 1 [-(k : Int) - 1] rfl rfl (Ints.one wp (-(k : Int) - 1) ⟨by omega, by omega⟩ _) (fun h => by cases h) (by omega) (by have := HBR.out.size; simp; omega) ?_; intro a5 c5 w5 hO5 _ hB5; have HO5 := Lib.hid hO5; have HB5 := Lib.hid (put_below2 HBR.out hB5); clear hO5 hB5)
        go_roundw
        case rel => exact ⟨k + 1, a5, c5, by omega, by go_num, by go_num, by rw [HSN.out]; exact HO5.out, HB5.out⟩
        case measure => first | (simp [intOf]; done) | (simp [intOf]; omega)
      · rw [if_pos rfl] at HSN
        go_wp2_with (at_builtin; refine wpList_append_Ints rfl (.tmp 19) (.tmp 22) 30 rfl Tryd.underlying30 w.heap.size af _ cf _ rfl HKL.out (HO.out.alloc _) _ 1 1 [(k : Int) + 1] rfl rfl (Ints.one wp ((k : Int) + 1) ⟨by omega, by omega⟩ _) (fun h => by cases h) (by omega) (by have := HBR.out.size; simp; omega) ?_; intro a5 c5 w5 hO5 _ hB5; have HO5 := Lib.hid hO5; have HB5 := Lib.hid (put_below2 HBR.out hB5); clear hO5 hB5)
        go_roundw
        case rel => exact ⟨k + 1, a5, c5, by omega, by go_num, by go_num, by rw [HSN.out]; exact HO5.out, HB5.out⟩
        case measure => first | (simp [intOf]; done) | (simp [intOf]; omega)
    · obtain rfl : k = m.length := by omega
      have ho := HO.out
      rw [List.take_of_length_le (by omega)] at ho
      have hfo : M.own V (M.frm m) = true := M.own_mono hm M.frm_own
      have hi : Ints wr af (M.frm m) := ho.ints (fun z hz => by
        have := (M.own_iff _ _).1 hfo z hz
        exact ⟨by omega, by omega⟩) (by omega)
      have hx := HEX.out af cf (M.frm m) wr (HZ.out.below HBR.out) hi hfo (by omega) (by omega) HUN.out
      rw [hfl] at hx
      have HX := Lib.hid hx
      clear hx ho hi
      go_wp2_with fail
      refine HX.out.mono ?_
      rintro e w2 ⟨xs, a2, c2, rfl, h1, h2, h3, h4⟩
      have H3 := Lib.hid (h3.weaken HBR.out.size)
      have H4 := Lib.hid (HBR.out.trans (h4.mono HBR.out.size))
      have H2 := Lib.hid h2
      clear h3 h4 h2
      go_wp2
      go_ret
      exact ⟨xs, a2, c2, rfl, h1, H2.out, H3.out, H4.out⟩
end Go.Proofs.YtllkeojkejbbeaaDoor
namespace Go.Proofs.YtllkeojkejbbeaaDoor
open Go.RowKit Go.Shelf
variable {X : Nat → Prop}

theorem bit_atG (k j : Nat) (hk : k ≤ 9223372036854775807) : (bits BinOp.and IntKind.i64 ((k : Int) / 2 ^ j) 1 == 1) = k.testBit j := by
  have e : ((k : Int) / 2 ^ j) = ((k / 2 ^ j : Nat) : Int) := by simp
  have hle : k / 2 ^ j ≤ k := Nat.div_le_self _ _
  rw [e, Go.Proofs.and_one _ (by omega), Nat.testBit_eq_decide_div_mod_eq, Bool.eq_iff_iff]
  simp only [beq_iff_eq, decide_eq_true_eq]
  omega
/-- the blocks of X, and that of a list -/
def XA (X : Nat → Prop) (av : Option Addr) (k : Nat) : Prop := X k ∨ ∃ ad, av = some ad ∧ ad.block = k
theorem Kp.thenB {base : Nat} {w w1 w2 : World} (h : Kp X base w w1) (h2 : Below w.heap.size w1 w2) : Kp X base w w2 :=
  ⟨h2.os.trans h.os, h2.tape.trans h.tape, h2.output.trans h.output, Nat.le_trans h.size h2.size, fun k hk ho => (h2.block k hk).trans (h.block k hk ho)⟩
theorem Kp.sub {base : Nat} {Y : Nat → Prop} {w w1 : World} (h : Kp Y base w w1) (hs : ∀ k, X k → Y k) : Kp X base w w1 :=
  ⟨h.os, h.tape, h.output, h.size, fun k hk ho => h.block k hk (by
    rcases ho with h1 | h1 | h1
    · exact .inl h1
    · exact .inr (.inl (hs k h1))
    · exact .inr (.inr h1))⟩
/-- between the rounds: m bits are left -/
structure AG (X : Nat → Prop) (w0 : World) (base p V : Nat) (zs : List Int) (k : Nat) (fin : List (List Int)) (m : Nat) (av : Option Addr) (ac : Nat) (ys : List Int) (w : World) : Prop where
  kp : Kp X base w0 w
  own : OwnI w w0.heap.size av ac ys
  oys : M.own V ys = true
  len : ys.length + m ≤ 64
  fm : ∃ cs a c, Fm (XA X av) w base p V cs a c ∧ cs.length + m ≤ 1100 ∧ (M.amC zs k ys m).foldl M.addC cs = fin
set_option maxHeartbeats 4000000 in
set_option maxRecDepth 100000 in
theorem atmost_any (base p V : Nat) (cs : List (List Int)) (a : Option Addr) (c : Nat) (b : Option Addr) (d : Nat) (zs : List Int) (k : Int) (w : World) (hF : Fm X w base p V cs a c) (hV : V ≤ 10000) (hcl : cs.length ≤ 1000) (hz : Ints w b zs) (ht : TagI w b) (hl : zs.length ≤ 62) (ho : M.own V zs = true) (hk : I64 k) :
    Calls Tryd.prog 42 #[.pointer (some ⟨p, 0, none⟩), .slice b zs.length d, .int .i64 k] w fun e w' => e = .returned (.tuple #[.int .i64 ((V : Int) + 1), .nilIface]) ∧ FmPost X w base p (V + 1) ((M.amAll zs k ((V + 1 : Nat) : Int)).foldl M.addC cs) w' := by
  have hlen := hz.len
  have HLI := Lib.hid (literals_any p V b d zs w hF.cell0 (by omega) hz)
  rw [ho] at HLI
  have HVR := Lib.hid (var_ok base p V cs a c w hF (by omega))
  obtain ⟨s, hs⟩ : ∃ s : Int, s = (V : Int) + 1 := ⟨_, rfl⟩
  rw [show ((V + 1 : Nat) : Int) = s by omega]
  rw [← hs] at HVR ⊢
  have hs1 : 1 ≤ s := by omega
  have hs2 : s ≤ 10001 := by omega
  have hneg : wrap64 (-s) = -s := IntWalk.wrap64_in _ ⟨by omega, by omega⟩
  have hneg2 : IntKind.i64.wrap (-s) = -s := by rw [IntKind.wrap_i64]; omega
  have hso : M.own (V + 1) [-s] = true := (M.own_iff _ _).2 fun y hy => by simp at hy; subst hy; omega
  have HSO := Lib.hid hso
  have HZ := Lib.hid hz
  have HT := Lib.hid ht
  have HOW := Lib.hid ho
  have hk1 := hk.lo
  have hk2 := hk.hi
  obtain ⟨n, hn⟩ : ∃ n, n = zs.length := ⟨_, rfl⟩
  have HN := Lib.hid hn
  obtain ⟨fin, hfin⟩ : ∃ fin, fin = (M.amAll zs k s).foldl M.addC cs := ⟨_, rfl⟩
  have HALL := Lib.hid (show M.amAll zs k s = if k < 0 then [[-s]] else if 0 < k / 2 ^ zs.length then [] else M.amC zs k.toNat [-s] zs.length from rfl)
  rw [← hn] at HLI hl hlen HALL
  rw [show Value.slice b zs.length d = Value.slice b n d by rw [hn], ← hfin]
  have HFIN := Lib.hid hfin
  clear hF hz ht ho hn hk hfin hs hso
  go_enter Tryd.func42, Tryd.ntmps42
  go_wp2_with fail
  refine HLI.out.mono ?_
  rintro e w1 ⟨rfl, rfl⟩
  go_wp2_with fail
  refine HVR.out.mono ?_
  rintro e w2 ⟨rfl, hF2, hk⟩
  have HK := Lib.hid hk
  have HF2 := Lib.hid hF2
  have hsz2 := hk.size
  clear hk hF2 HLI HVR
  by_cases hk0 : k < 0
  · rw [if_pos hk0] at HALL
    have hi : Ints (w2.alloc (.cells #[.int .i64 (-s)] 3)) (some ⟨w2.heap.size, 0, none⟩) [-s] := Ints.one w2 _ ⟨by omega, by omega⟩ _
    have hal : Below w2.heap.size w2 (w2.alloc (.cells #[.int .i64 (-s)] 3)) := (Below.refl _ _).alloc (Nat.le_refl _) _
    have hadd := add_ok base p (V + 1) cs a c (some ⟨w2.heap.size, 0, none⟩) 1 [-s] _ (HF2.out.below hal) hi HSO.out (by omega)
    have HAD := Lib.hid hadd
    have HKA := Lib.hid (HK.out.trans (Kp.of_below hal))
    clear hi hal hadd
    go_wp2_with fail
    refine HAD.out.mono ?_
    rintro e w6 ⟨rfl, a7, c7, hF7, hk7⟩
    have HF7 := Lib.hid hF7
    have HK7 := Lib.hid (HKA.out.trans hk7)
    clear hF7 hk7 HAD HKA
    go_wp2
    go_ret2
    refine ⟨rfl, a7, c7, ?_, HK7.out⟩
    rw [HFIN.out, HALL.out]; exact HF7.out
  · rw [if_neg hk0] at HALL
    by_cases hk3 : 0 < k / 2 ^ n
    · rw [if_pos hk3] at HALL
      go_wp2
      go_ret2
      refine ⟨rfl, a, c, ?_, HK.out⟩
      rw [HFIN.out, HALL.out]; exact HF2.out
    · rw [if_neg hk3] at HALL
      obtain ⟨K, rfl⟩ : ∃ K : Nat, k = K := ⟨k.toNat, by omega⟩
      rw [Int.toNat_natCast] at HALL
      have hfin := HFIN.out
      rw [HALL.out] at hfin
      have HFIN := Lib.hid hfin
      clear hfin HALL
      go_wp2
      go_loopw [11, 12] (fun v i wr => ∃ (m : Nat) (av : Option Addr) (ac : Nat) (ys : List Int), m ≤ n ∧ i = .int .i64 ((m : Int) - 1) ∧ v = .slice av ys.length ac ∧ AG X w base p (V + 1) zs K fin m av ac ys wr) (fun _ i _ => (intOf i + 1).toNat)
      case atStart =>
        have hal : Below w2.heap.size w2 (w2.alloc (.cells #[.int .i64 (-s)] 3)) := (Below.refl _ _).alloc (Nat.le_refl _) _
        have hxl := HF2.out.xlt
        refine ⟨n, _, 1, [-s], Nat.le_refl _, rfl, rfl, HK.out.thenB (hal.mono hsz2), OwnI.one _ _ hsz2 _, HSO.out, by simp; omega, cs, a, c, HF2.out.turn hal.size (fun k hk _ _ => hal.block k hk) (fun k hk => ?_) (fun k hk => ?_), by omega, HFIN.out.symm⟩
        · rcases hk with h | ⟨ad, e, h⟩
          · exact .inl h
          · cases e; exact .inr (by simp at h; omega)
        · rcases hk with h | ⟨ad, e, h⟩
          · have := hxl k h; simp; omega
          · cases e; subst h; simp
      case round =>
        clear HK HF2 hsz2 HFIN
        obtain ⟨m, av, ac, ys, hm, hi, rfl, hA⟩ := hrel
        have HA := Lib.hid hA
        clear hA
        cases m with
        | zero =>
          have e0 : (((0 : Nat) : Int) - 1) = -1 := by omega
          rw [e0] at hi
          subst hi
          clear e0
          go_wp2
          go_ret2
          obtain ⟨cs9, a9, c9, hF9, _, h9⟩ := HA.out.fm
          refine ⟨rfl, a9, c9, ?_, HA.out.kp⟩
          rw [← h9]
          exact hF9.turn (Nat.le_refl _) (fun _ _ _ _ => rfl) (fun k hk => .inl (.inl hk)) (fun k hk => hF9.xlt k (.inl hk))
        | succ j =>
          have e0 : (((j + 1 : Nat) : Int) - 1) = (j : Int) := by omega
          rw [e0] at hi
          subst hi
          have hIz := (HA.out.kp.ints HZ.out HT.out).1
          have hjz : j < zs.length := by rw [← HN.out]; omega
          obtain ⟨bb, off, rfl, hbl, hc⟩ := hIz.addr (by omega)
          obtain ⟨z, hzk⟩ : ∃ z, zs[j]? = some z := ⟨zs[j], by simp [hjz]⟩
          have hcell := hc j z hzk
          have hzo := (M.own_iff V zs).1 HOW.out z (List.mem_of_getElem? hzk)
          have hz1 : -10000 ≤ z := by omega
          have hz2 : z ≤ 10000 := by omega
          have hw1 : wrap64 (-z) = -z := IntWalk.wrap64_in _ ⟨by omega, by omega⟩
          have hw2 : IntKind.i64.wrap (-z) = -z := by rw [IntKind.wrap_i64]; omega
          have hgd : zs.getD j 0 = z := by rw [List.getD_eq_getElem?_getD, hzk]; rfl
          have hstep : M.amC zs K ys (j + 1) = if K.testBit j then M.amC zs K (ys ++ [-z]) j else ([-z] ++ ys) :: M.amC zs K ys j := by rw [M.amC, hgd]
          have HST := Lib.hid hstep
          have hzn : M.own (V + 1) [-z] = true := (M.own_iff _ _).2 fun y hy => by simp at hy; subst hy; omega
          have HZN := Lib.hid hzn
          have hjn : (j : Int) < (n : Int) := by omega
          have hys := HA.out.len
          have hsz := HA.out.kp.size
          have hiy : ∀ y ∈ ys, I64 y := fun y hy => by
            have := (M.own_iff _ _).1 HA.out.oys y hy
            exact ⟨by omega, by omega⟩
          have HIY := Lib.hid hiy
          have hbit := bit_atG K j (by omega)
          clear hIz hc hzk hzo e0 hstep hzn hiy hgd
          cases hb2 : K.testBit j
          · rw [hb2] at hbit HST
            rw [if_neg (by simp)] at HST
            clear hb2
            obtain ⟨wp, hwp⟩ : ∃ wp, wp = wr := ⟨_, rfl⟩
            subst hwp
            go_wp2_with (at_builtin; refine wpList_append_Ints rfl (.tmp 78) (.tmp 79) 30 rfl Tryd.underlying30 wp.heap.size _ 1 1 [-z] rfl rfl (OwnI.one wp _ (Nat.le_refl _) (-z)) av _ ac ys rfl rfl ((HA.out.own.ints HIY.out (by omega)).alloc _) HA.out.own.cap.2 (by omega) (by simp) ?_; intro a5 c5 w5 hown5 hg5 hB5; have HO5 := Lib.hid hown5; have HB5 : Hid (Below wp.heap.size wp w5) := Lib.hid (((Below.refl _ _).alloc (Nat.le_refl _) _).trans hB5); clear hown5 hg5 hB5)
            obtain ⟨cs3, a3, c3, hF3, hcl3, hf3⟩ := HA.out.fm
            rw [HST.out, List.foldl_cons] at hf3
            have hI5 := HO5.out.ints (fun y hy => by
              rcases List.mem_append.1 hy with h | h
              · simp at h; subst h; exact ⟨by omega, by omega⟩
              · exact HIY.out y h) (by simp; omega)
            have hadd := add_ok base p (V + 1) cs3 a3 c3 a5 c5 ([-z] ++ ys) w5 (hF3.below HB5.out) hI5 (M.own_append.2 ⟨HZN.out, HA.out.oys⟩) (by omega)
            have e1 : ([-z] ++ ys).length = 1 + ys.length := by simp; omega
            rw [e1] at hadd
            have HAD := Lib.hid hadd
            have HF3 := Lib.hid hf3
            clear hI5 hadd hF3 hf3
            refine HAD.out.mono ?_
            rintro e w6 ⟨rfl, a7, c7, hF7, hk7⟩
            have hA7 : AG X w base p (V + 1) zs K fin j av ac ys w6 := by
              refine ⟨(HA.out.kp.thenB (HB5.out.mono hsz)).trans (hk7.sub fun k hk => .inl hk), ?_, HA.out.oys, by omega, _, a7, c7, hF7, ?_, HF3.out⟩
              · exact ((HA.out.own.below HB5.out)).kept fun g cur hlt hg => hk7.block g hlt (.inr (.inr ⟨cur, _, _, hg, by decide, by decide⟩))
              · have := M.addC_length cs3 ([-z] ++ ys); omega
            have HA7 := Lib.hid hA7
            clear hF7 hk7 hA7 HAD
            go_wp2
            go_roundw
            case rel => exact ⟨j, av, ac, _, by omega, by go_num, rfl, HA7.out⟩
            case measure => first | (simp [intOf]; done) | (simp [intOf]; omega)
          · rw [hb2] at hbit HST
            rw [if_pos rfl] at HST
            clear hb2
            obtain ⟨wp, hwp⟩ : ∃ wp, wp = wr := ⟨_, rfl⟩
            subst hwp
            go_wp2_with (at_builtin; refine wpList_append_IntsAt rfl (.tmp 64) (.tmp 70) 30 rfl Tryd.underlying30 w.heap.size av _ ac ys rfl rfl (HA.out.own.alloc _) _ 1 1 [-z] rfl rfl (Ints.one wp (-z) ⟨by omega, by omega⟩ _) (fun h => by cases h) (by omega) (by simp; omega) ?_; intro a5 c5 w5 hown5 hg5 hl5; have HO5 := Lib.hid hown5; have HG5 := Lib.hid hg5; have HL5 := Lib.hid hl5; clear hown5 hg5 hl5)
            have hal : Below wp.heap.size wp (wp.alloc (.cells #[.int .i64 (-z)] 3)) := (Below.refl _ _).alloc (Nat.le_refl _) _
            have hA7 : AG X w base p (V + 1) zs K fin j a5 c5 (ys ++ [-z]) w5 := by
              have hbe : Below w.heap.size (wp.alloc (.cells #[.int .i64 (-z)] 3)) w5 := (Below.refl _ _).grown HG5.out (by have := hal.size; omega) (fun k hk => ownBlock_ge HA.out.own k _ hk)
              obtain ⟨cs3, a3, c3, hF3, hcl3, hf3⟩ := HA.out.fm
              rw [HST.out] at hf3
              have hs5 : (wp.alloc (.cells #[.int .i64 (-z)] 3)).heap.size ≤ w5.heap.size := HG5.out.size
              have hss := hal.size
              refine ⟨(HA.out.kp.thenB (hal.mono hsz)).thenB hbe, HO5.out, M.own_append.2 ⟨HA.out.oys, HZN.out⟩, by simp; omega, cs3, a3, c3, (hF3.below hal).turn hs5 (fun k hk hx _ => ?_) (fun k hk => ?_) (fun k hk => ?_), by omega, hf3⟩
              · refine HG5.out.block k hk fun e => hx (.inr ?_)
                cases av with
                | none => simp [Value.ownBlock] at e
                | some ad => simp [Value.ownBlock] at e; exact ⟨ad, rfl, e.symm⟩
              · rcases hk with h | ⟨ad, e, h⟩
                · exact .inl (.inl h)
                · rcases HL5.out ad e with ⟨ad2, e2, e3⟩ | h2
                  · exact .inl (.inr ⟨ad2, e2, e3.trans h⟩)
                  · right; omega
              · rcases hk with h | ⟨ad, e, h⟩
                · have := hF3.xlt k (.inl h); omega
                · have := HO5.out.parts
                  rcases this with ⟨rfl, _⟩ | ⟨g, cur, rfl, _, hlt, _⟩
                  · cases e
                  · cases e; simp at h; omega
            have HA7 := Lib.hid hA7
            clear hA7 hal
            go_roundw
            case rel => exact ⟨j, a5, c5, _, by omega, by go_num, by simp, HA7.out⟩
            case measure => first | (simp [intOf]; done) | (simp [intOf]; omega)
end Go.Proofs.YtllkeojkejbbeaaDoor
namespace Go.Proofs.YtllkeojkejbbeaaDoor
open Go.RowKit Go.Shelf

def M.smT (V : Nat) (t : M.Wt) : Bool := !(t.1 == 0) && !(decide (t.1 < -(V : Int))) && !(decide ((V : Int) < t.1)) && !(decide (t.2 < 0)) && !(decide (40 < t.2))
def M.smB (V : Nat) (ts : List M.Wt) : Bool := decide (ts.length ≤ 5) && ts.all (M.smT V)
theorem M.smT_snoc {V : Nat} {ts : List M.Wt} {k : Nat} {t : M.Wt} (h : ts[k]? = some t) (h1 : (ts.take k).all (M.smT V) = true) (h2 : M.smT V t = true) : (ts.take (k + 1)).all (M.smT V) = true := by
  rw [List.take_add_one, h, Option.toList_some, List.all_append, h1, List.all_cons, h2]; rfl
theorem M.smT_miss {V : Nat} {ts : List M.Wt} {k : Nat} {t : M.Wt} (h : ts[k]? = some t) (h2 : M.smT V t = false) : M.smB V ts = false := by
  unfold M.smB
  have : ts.all (M.smT V) = false := by
    rw [List.all_eq_false]
    exact ⟨t, List.mem_of_getElem? h, by rw [h2]; simp⟩
  rw [this, Bool.and_false]
set_option maxHeartbeats 2000000 in
set_option maxRecDepth 100000 in
theorem small_any (V : Nat) (a : Option Addr) (c : Nat) (ts : List M.Wt) (w : World) (hz : Wts w a ts) (hV : V ≤ 4) :
    Calls Tryd.prog 41 #[.slice a ts.length c, .int .i64 V] w fun e w' => e = .returned (.bool (M.smB V ts)) ∧ Below w.heap.size w w' := by
  have hlen := hz.len
  have HZ := Lib.hid hz
  clear hz
  by_cases hl : ts.length ≤ 5
  · have hneg : wrap64 (-(V : Int)) = -(V : Int) := IntWalk.wrap64_in _ ⟨by omega, by omega⟩
    have hneg2 : IntKind.i64.wrap (-(V : Int)) = -(V : Int) := by rw [IntKind.wrap_i64]; omega
    go_enter Tryd.func41, Tryd.ntmps41
    go_wp2
    go_loopw [6, 12] (fun _ i wr => ∃ k : Nat, k ≤ ts.length ∧ i = .int .i64 k ∧ (ts.take k).all (M.smT V) = true ∧ Below w.heap.size w wr) (fun _ i _ => ts.length - (intOf i).toNat)
    case atStart => exact ⟨0, Nat.zero_le _, rfl, rfl, Below.refl _ _⟩
    case round =>
      obtain ⟨k, hk, rfl, hu, hbr⟩ := hrel
      have HBR := Lib.hid hbr
      have HU := Lib.hid hu
      clear hbr hu
      by_cases hlt : k < ts.length
      · obtain ⟨b1, off, rfl, hbl, hc⟩ := (HZ.out.below HBR.out).addr (by omega)
        obtain ⟨t, htk⟩ : ∃ t, ts[k]? = some t := ⟨ts[k], by simp [hlt]⟩
        obtain ⟨hc0, hc1⟩ := hc k t htk
        have hsm : M.smT V t = (!(t.1 == 0) && !(decide (t.1 < -(V : Int))) && !(decide ((V : Int) < t.1)) && !(decide (t.2 < 0)) && !(decide (40 < t.2))) := rfl
        have HSM := Lib.hid hsm
        have HTK := Lib.hid htk
        clear hc htk hsm
        by_cases e0 : t.1 = 0
        · have hq := M.smT_miss (V := V) HTK.out (by rw [HSM.out]; simp [e0])
          have HQ := Lib.hid hq
          rw [e0] at hc0
          clear hq HSM e0
          go_wp2
          go_ret
          exact ⟨by rw [HQ.out]; rfl, HBR.out.alloc HBR.out.size _⟩
        · have hb0 : (t.1 == 0) = false := by simpa using e0
          by_cases e1 : t.1 < -(V : Int)
          · have hq := M.smT_miss (V := V) HTK.out (by rw [HSM.out]; simp [e1])
            have HQ := Lib.hid hq
            clear hq HSM
            go_wp2
            go_ret
            exact ⟨by rw [HQ.out]; rfl, HBR.out.alloc HBR.out.size _⟩
          · by_cases e2 : (V : Int) < t.1
            · have hq := M.smT_miss (V := V) HTK.out (by rw [HSM.out]; simp [e2])
              have HQ := Lib.hid hq
              clear hq HSM
              go_wp2
              go_ret
              exact ⟨by rw [HQ.out]; rfl, HBR.out.alloc HBR.out.size _⟩
            · by_cases e3 : t.2 < 0
              · have hq := M.smT_miss (V := V) HTK.out (by rw [HSM.out]; simp [e3])
                have HQ := Lib.hid hq
                clear hq HSM
                go_wp2
                go_ret
                exact ⟨by rw [HQ.out]; rfl, HBR.out.alloc HBR.out.size _⟩
              · by_cases e4 : 40 < t.2
                · have hq := M.smT_miss (V := V) HTK.out (by rw [HSM.out]; simp [e4])
                  have HQ := Lib.hid hq
                  clear hq HSM
                  go_wp2
                  go_ret
                  exact ⟨by rw [HQ.out]; rfl, HBR.out.alloc HBR.out.size _⟩
                · have hq := M.smT_snoc HTK.out HU.out (by rw [HSM.out]; simp [e0, e1, e2, e3, e4])
                  have HQ := Lib.hid hq
                  clear hq HSM
                  go_wp2
                  go_roundw
                  case rel => exact ⟨k + 1, by omega, by go_num, HQ.out, HBR.out.alloc HBR.out.size _⟩
                  case measure => simp [intOf]; omega
      · obtain rfl : k = ts.length := by omega
        have hu := HU.out
        rw [List.take_length] at hu
        have hq : M.smB V ts = true := by unfold M.smB; rw [hu, decide_eq_true hl]; rfl
        have HQ := Lib.hid hq
        clear hq hu HU
        go_wp2
        go_ret
        exact ⟨by rw [HQ.out]; rfl, HBR.out⟩
  · have hq : M.smB V ts = false := by unfold M.smB; rw [decide_eq_false hl]; rfl
    have HQ := Lib.hid hq
    clear hq
    go_enter Tryd.func41, Tryd.ntmps41
    go_wp2
    go_ret
    exact ⟨by rw [HQ.out]; rfl, Below.refl _ _⟩
set_option maxHeartbeats 1000000 in
theorem digits16_any (a : Option Addr) (c : Nat) (zs : List Int) (b : Option Addr) (d : Nat) (m : List Bool) (w : World) (hz : Ints w a zs) (hb : Bools w b m) (hl : zs.length ≤ 60) :
    Calls Tryd.prog 45 #[.slice a zs.length c, .slice b m.length d] w fun e w' => e = .returned (.int .i64 (M.num (zs.map (M.holds · m)))) ∧ w = w' := by
  have HZ := Lib.hid hz
  have HB := Lib.hid hb
  clear hz hb
  go_enter Tryd.func45, Tryd.ntmps45
  go_wp2
  go_loop [5, 6, 7, 10] (fun v _ _ i => ∃ k : Nat, k ≤ zs.length ∧ i = .int .i64 k ∧ v = .int .i64 (M.num ((zs.map (M.holds · m)).take k))) (fun _ _ _ i => zs.length - (intOf i).toNat)
  case atStart => exact ⟨0, Nat.zero_le _, rfl, rfl⟩
  case round =>
    obtain ⟨k, hk, rfl, rfl⟩ := hrel
    by_cases hlt : k < zs.length
    · obtain ⟨bb, off, rfl, hbl8, hc8⟩ := HZ.out.addr (by omega)
      obtain ⟨z, hzk⟩ : ∃ z, zs[k]? = some z := ⟨zs[k], by simp [hlt]⟩
      have hcell := hc8 k z hzk
      have hn := M.num_snoc (ds := zs.map (M.holds · m)) (k := k) (b := M.holds z m) (by rw [List.getElem?_map, hzk]; rfl)
      have hnl : M.num ((zs.map (M.holds · m)).take k) < 2 ^ k := by
        have := M.num_lt ((zs.map (M.holds · m)).take k)
        rwa [List.length_take, Nat.min_eq_left (by rw [List.length_map]; exact hk)] at this
      have hp := pow_small (k := k) (by omega)
      have hw : wrap64 ((2 : Int) ^ k) = (2 : Int) ^ k := by
        have e : ((2 : Int) ^ k) = ((2 ^ k : Nat) : Int) := by simp
        rw [e]; exact IntWalk.wrap64_in _ ⟨by omega, by omega⟩
      have hw3 : wrap64 ((M.num ((zs.map (M.holds · m)).take k) : Int) + (2 : Int) ^ k) = (M.num ((zs.map (M.holds · m)).take k) : Int) + (2 : Int) ^ k := by
        have e : ((2 : Int) ^ k) = ((2 ^ k : Nat) : Int) := by simp
        rw [e]; exact IntWalk.wrap64_in _ ⟨by omega, by omega⟩
      have HNN := Lib.hid hn
      have ht := rholds_any z b d m w HB.out
      clear hc8 hzk hn
      cases hh : M.holds z m
      · rw [hh] at HNN ht
        have HT := Lib.hid ht
        clear hh ht
        go_wp2_with (go_at_call 46; refine HT.out.mono ?_; rintro e w' ⟨rfl, rfl⟩)
        go_round
        case rel => exact ⟨k + 1, by omega, by go_num, by rw [HNN.out]; rfl⟩
        case measure => simp [intOf]; omega
      · rw [hh] at HNN ht
        have HT := Lib.hid ht
        clear hh ht
        go_wp2_with (go_at_call 46; refine HT.out.mono ?_; rintro e w' ⟨rfl, rfl⟩)
        go_round
        case rel => exact ⟨k + 1, by omega, by go_num, by rw [HNN.out]; simp [hw3]⟩
        case measure => simp [intOf]; omega
    · obtain rfl : k = zs.length := by omega
      rw [List.take_of_length_le (by rw [List.length_map]; omega)]
      go_wp2
      go_ret
      exact ⟨rfl, rfl⟩
set_option maxHeartbeats 2000000 in
theorem models16_any (n N : Nat) (w : World) (hn : n ≤ 10) (hN : N = 2 ^ n) :
    Calls Tryd.prog 43 #[.int .i64 n] w (ModelsPost w n N) := by
  have hNl : N ≤ 1024 := by rw [hN]; exact Nat.pow_le_pow_right (by omega) hn
  have hw : wrap64 ((2 : Int) ^ n) = (N : Int) := by
    have e : ((2 : Int) ^ n) = (N : Int) := by rw [hN]; simp
    rw [e]; exact IntWalk.wrap64_in _ ⟨by omega, by omega⟩
  have HW := Lib.hid hw
  clear hN hw
  go_enter Tryd.func43, Tryd.ntmps43
  go_wp2
  rw [HW.out]
  go_loopw [3, 10] (fun v i wr => ∃ (k : Nat) (a : Option Addr) (c : Nat), k ≤ N ∧ i = .int .i64 k ∧ v = .slice a k c ∧ OwnR wr w.heap.size a c (M.models n k) ∧ Below w.heap.size w wr) (fun _ i _ => N - (intOf i).toNat)
  case atStart => exact ⟨0, _, 0, Nat.zero_le _, rfl, rfl, OwnR.made0 w _ (Nat.le_refl _), (Below.refl _ _).alloc (Nat.le_refl _) _⟩
  case round =>
    obtain ⟨k, a, c, hk, rfl, rfl, ho, hb⟩ := hrel
    have HO := Lib.hid ho
    have HB := Lib.hid hb
    clear ho hb
    by_cases hlt : k < N
    · obtain ⟨wo, rfl⟩ : ∃ wo : World, wo = wr := ⟨_, rfl⟩
      go_wp2_with (at_make; refine wpList_make_Bools rfl (.tmp 13) (.tmp 13) rfl w.heap.size n rfl rfl (by omega) HB.out.size ?_; intro w1 hown hb1 hlt1; have HO1 := Lib.hid hown; have HB1 := Lib.hid hb1; clear hown hb1)
      go_loopw [6, 17] (fun _ i wr => ∃ j : Nat, j ≤ n ∧ i = .int .i64 j ∧ OwnB wr w.heap.size (some ⟨wo.heap.size, 0, none⟩) n (M.modelTo n k j) ∧ Below wo.heap.size wo wr) (fun _ i _ => n - (intOf i).toNat)
      case atStart => exact ⟨0, Nat.zero_le _, rfl, by simpa [M.modelTo] using HO1.out, HB1.out⟩
      case round =>
        obtain ⟨j, hj, rfl, ho2, hb2⟩ := hrel
        have HO2 := Lib.hid ho2
        have HB2 := Lib.hid hb2
        clear ho2 hb2
        by_cases hjl : j < n
        · have hfz := HO2.out.frozen j
          obtain ⟨y, hy⟩ : ∃ y, (M.modelTo n k j)[j]? = some y := ⟨_, List.getElem?_eq_getElem (by rw [M.modelTo_length _ _ _ hj]; exact hjl)⟩
          have hcell := HO2.out.cell hy
          clear hy
          go_wp2
          go_roundw
          case rel =>
            rw [bit_at k j (by omega)]
            exact ⟨j + 1, by omega, by go_num, by rw [← M.modelTo_set n k j hjl]; exact HO2.out.stored j _, HB2.out.setCell (Nat.le_refl _) _⟩
          case measure => simp [intOf]; omega
        · have hmod : M.modelTo n k j = M.model n k := by
            obtain rfl : j = n := by omega
            simp [M.modelTo, M.model]
          have hO3 : OwnB wr w.heap.size (some ⟨wo.heap.size, 0, none⟩) n (M.model n k) := by rw [← hmod]; exact HO2.out
          have HO3 := Lib.hid hO3
          have HOR := Lib.hid (HO.out.below HB2.out)
          have HBW := Lib.hid (below_next HB.out HB2.out)
          clear hmod hO3 HO2 HO
          go_wp2_with (at_builtin; refine wpList_append_Row rfl (.tmp 29) (.tmp 31) rfl w.heap.size _ _ _ (M.models n k) rfl (M.models_length n k) (HOR.out.below (below_alloc (Below.refl _ _) _)) ⟨wr.heap.size, 0, none⟩ (some ⟨wo.heap.size, 0, none⟩) n n (M.model n k) rfl (by simp) (M.model_length n k) rfl (HO3.out.below (below_alloc (Below.refl _ _) _)) (by omega) (put_size1 HBW.out) ?_; intro a3 c3 w3 hown3 hB3; have HO4 := Lib.hid hown3; have HB4 := Lib.hid (put_below2 HBW.out hB3); clear hown3 hB3)
          go_roundw
          case rel => exact ⟨k + 1, a3, c3, by omega, by go_num, rfl, by rw [M.models_succ]; exact HO4.out, HB4.out⟩
          case measure => simp [intOf]; omega
    · go_wp2
      go_ret
      obtain rfl : k = N := by omega
      exact ⟨a, c, rfl, HO.out, HB.out⟩
end Go.Proofs.YtllkeojkejbbeaaDoor
namespace Go.Proofs.YtllkeojkejbbeaaDoor
open Go.RowKit Go.Shelf
variable {X : Nat → Prop}

theorem mod_four (x : Int) : ∃ V : Nat, wrap64 ((IntKind.u64.wrap x).tmod 4) = (V : Int) ∧ V < 4 := by
  have h0 : 0 ≤ IntKind.u64.wrap x := by rw [IntKind.wrap_u64]; omega
  rw [Int.tmod_eq_emod_of_nonneg h0]
  have h1 := Int.emod_nonneg (IntKind.u64.wrap x) (show (4 : Int) ≠ 0 by omega)
  have h2 := Int.emod_lt_of_pos (IntKind.u64.wrap x) (show (0 : Int) < 4 by omega)
  generalize IntKind.u64.wrap x % 4 = r at *
  rw [IntWalk.wrap64_in r ⟨by omega, by omega⟩]
  exact ⟨r.toNat, by omega, by omega⟩
theorem OwnC.keep {Y Z : Nat → Prop} {w w' : World} {base b2 : Nat} {a : Option Addr} {c : Nat} {cs : List (List Int)} (h : OwnC Y w b2 a c cs) (hk : Kp Z base w w') (hz : ∀ k, b2 ≤ k → k < w.heap.size → Z k) : OwnC Y w' b2 a c cs := by
  obtain ⟨hoff, vals, ho, hv⟩ := h
  refine ⟨hoff, vals, ⟨ho.1, ?_⟩, fun i x hx => ?_⟩
  · rcases ho.2 with h0 | ⟨g, cap, cur, e, hbg, hgg, r⟩
    · exact .inl h0
    · have hl := (Array.getElem?_eq_some_iff.1 hgg).1
      exact .inr ⟨g, cap, cur, e, hbg, (hk.block g hl (.inr (.inl (hz g hbg hl)))).trans hgg, r⟩
  · obtain ⟨a', c', h1, h2, h3, h4, h5⟩ := hv i x hx
    have := hk.ints h2 h3.tag
    exact ⟨a', c', h1, this.1, ⟨h3.off, this.2⟩, h4, h5⟩
theorem M.sm_facts {V : Nat} {ts : List M.Wt} (h : M.smB V ts = true) : ts.length ≤ 5 ∧ ts.all M.wOk = true ∧ M.own V (M.lits ts) = true ∧ 3 * M.wLen ts + (M.dig (M.wSum ts)).length ≤ 98 ∧ (M.dig (M.wSum ts)).length ≤ 8 := by
  unfold M.smB at h
  rw [Bool.and_eq_true, decide_eq_true_iff, List.all_eq_true] at h
  obtain ⟨h1, h2⟩ := h
  have hf : ∀ t ∈ ts, (t.1 ≠ 0 ∧ -(V : Int) ≤ t.1 ∧ t.1 ≤ (V : Int)) ∧ 0 ≤ t.2 ∧ t.2 ≤ 40 := fun t ht => by
    have := h2 t ht
    unfold M.smT at this
    simp at this
    omega
  have hlen : ∀ ts : List M.Wt, (∀ t ∈ ts, 0 ≤ t.2 ∧ t.2 ≤ 40) → M.wLen ts ≤ 6 * ts.length ∧ M.wSum ts ≤ 40 * ts.length := by
    intro ts
    induction ts with
    | nil => intro _; simp [M.wLen, M.wSum]
    | cons t ts ih =>
      intro h
      obtain ⟨a1, a2⟩ := ih fun t ht => h t (List.mem_cons_of_mem _ ht)
      have h3 := h t (by simp)
      have h4 := M.ones_le (M.dig t.2.toNat)
      have h5 : (M.dig t.2.toNat).length ≤ 6 := M.dig_len (by omega)
      simp only [M.wLen, M.wSum, List.map_cons, List.sum_cons, List.length_cons] at a1 a2 ⊢
      omega
  obtain ⟨a1, a2⟩ := hlen ts fun t ht => (hf t ht).2
  have h8 : (M.dig (M.wSum ts)).length ≤ 8 := M.dig_len (by omega)
  refine ⟨h1, ?_, ?_, by omega, h8⟩
  · rw [List.all_eq_true]
    intro t ht
    rw [M.wOk_iff]
    have := hf t ht
    omega
  · rw [M.own_iff]
    intro x hx
    unfold M.lits at hx
    obtain ⟨t, ht, rfl⟩ := List.mem_map.1 hx
    exact (hf t ht).1
section
variable {V sum B at' : Nat} {ts : List M.Wt} {gs : List M.G} {bits : List Int}
theorem ext_one (hS : M.SI V sum B (M.wVal ts) at' gs [] bits) (hgl : V + gs.length ≤ 110) (hcl : (M.gatesC V gs).length ≤ 900) (T : Nat) (hT : T = V + gs.length) (a1 : Option Addr) (c1 : Nat) (wr : World) (hC : Cls wr a1 (M.gatesC V gs)) (m : List Bool) (hm : m.length = V) (hV1 : 1 ≤ V) (b : Option Addr) (d : Nat) (hb : Bools wr b m) :
    Calls Tryd.prog 44 #[.slice a1 (M.gatesC V gs).length c1, .int .i64 T, .slice b m.length d] wr fun e w' =>
      ∃ x a c, e = .returned (.slice a 1 c) ∧ OwnR w' wr.heap.size a c [x] ∧ x.length ≤ 1000 ∧ M.num (bits.map (M.holds · x)) = M.wVal ts m ∧ Below wr.heap.size wr w' := by
  subst hT
  have hx := Extended_any a1 c1 (M.gatesC V gs) (V + gs.length) b d m 0 wr (by omega) (M.gatesC_own hS.ok (by omega)) (by omega) (fun x hx => by have := M.gatesC_clause hS.small x hx; omega) (by omega) hC hb (by omega) (by omega)
    (fun l hp => Nat.le_of_eq (M.un_zero fun i hi => M.un_of hS.ok (by omega) hm (fun c hc => hc) hp hi))
  refine hx.mono ?_
  rintro e w' ⟨xs, a, c, rfl, h1, h2, h3, h4⟩
  have h5 := M.on_one hS.ok (by omega) hm h2 (by simpa using h1)
  subst h5
  refine ⟨_, a, c, rfl, h3, by rw [M.ext_length]; omega, ?_, h4⟩
  have := hS.val m hm
  simpa [M.ld] using this
theorem ext_yes (hS : M.SI V sum B (M.wVal ts) at' gs [] bits) (hgl : V + gs.length ≤ 110) (hcl : (M.gatesC V gs).length ≤ 900) (hbl : bits.length ≤ 8) (T : Nat) (hT : T = V + gs.length) (s k : Int) (hs : s = (T : Int) + 1) (cs : List (List Int)) (hcs : cs = (M.amAll bits k s).foldl M.addC (M.gatesC V gs)) (a1 : Option Addr) (c1 : Nat) (wr : World) (hC : Cls wr a1 cs) (m : List Bool) (hm : m.length = V) (hV1 : 1 ≤ V) (b : Option Addr) (d : Nat) (hb : Bools wr b m) :
    Calls Tryd.prog 44 #[.slice a1 cs.length c1, .int .i64 ((T + 1 : Nat) : Int), .slice b m.length d] wr fun e w' =>
      ∃ xs a c, e = .returned (.slice a xs.length c) ∧ xs.length ≤ 2 ∧ (∀ x ∈ xs, x.length ≤ 1000) ∧ OwnR w' wr.heap.size a c xs ∧ ((∃ x ∈ xs, M.holds s x = true) ↔ (M.wVal ts m : Int) ≤ k) ∧ Below wr.heap.size wr w' := by
  subst hT
  have hs' : s = ((V + gs.length + 1 : Nat) : Int) := by omega
  have hs1 : M.own (V + gs.length + 1) [s] = true := by rw [hs']; exact M.own_new _
  obtain ⟨o1, o2, o3⟩ := M.amAll_own (k := k) (M.own_mono (Nat.le_succ _) hS.ownb) hs1
  have hlen : cs.length ≤ 1000 := by
    rw [hcs]
    have := M.addCs_length (M.gatesC V gs) (M.amAll bits k s)
    omega
  have hsub : ∀ c ∈ M.gatesC V gs, c ∈ cs := fun c hc => by rw [hcs]; exact M.addCs_old hc
  have hown : ∀ x ∈ cs, M.own (V + gs.length + 1) x = true := fun x hx => by
    rw [hcs] at hx
    rcases M.addCs_from hx with hx | ⟨e, he, rfl⟩
    · exact M.own_mono (Nat.le_succ _) (M.gatesC_own hS.ok (by omega) x hx)
    · exact M.own_norm (o1 e he)
  have hcl2 : ∀ x ∈ cs, x.length ≤ 1000 := fun x hx => by
    rw [hcs] at hx
    rcases M.addCs_from hx with hx | ⟨e, he, rfl⟩
    · have := M.gatesC_clause hS.small x hx; omega
    · have := M.norm_length e
      have := o3 e he
      omega
  have hx := Extended_any a1 c1 cs (V + gs.length + 1) b d m 1 wr (by omega) hown hlen hcl2 (by omega) hC hb (by omega) (by omega)
    (fun l hp => M.un_one fun i hi => M.un_of hS.ok (by omega) hm hsub hp hi)
  refine hx.mono ?_
  rintro e w' ⟨xs, a, c, rfl, h1, h2, h3, h4⟩
  rw [hcs] at h2
  have h5 := M.yes_iff hS.ok (by omega) hm hS.ownb hs' h2
  have h6 := hS.val m hm
  have h7 : M.num (bits.map (M.holds · (M.ext m gs))) = M.wVal ts m := by simpa [M.ld] using h6
  rw [h7] at h5
  exact ⟨xs, a, c, rfl, by simpa using h1, fun x hx => by have := ((h2 x).1 hx).1; omega, h3, h5, h4⟩
end
set_option maxHeartbeats 4000000 in
set_option maxRecDepth 100000 in
theorem bitsLaw (hal : Alive16) (x : Int) (a : Option Addr) (c : Nat) (ts : List M.Wt) (k : Int) (w : World) (hx : I64 x) (hk : I64 k) (hz : Wts w a ts) :
    Calls Tryd.prog 8 #[.int .i64 x, .slice a ts.length c, .int .i64 k] w fun e w' => e = .returned (.bool true) ∧ Below w.heap.size w w' := by
  have hlen := hz.len
  have hx1 := hx.lo
  have hx2 := hx.hi
  have HAL := Lib.hid (hal w)
  have HZ := Lib.hid hz
  have HKI := Lib.hid hk
  clear hal hz hx hk
  obtain ⟨V0, hV, hV4⟩ := mod_four x
  obtain ⟨V, hV1⟩ : ∃ V : Nat, V = V0 + 1 := ⟨_, rfl⟩
  have hw1 : wrap64 (1 + (V0 : Int)) = (V : Int) := by rw [IntWalk.wrap64_in _ ⟨by omega, by omega⟩]; omega
  have hVl : 1 ≤ V := by omega
  have hVu : V ≤ 4 := by omega
  have HV := Lib.hid hV
  have HW1 := Lib.hid hw1
  clear hV hw1
  go_enter Tryd.func8, Tryd.ntmps8
  go_wp2_with fail
  refine HAL.out.mono ?_
  rintro e W0 ⟨rfl, hb0⟩
  have HB0 := Lib.hid hb0
  have HSM := Lib.hid (small_any V a c ts W0 (HZ.out.below hb0) hVu)
  clear hb0 HAL
  go_wp2_with fail
  rw [HV.out, HW1.out]
  clear HV HW1 hx1 hx2 hV1 hV4
  refine HSM.out.mono ?_
  rintro e Ws ⟨rfl, hbs⟩
  have HBS := Lib.hid (HB0.out.trans (hbs.mono HB0.out.size))
  clear hbs HSM HB0
  cases hsm : M.smB V ts
  · go_wp2
    go_ret
    exact ⟨rfl, HBS.out⟩
  · obtain ⟨hl5, hok, how, hB98, hd8⟩ := M.sm_facts hsm
    clear hsm
    go_wp2_with fail
    refine (new_any _).mono ?_
    rintro e W1 ⟨rfl, hW1⟩
    have hF1 : Fm NoX W1 w.heap.size Ws.heap.size 0 [] none 0 := by rw [← hW1]; exact Fm.new Ws _ HBS.out.size (NoX.lt _)
    have hb1 : Below w.heap.size w W1 := by rw [← hW1]; exact HBS.out.alloc HBS.out.size _
    have hm := many_ok w.heap.size Ws.heap.size 0 V [] none 0 W1 hF1 hVl (by omega) hb1.size
    have HB1 := Lib.hid hb1
    have HM := Lib.hid hm
    clear hW1 hF1 hb1 hm
    go_wp2_with fail
    refine HM.out.mono ?_
    rintro e W2 ⟨rfl, hF2, _, hA2⟩
    rw [Nat.zero_add] at hF2
    have hge : w.heap.size ≤ Ws.heap.size := HBS.out.size
    have hb2 : Below w.heap.size w W2 := HB1.out.trans ⟨hA2.os, hA2.tape, hA2.output, hA2.size, fun k hk => hA2.block k (by have := HB1.out.size; omega) (by omega)⟩
    have HB2 := Lib.hid hb2
    have H8 := Lib.hid (bits_tight w.heap.size Ws.heap.size V 98 none 0 a c ts W2 hF2 hb2.size (HZ.out.below hb2) (fun h0 ad e _ => by
      obtain ⟨b', off, e2, hlt, _⟩ := HZ.out.addr h0
      rw [e2] at e; cases e
      exact .inl hlt) hok (by omega) how hB98 (by omega))
    clear hF2 hA2 hb2 HM HB1 HBS
    obtain ⟨p, hp⟩ : ∃ p, p = Ws.heap.size := ⟨_, rfl⟩
    rw [← hp] at H8 ⊢
    clear hp
    go_wp2_with fail
    refine H8.out.mono ?_
    rintro e W8 ⟨gs, bits, a8, c8, rfl, hO8, ⟨a9, c9, hF8, hk8⟩, hS8⟩
    have hgl : gs.length ≤ 98 := by have := hS8.gates; omega
    have hbl : bits.length ≤ 8 := by rw [hS8.bl]; exact hd8
    have hbe : bits.length = (M.dig (M.wSum ts)).length := hS8.bl
    have hcl : (M.gatesC V gs).length ≤ 900 := by have := M.gatesC_length (V := V) hS8.small; omega
    have hb8 : Below w.heap.size w W8 := HB2.out.trans (hk8.below HB2.out.size)
    obtain ⟨T, hT⟩ : ∃ T, T = V + gs.length := ⟨_, rfl⟩
    rw [← hT] at hF8
    have hTl : T ≤ 110 := by omega
    have HRB := Lib.hid (rbound_ok a c ts W8 (HZ.out.below hb8) hok (by omega))
    have HBI := Lib.hid (hO8.ints (fun z hz => by
      have := (M.own_iff _ _).1 hS8.ownb z hz
      exact ⟨by omega, by omega⟩) (by omega))
    have HBT := Lib.hid hO8.tag
    have HF8 := Lib.hid hF8
    have HB8 := Lib.hid hb8
    have HS8 := Lib.hid hS8
    have HT := Lib.hid hT
    have HOK := Lib.hid hok
    have HBE := Lib.hid hbe
    clear hO8 hF8 hk8 hS8 hb8 hT hok how hB98 H8 HB2 hbe
    go_wp2_with fail
    refine HRB.out.mono ?_
    rintro e W9 ⟨rfl, hb9⟩
    have hdg := rdigits_any (M.wSum ts) W9 ⟨by omega, by
      have := M.sum_le HOK.out; omega⟩
    rw [Int.toNat_natCast] at hdg
    have HDG := Lib.hid hdg
    have HB9 := Lib.hid hb9
    clear hb9 HRB hdg
    go_wp2_with fail
    refine HDG.out.mono ?_
    rintro e Wa ⟨a3, c3, rfl, _, hb3⟩
    rw [← HBE.out]
    have hb8a := HB9.out.trans (hb3.mono HB9.out.size)
    have hFa := HF8.out.below hb8a
    have hca := clauses_any (Y := NoX) w.heap.size p T (M.gatesC V gs) a9 c9 Wa hFa (NoX.lt _)
    have HCA := Lib.hid hca
    have HFA := Lib.hid hFa
    have HBA := Lib.hid hb8a
    clear hb3 hb8a hFa hca HF8 HB9 HDG
    go_wp2_with fail
    refine HCA.out.mono ?_
    rintro e Wb ⟨rfl, hOb, hbb⟩
    have HVB := Lib.hid (vars_any p T Wb (HFA.out.below hbb).cell0)
    have HBB := Lib.hid hbb
    have HOB := Lib.hid hOb
    have HBX := Lib.hid (HBA.out.trans (hbb.mono HBA.out.size))
    clear hbb hOb HCA
    go_wp2_with (go_at_call 26; refine HVB.out.mono ?_; rintro e w' ⟨rfl, rfl⟩)
    have hFb : Fm (fun k => Wa.heap.size ≤ k ∧ k < Wb.heap.size) Wb w.heap.size p T (M.gatesC V gs) a9 c9 :=
      HFA.out.turn HBB.out.size (fun k hk _ _ => HBB.out.block k hk) (fun k hk => .inr hk.1) (fun k hk => hk.2)
    have hob : M.own T bits = true := by rw [HT.out]; exact HS8.out.ownb
    have ham := atmost_any w.heap.size p T (M.gatesC V gs) a9 c9 a8 c8 bits k Wb hFb (by omega) (by omega) (HBI.out.below HBX.out) (HBT.out.below HBX.out) (by omega) hob HKI.out
    have hbw := HB8.out.trans (HBX.out.mono HB8.out.size)
    have HAM := Lib.hid ham
    have HBW := Lib.hid hbw
    have HBIb := Lib.hid (HBI.out.below HBX.out)
    have HBTb := Lib.hid (HBT.out.below HBX.out)
    clear hFb hob ham hbw HFA HBA HVB HBI HBT HB8
    obtain ⟨s, hs⟩ : ∃ s : Int, s = (T : Int) + 1 := ⟨_, rfl⟩
    rw [← hs, show ((T + 1 : Nat) : Int) = s by omega] at HAM
    obtain ⟨C2, hC2⟩ : ∃ C2, C2 = (M.amAll bits k s).foldl M.addC (M.gatesC V gs) := ⟨_, rfl⟩
    rw [← hC2] at HAM
    have HSS := Lib.hid hs
    have HC2 := Lib.hid hC2
    clear hs hC2
    refine HAM.out.mono ?_
    rintro e Wc ⟨rfl, ac, cc, hFc, hkc⟩
    have hbwc := HBW.out.trans ((hkc.below HBW.out.size).mono (Nat.le_refl _))
    have HOC := Lib.hid (HOB.out.keep hkc fun k h1 h2 => ⟨h1, h2⟩)
    have HBIc := Lib.hid (hkc.ints HBIb.out HBTb.out).1
    have hca := clauses_any (Y := NoX) w.heap.size p (T + 1) C2 ac cc Wc hFc (NoX.lt _)
    have HCA := Lib.hid hca
    have HBC := Lib.hid hbwc
    have HFC := Lib.hid hFc
    have hC2l : C2.length ≤ 1000 := by
      rw [HC2.out]
      have h1 := M.addCs_length (M.gatesC V gs) (M.amAll bits k s)
      have h2 := (M.amAll_own (V := T + 1) (k := k) (s := s) (M.own_mono (Nat.le_succ _) (by rw [HT.out]; exact HS8.out.ownb)) ((M.own_iff _ _).2 fun y hy => by have := HSS.out; simp at hy; subst hy; omega)).2.1
      omega
    clear hca hFc hkc hbwc HAM HBW HOB HBIb HBTb HBX HBB
    go_wp2_with fail
    refine HCA.out.mono ?_
    rintro e Wd ⟨rfl, hO2, hb2⟩
    obtain ⟨N, hN⟩ : ∃ N, N = 2 ^ V := ⟨_, rfl⟩
    have HMD := Lib.hid (models16_any V N Wd (by omega) hN)
    have HBD := Lib.hid hb2
    have HO2 := Lib.hid hO2
    have hN16 : N ≤ 16 := by rw [hN]; exact Nat.pow_le_pow_right (n := 2) (by omega) hVu
    clear hb2 hO2 hN HCA
    go_wp2_with fail
    refine HMD.out.mono ?_
    rintro e We ⟨am, cm, rfl, hRe, hbe⟩
    have hbce := HBD.out.trans (hbe.mono HBD.out.size)
    have HBE2 := Lib.hid (HBC.out.trans (hbce.mono HBC.out.size))
    have HC1 := Lib.hid ((HOC.out.below hbce).cls (by omega))
    have HC2e := Lib.hid ((HO2.out.below hbe).cls (by omega))
    have HF0 := Lib.hid (HFC.out.below hbce).cell0
    have HRE := Lib.hid hRe
    have HBIe := Lib.hid (HBIc.out.below hbce)
    clear hRe hbe hbce HMD HBD HO2 HBC HFC HOC HBIc
    have he1 : ∀ (wr : World) (m : List Bool) (b : Option Addr) (d : Nat), Below We.heap.size We wr → m.length = V → Bools wr b m → Calls Tryd.prog 44 #[.slice (some ⟨Wa.heap.size, 0, none⟩) (M.gatesC V gs).length (M.gatesC V gs).length, .int .i64 T, .slice b V d] wr fun e w' =>
        ∃ x a c, e = .returned (.slice a 1 c) ∧ OwnR w' wr.heap.size a c [x] ∧ x.length ≤ 1000 ∧ M.num (bits.map (M.holds · x)) = M.wVal ts m ∧ Below wr.heap.size wr w' := fun wr m b d hb hm hbm => by
      have := ext_one HS8.out (by have := HT.out; omega) hcl T HT.out (some ⟨Wa.heap.size, 0, none⟩) (M.gatesC V gs).length wr (HC1.out.below hb) m hm hVl b d hbm
      rw [hm] at this; exact this
    have he2 : ∀ (wr : World) (m : List Bool) (b : Option Addr) (d : Nat), Below We.heap.size We wr → m.length = V → Bools wr b m → Calls Tryd.prog 44 #[.slice (some ⟨Wc.heap.size, 0, none⟩) C2.length C2.length, .int .i64 ((T + 1 : Nat) : Int), .slice b V d] wr fun e w' =>
        ∃ xs a c, e = .returned (.slice a xs.length c) ∧ xs.length ≤ 2 ∧ (∀ x ∈ xs, x.length ≤ 1000) ∧ OwnR w' wr.heap.size a c xs ∧ ((∃ x ∈ xs, M.holds s x = true) ↔ (M.wVal ts m : Int) ≤ k) ∧ Below wr.heap.size wr w' := fun wr m b d hb hm hbm => by
      have := ext_yes HS8.out (by have := HT.out; omega) hcl hbl T HT.out s k HSS.out C2 HC2.out (some ⟨Wc.heap.size, 0, none⟩) C2.length wr (HC2e.out.below hb) m hm hVl b d hbm
      rw [hm] at this; exact this
    have HE1 := Lib.hid he1
    have HE2 := Lib.hid he2
    have hk1 := HKI.out.lo
    have hk2 := HKI.out.hi
    have hs1 : -1000 ≤ s := by have := HSS.out; omega
    have hs2 : s ≤ 1000 := by have := HSS.out; omega
    clear he1 he2 HC1 HC2e HS8 HT HSS HC2 hcl hgl
    obtain ⟨T1, hT1⟩ : ∃ T1 : Nat, T1 = T + 1 := ⟨_, rfl⟩
    rw [← hT1] at HE2 HF0
    clear hT1
    obtain ⟨GL, hGL⟩ : ∃ GL, GL = (M.gatesC V gs).length := ⟨_, rfl⟩
    rw [← hGL] at HE1 ⊢
    clear hGL
    go_wp2
    go_loopw [20, 21, 22, 23, 25, 86] (fun _ _ _ _ _ i wr => ∃ j : Nat, j ≤ N ∧ i = .int .i64 j ∧ Below We.heap.size We wr) (fun _ _ _ _ _ i _ => N - (intOf i).toNat)
    case atStart => exact ⟨0, Nat.zero_le _, rfl, Below.refl _ _⟩
    case round =>
      obtain ⟨j, hj, rfl, hbr⟩ := hrel
      have HBR := Lib.hid hbr
      clear hbr
      by_cases hlt : j < N
      · obtain ⟨m, hm⟩ : ∃ m, m = M.model V j := ⟨_, rfl⟩
        have hmk : (M.models V N)[j]? = some m := by rw [hm]; simp [M.models, hlt]
        have hml : m.length = V := by rw [hm]; exact M.model_length V j
        obtain ⟨g, am', rfl, hcell, hob⟩ := (HRE.out.below HBR.out).cellN hmk
        rw [hml] at hcell
        have hbm := hob.bools (by omega)
        have hrv := rvalue_any a c ts am' V m wr (HZ.out.below (HBE2.out.trans (HBR.out.mono HBE2.out.size))) hbm HOK.out (by omega)
        rw [hml] at hrv
        have HRV := Lib.hid hrv
        have HBM := Lib.hid hbm
        have HML := Lib.hid hml
        have hjn : (j : Int) < (N : Int) := by omega
        clear hm hmk hml hob hbm hrv
        go_wp2_with fail
        refine HRV.out.mono ?_
        rintro e w1 ⟨rfl, hb1⟩
        have HB1 := Lib.hid (HBR.out.trans (hb1.mono HBR.out.size))
        have HBM1 := Lib.hid (HBM.out.below hb1)
        have HX1 := Lib.hid (HE1.out w1 m am' V HB1.out HML.out HBM1.out)
        clear hb1 HRV HBM
        obtain ⟨vl, hvl⟩ : ∃ vl, vl = M.wVal ts m := ⟨_, rfl⟩
        rw [← hvl] at HX1 ⊢
        have HVL := Lib.hid hvl
        clear hvl
        go_wp2_with fail
        refine HX1.out.mono ?_
        rintro e w2 ⟨x2, a2, c2, rfl, hR2, hxl2, hnum, hb2⟩
        obtain ⟨g2, a2', rfl, hcell2, hob2⟩ := hR2.cellN (i := 0) (m := x2) rfl
        have hbx2 := hob2.bools (by omega)
        have hdg := digits16_any a8 c8 bits a2' x2.length x2 w2 ((HBIe.out.below HB1.out).below hb2) hbx2 (by omega)
        rw [hnum] at hdg
        have HDG := Lib.hid hdg
        have HB2 := Lib.hid (HB1.out.trans (hb2.mono HB1.out.size))
        have HBM2 := Lib.hid (HBM1.out.below hb2)
        have HVC := Lib.hid (vars_any p T1 w2 (((HB1.out.trans (hb2.mono HB1.out.size)).cell (p := ⟨p, 0, none⟩) (World.block_lt_of_cell? We _ HF0.out)).trans HF0.out))
        have HX2 := Lib.hid (HE2.out w2 m am' V (HB1.out.trans (hb2.mono HB1.out.size)) HML.out (HBM1.out.below hb2))
        rw [← HVL.out] at HX2
        clear hbx2 hdg hnum hb2 hR2 hob2 HX1 HBM1 HB1
        go_wp2_with (first
          | (go_at_call 45; refine HDG.out.mono ?_; rintro e w' ⟨rfl, rfl⟩)
          | (go_at_call 26; refine HVC.out.mono ?_; rintro e w' ⟨rfl, rfl⟩))
        refine HX2.out.mono ?_
        rintro e w3 ⟨xs, a3', c3', rfl, hx3, hxl3, hR3, hiff, hb3⟩
        have HR3 := Lib.hid hR3
        have HXL3 := Lib.hid hxl3
        have HIF := Lib.hid hiff
        have HB3 := Lib.hid (HB2.out.trans (hb3.mono HB2.out.size))
        clear hR3 hiff hb3 hxl3 HX2 HDG HVC HBM2 HB2 hcell2
        go_wp2
        go_loop [23, 25, 115] (fun y _ i => ∃ q : Nat, q ≤ xs.length ∧ i = .int .i64 q ∧ y = .int .i64 (((xs.take q).countP (M.holds s ·) : Nat) : Int)) (fun _ _ i => xs.length - (intOf i).toNat)
        case atStart => exact ⟨0, Nat.zero_le _, rfl, rfl⟩
        case round =>
          obtain ⟨q, hq, rfl, rfl⟩ := hrel
          by_cases hql : q < xs.length
          · obtain ⟨y, hy⟩ : ∃ y, xs[q]? = some y := ⟨_, List.getElem?_eq_getElem hql⟩
            obtain ⟨g3, a4', e4, hcell4, hob4⟩ := HR3.out.cellN hy
            subst e4
            have hby := hob4.bools (by have := HXL3.out y (List.mem_of_getElem? hy); omega)
            have hho := rholds_any s a4' y.length y w3 hby
            have hcn : (xs.take (q + 1)).countP (M.holds s ·) = (xs.take q).countP (M.holds s ·) + (if M.holds s y then 1 else 0) := by
              rw [List.take_add_one, hy]; simp [List.countP_append, List.countP_cons]
            have HCN := Lib.hid hcn
            clear hy hob4 hby hcn
            obtain ⟨cn, hcn⟩ : ∃ cn, cn = (xs.take q).countP (M.holds s ·) := ⟨_, rfl⟩
            have hcl : cn ≤ 2 := by
              have := List.countP_le_length (p := (M.holds s ·)) (l := xs.take q)
              rw [List.length_take] at this
              omega
            rw [← hcn] at HCN ⊢
            clear hcn
            cases hh : M.holds s y
            · rw [hh] at HCN hho
              have HHO := Lib.hid hho
              clear hh hho
              go_wp2_with (go_at_call 46; refine HHO.out.mono ?_; rintro e w' ⟨rfl, rfl⟩)
              go_round
              case rel => exact ⟨q + 1, by omega, by go_num, by rw [HCN.out]; rfl⟩
              case measure => simp [intOf]; omega
            · rw [hh] at HCN hho
              have HHO := Lib.hid hho
              clear hh hho
              go_wp2_with (go_at_call 46; refine HHO.out.mono ?_; rintro e w' ⟨rfl, rfl⟩)
              go_round
              case rel => exact ⟨q + 1, by omega, by go_num, by rw [HCN.out]; go_num⟩
              case measure => simp [intOf]; omega
          · obtain rfl : q = xs.length := by omega
            have hct : 0 < (xs.take xs.length).countP (M.holds s ·) ↔ (vl : Int) ≤ k := by
              rw [List.take_length, ← HIF.out, List.countP_pos_iff]
            obtain ⟨cn, hcn⟩ : ∃ cn, cn = (xs.take xs.length).countP (M.holds s ·) := ⟨_, rfl⟩
            rw [← hcn] at hct ⊢
            clear hcn
            by_cases hv : (vl : Int) ≤ k
            · have hp : 0 < cn := hct.2 hv
              clear hct
              go_wp2
              go_roundw
              case rel => exact ⟨j + 1, by omega, by go_num, HB3.out⟩
              case measure => simp [intOf]; omega
            · have hp : ¬ 0 < cn := fun h => hv (hct.1 h)
              clear hct
              go_wp2
              go_roundw
              case rel => exact ⟨j + 1, by omega, by go_num, HB3.out⟩
              case measure => simp [intOf]; omega
      · obtain rfl : j = N := by omega
        go_wp2
        go_ret
        exact ⟨rfl, HBE2.out.trans (HBR.out.mono HBE2.out.size)⟩
end Go.Proofs.YtllkeojkejbbeaaDoor
