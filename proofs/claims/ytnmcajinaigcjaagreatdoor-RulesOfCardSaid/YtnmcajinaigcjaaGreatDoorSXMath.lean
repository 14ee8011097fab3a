/- Plain: the models that propagation and trying find; at most k as clauses. -/
import Derived.Test.YtnmcajinaigcjaaGreatDoorSPlAll
namespace Go.Proofs.YtnmcajinaigcjaaGreatDoor.C.M

/-! ### how many literals a sorted list has -/
def key (z : Int) : Int := 2 * vr z + (if 0 < z then 1 else 0)
theorem key_less {a b : Int} (h : less a b = true) : key a < key b := by
  rw [less_iff] at h
  unfold key vr at *
  split at h <;> split at h <;> (repeat' split) <;> omega
theorem sorted_room : ∀ {l : List Int} {lo hi : Int}, Sorted l → (∀ x ∈ l, lo ≤ key x ∧ key x < hi) → l ≠ [] → lo + l.length ≤ hi
  | [], _, _, _, _, h => absurd rfl h
  | [x], lo, hi, _, h, _ => by
    have := h x (by simp)
    simp; omega
  | x :: y :: r, lo, hi, hs, h, _ => by
    obtain ⟨h1, h2⟩ := List.pairwise_cons.1 hs
    have ih := sorted_room (lo := key x + 1) (hi := hi) h2 (fun z hz => ⟨by have := key_less (h1 z hz); omega, (h z (List.mem_cons_of_mem _ hz)).2⟩) (by simp)
    have := h x (by simp)
    simp only [List.length_cons] at ih ⊢
    omega
theorem own_room {V : Nat} {l : List Int} (hs : Sorted l) (ho : own V l = true) : l.length ≤ 2 * V := by
  by_cases h : l = []
  · subst h; simp
  · have := sorted_room (lo := 2) (hi := 2 * V + 2) hs (fun x hx => by
      have h1 := (own_iff _ _).1 ho x hx
      unfold key vr
      repeat' split
      all_goals omega) h
    omega
theorem own_mem {V : Nat} {l : List Int} {z : Int} (ho : own V l = true) (h : z ∈ l) : own V [z] = true :=
  (own_iff _ _).2 fun y hy => by simp at hy; subst hy; exact (own_iff _ _).1 ho _ h
theorem own_of {V : Nat} {l : List Int} (h : ∀ z ∈ l, own V [z] = true) : own V l = true :=
  (own_iff _ _).2 fun y hy => (own_iff _ _).1 (h y hy) y (by simp)
theorem own_neg1 {V : Nat} {z : Int} (h : own V [z] = true) : own V [-z] = true := by
  have := (own_iff _ _).1 h z (by simp)
  exact (own_iff _ _).2 fun y hy => by simp at hy; subst hy; omega
theorem der_own {cs : List (List Int)} {fr : List Int} {V : Nat} (hc : ∀ c ∈ cs, own V c = true) (hf : own V fr = true) {z : Int} (h : Der cs fr z) : own V [z] = true :=
  h (fun z => own V [z] = true) ⟨fun _ hl _ => own_mem hf hl, fun _ hcc _ hl _ _ => own_mem (hc _ hcc) hl⟩
theorem der_mono {cs cs' : List (List Int)} {fr fr' : List Int} (h1 : ∀ c ∈ cs, c ∈ cs') (h2 : ∀ z ∈ fr, isLit z = true → Der cs' fr' z) {z : Int} (h : Der cs fr z) : Der cs' fr' z :=
  h _ ⟨h2, fun c hc l hl hil hk => (der_closed cs' fr').2 c (h1 c hc) l hl hil hk⟩
theorem derF {cs : List (List Int)} {fr : List Int} {x : Int} (hx : x ∈ fr) (hl : isLit x = true) : Der cs fr x := (der_closed cs fr).1 x hx hl
/-! ### what is not set -/
def isUn (l : List Int) (i : Nat) : Bool := !(inn l ((i : Int) + 1)) && !(inn l (-((i : Int) + 1)))
def un (V : Nat) (l : List Int) : Nat := (List.range V).countP (isUn l)
theorem countP_lt {α : Type} {p q : α → Bool} : ∀ {L : List α} {a : α}, (∀ x ∈ L, p x = true → q x = true) → a ∈ L → q a = true → p a = false → L.countP p < L.countP q
  | [], a, _, h, _, _ => by simp at h
  | y :: L, a, h, ha, hq, hp => by
    rw [List.countP_cons, List.countP_cons]
    have hle : L.countP p ≤ L.countP q := List.countP_mono_left fun x hx => h x (List.mem_cons_of_mem _ hx)
    rcases List.mem_cons.1 ha with rfl | ha
    · rw [hq, hp]; simp; omega
    · have ih := countP_lt (fun x hx => h x (List.mem_cons_of_mem _ hx)) ha hq hp
      have := h y (by simp)
      cases hpy : p y
      · simp; split <;> omega
      · rw [this hpy]; simp; omega
/-- just the models of so many variables with which literals and clauses are true -/
def XR (cs : List (List Int)) (V : Nat) (fr : List Int) (xs : List (List Bool)) : Prop :=
  ∀ x, x ∈ xs ↔ x.length = V ∧ (∀ z ∈ fr, holds z x = true) ∧ allTrue cs x = true
def setM (V : Nat) (l : List Int) : List Bool := (List.range V).map fun (i : Nat) => inn l ((i : Int) + 1)
theorem setM_length (V : Nat) (l : List Int) : (setM V l).length = V := by simp [setM]
section
variable {cs : List (List Int)} {V : Nat} {fr l : List Int}
theorem PropRes.yes (h : PropRes cs fr l true) : Sorted l ∧ (∀ x, x ∈ l ↔ Der cs fr x) ∧ ¬ Conf cs fr := by
  rcases h with ⟨_, h1, h2, h3⟩ | ⟨h, _⟩
  · exact ⟨h1, h2, h3⟩
  · cases h
theorem PropRes.noC (h : PropRes cs fr l false) : Conf cs fr := by
  rcases h with ⟨h, _⟩ | ⟨_, _, h⟩
  · cases h
  · exact h
theorem PropRes.own (h : PropRes cs fr l true) (hc : ∀ c ∈ cs, own V c = true) (hf : own V fr = true) : M.own V l = true :=
  own_of fun z hz => der_own hc hf ((h.yes.2.1 z).1 hz)
theorem leaf_no (h : Conf cs fr) : XR cs V fr [] := fun x => ⟨fun hx => by simp at hx, fun hx => (conf_false hx.2.2 (fun z hz _ => hx.2.1 z hz) h).elim⟩
theorem set_holds (hV : V ≤ 20000) (h : PropRes cs fr l true) (hu : ∀ i, i < V → isUn l i = false) {z : Int} (hz : M.own V [z] = true) : holds z (setM V l) = true ↔ z ∈ l := by
  obtain ⟨_, hd, hn⟩ := h.yes
  have hz' := (own_iff _ _).1 hz z (by simp)
  have hpos : ∀ i : Nat, i < V → holds ((i + 1 : Nat) : Int) (setM V l) = inn l ((i : Int) + 1) := fun i hi => by
    rw [holds_pos (by omega)]; simp [setM, hi]
  have hcon : ∀ y, y ∈ l → -y ∈ l → False := fun y h1 h2 => hn (.inl ⟨y, (hd y).1 h1, (hd _).1 h2⟩)
  rcases Int.lt_or_gt_of_ne hz'.1 with h1 | h1
  · obtain ⟨i, rfl⟩ : ∃ i : Nat, z = -((i + 1 : Nat) : Int) := ⟨(-z - 1).toNat, by omega⟩
    have hi : i < V := by omega
    have hl : isLit ((i + 1 : Nat) : Int) = true := by rw [isLit_iff]; omega
    rw [holds_neg _ hl, hpos i hi]
    have e : ((i : Int) + 1) = ((i + 1 : Nat) : Int) := by omega
    have h2 := hu i hi
    unfold isUn at h2
    rw [e] at h2 ⊢
    rw [← inn_iff]
    cases h3 : inn l ((i + 1 : Nat) : Int)
    · rw [h3] at h2
      simp at h2
      simp [h2]
    · cases h4 : inn l (-((i + 1 : Nat) : Int))
      · simp
      · exact (hcon _ ((inn_iff _ _).1 h3) ((inn_iff _ _).1 h4)).elim
  · obtain ⟨i, rfl⟩ : ∃ i : Nat, z = ((i + 1 : Nat) : Int) := ⟨(z - 1).toNat, by omega⟩
    rw [hpos i (by omega)]
    have e : ((i : Int) + 1) = ((i + 1 : Nat) : Int) := by omega
    rw [e, inn_iff]
theorem leaf_yes (hV : V ≤ 20000) (hc : ∀ c ∈ cs, M.own V c = true) (hf : M.own V fr = true) (h : PropRes cs fr l true) (hu : ∀ i, i < V → isUn l i = false) : XR cs V fr [setM V l] := by
  obtain ⟨_, hd, hn⟩ := h.yes
  intro x
  constructor
  · intro hx
    rw [List.mem_singleton] at hx
    subst hx
    refine ⟨setM_length V l, fun z hz => ?_, ?_⟩
    · have hz1 := own_mem hf hz
      exact (set_holds hV h hu hz1).2 ((hd z).2 (derF hz (own_isLit hV hz1 z (by simp))))
    · unfold allTrue
      rw [List.all_eq_true]
      intro c hcc
      refine Classical.byContradiction fun hno => hn (.inr ⟨c, hcc, fun k hk hkl => ?_⟩)
      have hk1 := own_mem (hc c hcc) hk
      refine (hd _).1 ((set_holds hV h hu (own_neg1 hk1)).1 ?_)
      rw [holds_neg _ hkl]
      cases hh : holds k (setM V l)
      · rfl
      · exact absurd (List.any_eq_true.2 ⟨k, hk, hh⟩) hno
  · rintro ⟨h1, h2, h3⟩
    rw [List.mem_singleton]
    refine List.ext_getElem? fun i => ?_
    by_cases hi : i < V
    · have hi2 : i < x.length := by omega
      have hl : isLit ((i + 1 : Nat) : Int) = true := by rw [isLit_iff]; omega
      have e : ((i : Int) + 1) = ((i + 1 : Nat) : Int) := by omega
      have hx : x[i]? = some (holds ((i + 1 : Nat) : Int) x) := by rw [holds_pos (by omega), List.getElem?_eq_getElem hi2]; rfl
      have hs : (setM V l)[i]? = some (inn l ((i : Int) + 1)) := by simp [setM, hi]
      rw [hx, hs]
      refine congrArg some ?_
      have h4 := hu i hi
      unfold isUn at h4
      rw [e] at h4 ⊢
      cases h5 : inn l ((i + 1 : Nat) : Int)
      · rw [h5] at h4
        have h6 : inn l (-((i + 1 : Nat) : Int)) = true := by simpa using h4
        have h7 := der_true h3 (fun z hz _ => h2 z hz) ((hd _).1 ((inn_iff _ _).1 h6))
        rw [holds_neg _ hl] at h7
        simpa using h7
      · exact der_true h3 (fun z hz _ => h2 z hz) ((hd _).1 ((inn_iff _ _).1 h5))
    · rw [List.getElem?_eq_none (by omega), List.getElem?_eq_none (by rw [setM_length]; omega)]
theorem node (hV : V ≤ 20000) (hf : M.own V fr = true) (h : PropRes cs fr l true) {v : Int} (hv : M.own V [v] = true) {xa xb : List (List Bool)} (ha : XR cs V (l ++ [v]) xa) (hb : XR cs V (l ++ [-v]) xb) : XR cs V fr (xa ++ xb) := by
  obtain ⟨_, hd, _⟩ := h.yes
  have hfl : ∀ z ∈ fr, z ∈ l := fun z hz => (hd z).2 (derF hz (own_isLit hV hf z hz))
  intro x
  rw [List.mem_append, ha x, hb x]
  constructor
  · rintro (⟨h1, h2, h3⟩ | ⟨h1, h2, h3⟩)
    · exact ⟨h1, fun z hz => h2 z (List.mem_append_left _ (hfl z hz)), h3⟩
    · exact ⟨h1, fun z hz => h2 z (List.mem_append_left _ (hfl z hz)), h3⟩
  · rintro ⟨h1, h2, h3⟩
    have h4 : ∀ z ∈ l, holds z x = true := fun z hz => der_true h3 (fun z hz _ => h2 z hz) ((hd z).1 hz)
    cases hh : holds v x
    · refine .inr ⟨h1, fun z hz => ?_, h3⟩
      rcases List.mem_append.1 hz with hz | hz
      · exact h4 z hz
      · simp at hz; subst hz
        rw [holds_neg _ (own_isLit hV hv v (by simp)), hh]; rfl
    · refine .inl ⟨h1, fun z hz => ?_, h3⟩
      rcases List.mem_append.1 hz with hz | hz
      · exact h4 z hz
      · simp at hz; subst hz; exact hh
theorem un_next {l' : List Int} {i : Nat} {z : Int} (h : PropRes cs (l ++ [z]) l' true) (hl : ∀ x ∈ l, isLit x = true) (hi : i < V) (hu : isUn l i = true) (hz : z = (i : Int) + 1 ∨ z = -((i : Int) + 1)) (hzl : isLit z = true) : un V l' < un V l := by
  obtain ⟨_, hd, _⟩ := h.yes
  have hin : ∀ x ∈ l, x ∈ l' := fun x hx => (hd x).2 (derF (List.mem_append_left _ hx) (hl x hx))
  have hz' : z ∈ l' := (hd z).2 (derF (by simp) hzl)
  refine countP_lt (fun j _ hj => ?_) (List.mem_range.2 hi) hu ?_
  · unfold isUn at hj ⊢
    simp only [Bool.and_eq_true, Bool.not_eq_true', inn_false] at hj ⊢
    exact ⟨fun h1 => hj.1 (hin _ h1), fun h1 => hj.2 (hin _ h1)⟩
  · unfold isUn
    rcases hz with e | e
    · rw [e] at hz'
      rw [(inn_iff _ _).2 hz']; rfl
    · rw [e] at hz'
      rw [(inn_iff l' (-((i : Int) + 1))).2 hz']; simp
end
/-! ### at most k -/
def amC (zs : List Int) (k : Nat) (ys : List Int) : Nat → List (List Int)
  | 0 => []
  | j + 1 => if k.testBit j then amC zs k (ys ++ [-(zs.getD j 0)]) j else ([-(zs.getD j 0)] ++ ys) :: amC zs k ys j
def amAll (zs : List Int) (k s : Int) : List (List Int) :=
  if k < 0 then [[-s]] else if 0 < k / 2 ^ zs.length then [] else amC zs k.toNat [-s] zs.length
theorem tru_append (a b : List Int) (m : List Bool) : tru (a ++ b) m = (tru a m || tru b m) := by simp [tru]
theorem tru_one (z : Int) (m : List Bool) : tru [z] m = holds z m := by simp [tru]
theorem amC_true {zs : List Int} (k : Nat) (x : List Bool) (hz : ∀ z ∈ zs, isLit z = true) : ∀ (m : Nat) (ys : List Int), m ≤ zs.length → allTrue (amC zs k ys m) x = (tru ys x || decide (num ((zs.take m).map (holds · x)) ≤ k % 2 ^ m)) := by
  intro m
  induction m with
  | zero => intro ys _; simp [amC, allTrue, num]
  | succ j ih =>
    intro ys hj
    have hzj : zs[j]? = some zs[j] := List.getElem?_eq_getElem (by omega)
    have hg : zs.getD j 0 = zs[j] := by rw [List.getD_eq_getElem?_getD, hzj]; rfl
    have hl := hz zs[j] (List.getElem_mem _)
    have hn : num ((zs.take (j + 1)).map (holds · x)) = num ((zs.take j).map (holds · x)) + (if holds zs[j] x then 2 ^ j else 0) := by
      have := num_snoc (ds := zs.map (holds · x)) (k := j) (b := holds zs[j] x) (by rw [List.getElem?_map, hzj]; rfl)
      rw [List.map_take, List.map_take]; exact this
    have hlt : num ((zs.take j).map (holds · x)) < 2 ^ j := by
      have := num_lt ((zs.take j).map (holds · x))
      rwa [List.length_map, List.length_take, Nat.min_eq_left (by omega)] at this
    have hm : k % 2 ^ (j + 1) = k % 2 ^ j + 2 ^ j * (k.testBit j).toNat := by
      rw [Nat.mod_pow_succ, Nat.toNat_testBit]
    have hml : k % 2 ^ j < 2 ^ j := Nat.mod_lt _ (Nat.two_pow_pos j)
    rw [hn, hm, amC, hg]
    clear hn hm
    have key : ∀ (A B P : Nat) (t h b : Bool), A < P → B < P → (((t || !h) || decide (A ≤ B)) = (t || decide (A + (if h then P else 0) ≤ B + P * 1))) ∧ ((((!h) || t) && (t || decide (A ≤ B))) = (t || decide (A + (if h then P else 0) ≤ B + P * 0))) := by
      intro A B P t h b hA hB
      cases t <;> cases h <;> simp <;> omega
    have hk := key _ _ _ (tru ys x) (holds zs[j] x) true hlt hml
    cases hb : k.testBit j
    · rw [if_neg (by simp)]
      rw [show allTrue (([-zs[j]] ++ ys) :: amC zs k ys j) x = (tru ([-zs[j]] ++ ys) x && allTrue (amC zs k ys j) x) from rfl]
      rw [ih ys (by omega), tru_append, tru_one, holds_neg _ hl]
      exact hk.2
    · rw [if_pos rfl, ih _ (by omega), tru_append, tru_one, holds_neg _ hl]
      exact hk.1
theorem amAll_true {zs : List Int} {k s : Int} (x : List Bool) (hz : ∀ z ∈ zs, isLit z = true) (hs : isLit s = true) : allTrue (amAll zs k s) x = true ↔ (holds s x = false ∨ (num (zs.map (holds · x)) : Int) ≤ k) := by
  have hlt : num (zs.map (holds · x)) < 2 ^ zs.length := by
    have := num_lt (zs.map (holds · x))
    rwa [List.length_map] at this
  unfold amAll
  by_cases h1 : k < 0
  · rw [if_pos h1]
    simp only [allTrue, List.all_cons, List.all_nil, Bool.and_true, tru_one, holds_neg _ hs]
    simp
    omega
  · rw [if_neg h1]
    obtain ⟨n, rfl⟩ : ∃ n : Nat, k = n := ⟨k.toNat, by omega⟩
    have e : ((n : Int) / 2 ^ zs.length) = ((n / 2 ^ zs.length : Nat) : Int) := by simp
    rw [e]
    by_cases h2 : 0 < ((n / 2 ^ zs.length : Nat) : Int)
    · rw [if_pos h2]
      have h3 : 2 ^ zs.length ≤ n := by
        refine Classical.byContradiction fun hno => ?_
        rw [Nat.div_eq_of_lt (by omega)] at h2
        omega
      simp only [allTrue, List.all_nil, true_iff]
      right; omega
    · rw [if_neg h2, amC_true (Int.toNat n) x hz zs.length _ (Nat.le_refl _), List.take_length, tru_one, holds_neg _ hs]
      have h3 : n < 2 ^ zs.length := by
        refine Classical.byContradiction fun hno => ?_
        have := Nat.div_pos (a := n) (b := 2 ^ zs.length) (by omega) (Nat.two_pow_pos _)
        omega
      rw [Int.toNat_natCast, Nat.mod_eq_of_lt h3]
      cases holds s x <;> simp
theorem amC_own {V : Nat} {zs : List Int} (k : Nat) (hz : own V zs = true) : ∀ (m : Nat) (ys : List Int), m ≤ zs.length → own V ys = true → (∀ c ∈ amC zs k ys m, own V c = true) ∧ (amC zs k ys m).length ≤ m ∧ ∀ c ∈ amC zs k ys m, c.length ≤ ys.length + m := by
  intro m
  induction m with
  | zero => intro ys _ _; simp [amC]
  | succ j ih =>
    intro ys hj hy
    have hzj : zs[j]? = some zs[j] := List.getElem?_eq_getElem (by omega)
    have hg : zs.getD j 0 = zs[j] := by rw [List.getD_eq_getElem?_getD, hzj]; rfl
    have h1 : own V [-zs[j]] = true := own_neg1 (own_mem hz (List.getElem_mem _))
    rw [amC, hg]
    split
    · obtain ⟨a1, a2, a3⟩ := ih (ys ++ [-zs[j]]) (by omega) (own_append.2 ⟨hy, h1⟩)
      exact ⟨a1, by omega, fun c hc => by have := a3 c hc; simp at this; omega⟩
    · obtain ⟨a1, a2, a3⟩ := ih ys (by omega) hy
      refine ⟨fun c hc => ?_, by simp; exact a2, fun c hc => ?_⟩
      · rcases List.mem_cons.1 hc with rfl | hc
        · exact own_append.2 ⟨h1, hy⟩
        · exact a1 c hc
      · rcases List.mem_cons.1 hc with rfl | hc
        · simp
        · have := a3 c hc; omega
theorem amAll_own {V : Nat} {zs : List Int} {k s : Int} (hz : own V zs = true) (hs : own V [s] = true) : (∀ c ∈ amAll zs k s, own V c = true) ∧ (amAll zs k s).length ≤ zs.length + 1 ∧ ∀ c ∈ amAll zs k s, c.length ≤ zs.length + 1 := by
  unfold amAll
  split
  · exact ⟨fun c hc => by simp at hc; subst hc; exact own_neg1 hs, by simp, fun c hc => by simp at hc; subst hc; simp⟩
  · split
    · simp
    · obtain ⟨a1, a2, a3⟩ := amC_own k.toNat hz zs.length [-s] (Nat.le_refl _) (own_neg1 hs)
      exact ⟨a1, by omega, fun c hc => by have := a3 c hc; simp at this; omega⟩
/-! ### the two questions of the law -/
theorem own_norm {V : Nat} {l : List Int} (h : own V l = true) : own V (norm l) = true :=
  own_of fun z hz => own_mem h ((mem_norm l z).1 hz)
theorem gatesC_own {V : Nat} : ∀ {gs : List G}, Gok V gs → V + gs.length ≤ 20000 → ∀ c ∈ gatesC V gs, own (V + gs.length) c = true := by
  intro gs
  generalize hn : gs.length = n
  induction n generalizing gs with
  | zero => intro _ _ c hc; rw [List.eq_nil_of_length_eq_zero hn] at hc; simp [gatesC] at hc
  | succ n ih =>
    intro h hV c hc
    rcases List.eq_nil_or_concat gs with rfl | ⟨gs', g, rfl⟩
    · simp at hn
    · rw [List.concat_eq_append] at *
      have hn' : gs'.length = n := by simpa using hn
      have hk : Gok V gs' := fun i g' hg => h i g' (by rw [List.getElem?_append_left (List.getElem?_eq_some_iff.1 hg).1]; exact hg)
      rw [gatesC_snoc] at hc
      rcases addCs_from hc with hc | ⟨d, hd, rfl⟩
      · exact own_mono (by omega) (ih hn' hk (by omega) c hc)
      · obtain ⟨ho, hf⟩ := h gs'.length g (by simp)
        have hvr := gateC_vr (N := V + gs'.length) hf.1 hf.2 (own_vr ho) d hd
        have hlit := gateC_lits (g := ((V + gs'.length + 1 : Nat) : Int)) (by rw [isLit_iff]; omega) (own_isLit (vars := V + gs'.length) (by omega) ho) hf.1 hf.2 d hd
        refine own_norm (own_of fun z hz => ?_)
        have h1 := vr_bd (hvr z hz)
        have h2 := (isLit_iff z).1 (hlit z hz)
        exact (own_iff _ _).2 fun y hy => by simp at hy; subst hy; omega
theorem frm_own {m : List Bool} : own m.length (frm m) = true :=
  own_of fun z hz => by
    simp only [frm, List.mem_map, List.mem_range] at hz
    obtain ⟨i, hi, rfl⟩ := hz
    refine (own_iff _ _).2 fun y hy => ?_
    simp at hy; subst hy
    unfold lit1; split <;> omega
theorem frm_len (m : List Bool) : (frm m).length = m.length := by simp [frm]
theorem un_zero {V : Nat} {l : List Int} (h : ∀ i, i < V → isUn l i = false) : un V l = 0 := by
  unfold un
  rw [List.countP_eq_zero]
  intro i hi
  rw [h i (List.mem_range.1 hi)]; simp
theorem un_one {V : Nat} {l : List Int} (h : ∀ i, i < V → isUn l i = false) : un (V + 1) l ≤ 1 := by
  unfold un
  rw [List.range_succ, List.countP_append]
  have := un_zero h
  unfold un at this
  rw [this]
  simp [List.countP_cons]
  split <;> omega
section
variable {V : Nat} {gs : List G} {m : List Bool}
theorem frm_ext (hV : V + gs.length ≤ 20000) (hm : m.length = V) {z : Int} (hz : z ∈ frm m) (k : List Bool) : holds z (m ++ k) = true := by
  simp only [frm, List.mem_map, List.mem_range] at hz
  obtain ⟨i, hi, rfl⟩ := hz
  exact holds_lit1 hi (by omega)
theorem set_all (h : Gok V gs) (hV : V + gs.length ≤ 20000) (hm : m.length = V) {i : Nat} (hi : i < V + gs.length) : Der (gatesC V gs) (frm m) ((i : Int) + 1) ∨ Der (gatesC V gs) (frm m) (-((i : Int) + 1)) := by
  have ho : own (V + gs.length) [(i : Int) + 1] = true := (own_iff _ _).2 fun y hy => by simp at hy; subst hy; omega
  have hl : isLit ((i : Int) + 1) = true := by rw [isLit_iff]; omega
  cases hh : holds ((i : Int) + 1) (ext m gs)
  · exact .inr (holds_der h hV hm gs.length (Nat.le_refl _) _ (own_neg1 ho) (by rw [holds_neg _ hl, hh]; rfl))
  · exact .inl (holds_der h hV hm gs.length (Nat.le_refl _) _ ho hh)
theorem un_of (h : Gok V gs) (hV : V + gs.length ≤ 20000) (hm : m.length = V) {cs : List (List Int)} (hc : ∀ c ∈ gatesC V gs, c ∈ cs) {l : List Int} (hp : PropRes cs (frm m) l true) {i : Nat} (hi : i < V + gs.length) : isUn l i = false := by
  obtain ⟨_, hd, _⟩ := hp.yes
  have mono : ∀ {z : Int}, Der (gatesC V gs) (frm m) z → z ∈ l := fun hz => (hd _).2 (der_mono hc (fun z hz hl => derF hz hl) hz)
  unfold isUn
  rcases set_all h hV hm hi with h1 | h1
  · rw [(inn_iff _ _).2 (mono h1)]; rfl
  · rw [(inn_iff l (-((i : Int) + 1))).2 (mono h1)]; simp
theorem on_one (h : Gok V gs) (hV : V + gs.length ≤ 20000) (hm : m.length = V) {xs : List (List Bool)} (hx : XR (gatesC V gs) (V + gs.length) (frm m) xs) (hl : xs.length ≤ 1) : xs = [ext m gs] := by
  have hin : ext m gs ∈ xs := (hx _).2 ⟨by rw [ext_length, hm], fun z hz => by
    obtain ⟨k, e⟩ := ext_eq m gs
    rw [e]; exact frm_ext hV hm hz k, gates_hold h hV m hm⟩
  match xs, hl, hin with
  | [x], _, hin => simp at hin; rw [hin]
theorem own_holds {V : Nat} {cs : List (List Int)} {x y : List Bool} (hc : ∀ c ∈ cs, own V c = true) (hxy : ∀ z, own V [z] = true → holds z x = holds z y) : allTrue cs x = allTrue cs y := by
  rw [Bool.eq_iff_iff]
  simp only [allTrue, List.all_eq_true, tru, List.any_eq_true]
  constructor
  · intro h c hcc
    obtain ⟨z, hz, h1⟩ := h c hcc
    exact ⟨z, hz, by rw [← hxy z (own_mem (hc c hcc) hz)]; exact h1⟩
  · intro h c hcc
    obtain ⟨z, hz, h1⟩ := h c hcc
    exact ⟨z, hz, by rw [hxy z (own_mem (hc c hcc) hz)]; exact h1⟩
theorem yes_iff (h : Gok V gs) (hV : V + gs.length + 1 ≤ 20000) (hm : m.length = V) {bits : List Int} (hb : own (V + gs.length) bits = true) {k s : Int} (hs : s = ((V + gs.length + 1 : Nat) : Int)) {xs : List (List Bool)}
    (hx : XR ((amAll bits k s).foldl addC (gatesC V gs)) (V + gs.length + 1) (frm m) xs) : (∃ x ∈ xs, holds s x = true) ↔ (num (bits.map (holds · (ext m gs))) : Int) ≤ k := by
  have hsl : isLit s = true := by rw [isLit_iff]; omega
  have hs1 : own (V + gs.length + 1) [s] = true := by rw [hs]; exact own_new _
  have hbl := own_isLit (vars := V + gs.length) (by omega) hb
  obtain ⟨a1, _, _⟩ := amAll_own (k := k) (own_mono (Nat.le_succ _) hb) hs1
  have hal : ∀ x, allTrue ((amAll bits k s).foldl addC (gatesC V gs)) x = true ↔ allTrue (gatesC V gs) x = true ∧ (holds s x = false ∨ (num (bits.map (holds · x)) : Int) ≤ k) := fun x => by
    rw [allTrue_addCs _ _ (fun c hc => own_isLit (by omega) (a1 c hc)), Bool.and_eq_true, amAll_true x hbl hsl]
  have hnum : ∀ x, (∀ z, own (V + gs.length) [z] = true → holds z (ext m gs) = holds z x) → num (bits.map (holds · x)) = num (bits.map (holds · (ext m gs))) := fun x hh => by
    congr 1
    exact List.map_congr_left fun z hz => (hh z (own_mem hb hz)).symm
  constructor
  · rintro ⟨x, hxx, hsx⟩
    obtain ⟨h1, h2, h3⟩ := (hx x).1 hxx
    obtain ⟨h4, h5⟩ := (hal x).1 h3
    have hh : ∀ z, own (V + gs.length) [z] = true → holds z (ext m gs) = holds z x := fun z hz => by
      have hzl := own_isLit (vars := V + gs.length) (by omega) hz z (by simp)
      have key : ∀ z, own (V + gs.length) [z] = true → holds z (ext m gs) = true → holds z x = true := fun z hz hh =>
        der_true h4 (fun z hz _ => h2 z hz) (holds_der h (by omega) hm gs.length (Nat.le_refl _) z hz hh)
      cases h6 : holds z (ext m gs)
      · have := key (-z) (own_neg1 hz) (by rw [holds_neg _ hzl, h6]; rfl)
        rw [holds_neg _ hzl] at this
        simpa using this.symm
      · exact (key z hz h6).symm
    rw [hsx, hnum x hh] at h5
    simpa using h5
  · intro hk
    have hel : (ext m gs).length = V + gs.length := by rw [ext_length, hm]
    have hh : ∀ z, own (V + gs.length) [z] = true → holds z (ext m gs) = holds z (ext m gs ++ [true]) := fun z hz => (holds_append _ _ (by rw [hel]; exact own_vr hz z (by simp))).symm
    refine ⟨ext m gs ++ [true], (hx _).2 ⟨by simp [hel], fun z hz => ?_, (hal _).2 ⟨?_, .inr (by rw [hnum _ hh]; exact hk)⟩⟩, ?_⟩
    · obtain ⟨k, e⟩ := ext_eq m gs
      rw [e, List.append_assoc]; exact frm_ext (gs := gs) (by omega) hm hz _
    · rw [← own_holds (gatesC_own h (by omega)) hh]; exact gates_hold h (by omega) m hm
    · rw [hs, holds_pos (by omega), List.getElem?_append_right (by omega), hel]; simp
end
end Go.Proofs.YtnmcajinaigcjaaGreatDoor.C.M
