/- Propagation: the plain facts that the walk of lits.Propagate leans on. -/
import Derived.Test.YtdppmmimemmedaaDoorOccW
namespace Go.Proofs.YtdppmmimemmedaaDoor.M

/-- how many of a clause's literals are not refuted by S -/
def lf (S c : List Int) : Int := (c.length : Int) - ((c.filter fun l => decide (-l ∈ S)).length : Int)
theorem filter_two {P : Int → Bool} : ∀ {c : List Int}, c.Nodup → ∀ {x y : Int}, x ∈ c → y ∈ c → x ≠ y → P x = false → P y = false → (c.filter P).length + 2 ≤ c.length
  | [], _, _, _, hx, _, _, _, _ => by simp at hx
  | a :: l, hn, x, y, hx, hy, hne, px, py => by
    obtain ⟨hal, hl⟩ := List.nodup_cons.1 hn
    have one : ∀ {l : List Int} {z : Int}, z ∈ l → P z = false → (l.filter P).length + 1 ≤ l.length := by
      intro l z hz pz
      have h := List.length_filter_lt_length_iff_exists (p := P) (l := l)
      exact h.2 ⟨z, hz, by simp [pz]⟩
    rcases List.mem_cons.1 hx with rfl | hx'
    · have hy' : y ∈ l := by
        rcases List.mem_cons.1 hy with rfl | h
        · exact absurd rfl hne
        · exact h
      have := one hy' py
      rw [List.filter_cons, if_neg (by simp [px])]; simp; omega
    · rcases List.mem_cons.1 hy with rfl | hy'
      · have := one hx' px
        rw [List.filter_cons, if_neg (by simp [py])]; simp; omega
      · have := filter_two hl hx' hy' hne px py
        rw [List.filter_cons]
        split <;> simp <;> omega
theorem two_of_filter {P : Int → Bool} : ∀ {c : List Int}, c.Nodup → (c.filter P).length + 2 ≤ c.length → ∃ x ∈ c, ∃ y ∈ c, x ≠ y ∧ P x = false ∧ P y = false
  | [], _, h => by simp at h
  | a :: l, hn, h => by
    obtain ⟨hal, hl⟩ := List.nodup_cons.1 hn
    cases pa : P a
    · rw [List.filter_cons, if_neg (by simp [pa])] at h
      have h1 : (l.filter P).length < l.length := by simp at h; omega
      obtain ⟨y, hy, py⟩ := List.length_filter_lt_length_iff_exists.1 h1
      exact ⟨a, by simp, y, by simp [hy], fun e => hal (e ▸ hy), pa, by simpa using py⟩
    · rw [List.filter_cons, if_pos pa] at h
      obtain ⟨x, hx, y, hy, r⟩ := two_of_filter hl (by simp at h; omega)
      exact ⟨x, by simp [hx], y, by simp [hy], r⟩
theorem lf_le {S c : List Int} (hn : c.Nodup) (h : lf S c ≤ 1) {x y : Int} (hx : x ∈ c) (hy : y ∈ c) (hne : y ≠ x) (hxs : -x ∉ S) : -y ∈ S := by
  cases hd : decide (-y ∈ S)
  · exfalso
    have := filter_two (P := fun l => decide (-l ∈ S)) hn hx hy (fun e => hne e.symm) (by simpa using hxs) hd
    unfold lf at h; omega
  · simpa using hd
theorem lf_two {S c : List Int} (hn : c.Nodup) (h : 2 ≤ lf S c) : ∃ x ∈ c, ∃ y ∈ c, x ≠ y ∧ -x ∉ S ∧ -y ∉ S := by
  obtain ⟨x, hx, y, hy, hne, px, py⟩ := two_of_filter (P := fun l => decide (-l ∈ S)) hn (by unfold lf at h; omega)
  exact ⟨x, hx, y, hy, hne, by simpa using px, by simpa using py⟩
theorem lf_nil (c : List Int) : lf [] c = c.length := by
  unfold lf
  have : (c.filter fun l => decide (-l ∈ ([] : List Int))) = [] := List.filter_eq_nil_iff.2 (fun l _ => by simp)
  rw [this]; simp
theorem lf_snoc_not {S c : List Int} {y : Int} (h : -y ∉ c) : lf (S ++ [y]) c = lf S c := by
  unfold lf
  have : (c.filter fun l => decide (-l ∈ S ++ [y])) = c.filter fun l => decide (-l ∈ S) := by
    refine List.filter_congr fun l hl => ?_
    have : -l ≠ y := fun e => h (by rw [← e, Int.neg_neg]; exact hl)
    simp [this]
  rw [this]
theorem lf_snoc {S c : List Int} {y : Int} (hn : c.Nodup) (h : -y ∈ c) (hy : y ∉ S) : lf (S ++ [y]) c = lf S c - 1 := by
  unfold lf
  have key : ∀ (c : List Int), c.Nodup → -y ∈ c → (c.filter fun l => decide (-l ∈ S ++ [y])).length = (c.filter fun l => decide (-l ∈ S)).length + 1 := by
    intro c
    induction c with
    | nil => intro _ h; simp at h
    | cons a l ih =>
      intro hn h
      obtain ⟨hal, hl⟩ := List.nodup_cons.1 hn
      rcases List.mem_cons.1 h with rfl | h'
      · have e1 : (l.filter fun z => decide (-z ∈ S ++ [y])) = l.filter fun z => decide (-z ∈ S) := by
          refine List.filter_congr fun z hz => ?_
          have : -z ≠ y := fun e => hal (by rw [← e, Int.neg_neg]; exact hz)
          simp [this]
        rw [List.filter_cons, List.filter_cons, if_pos (by simp), if_neg (by simpa using hy), e1]; simp
      · have hne : a ≠ -y := fun e => hal (e ▸ h')
        have hne' : -a ≠ y := fun e => hne (by rw [← e, Int.neg_neg])
        have e2 : decide (-a ∈ S ++ [y]) = decide (-a ∈ S) := by simp [hne']
        rw [List.filter_cons, List.filter_cons, e2]
        have := ih hl h'
        split
        · rw [List.length_cons, List.length_cons, this]
        · exact this
  rw [key c hn h]; omega

/-- what is set follows, and no two are opposed -/
structure PInv (cs : List (List Int)) (fr q : List Int) : Prop where
  der : ∀ z ∈ q, Der cs fr z
  con : ∀ z ∈ q, -z ∉ q
theorem PInv.nil (cs : List (List Int)) (fr : List Int) : PInv cs fr [] := ⟨fun _ h => by simp at h, fun _ h => by simp at h⟩
theorem PInv.add {cs : List (List Int)} {fr q : List Int} (h : PInv cs fr q) {x : Int} (hd : Der cs fr x) (hn : -x ∉ q) : PInv cs fr (M.add q x) := by
  have hx0 : x ≠ -x := fun e => by have := (isLit_iff x).1 (der_isLit hd); omega
  refine ⟨fun z hz => ?_, fun z hz hz' => ?_⟩
  · rcases (mem_add q x z).1 hz with rfl | hz
    · exact hd
    · exact h.der z hz
  · rcases (mem_add q x z).1 hz with rfl | hz
    · rcases (mem_add q z (-z)).1 hz' with e | hz'
      · exact hx0 e.symm
      · exact hn hz'
    · rcases (mem_add q x (-z)).1 hz' with e | hz'
      · exact hn (by rw [← e, Int.neg_neg]; exact hz)
      · exact h.con z hz hz'
theorem PInv.conf {cs : List (List Int)} {fr q : List Int} (h : PInv cs fr q) {x : Int} (hd : Der cs fr x) (hn : -x ∈ q) : Conf cs fr := .inl ⟨x, hd, h.der _ hn⟩
theorem der_from {cs : List (List Int)} {fr : List Int} {x : Int} (hx : x ∈ fr) (hl : isLit x = true) : Der cs fr x := (der_closed cs fr).1 x hx hl
/-- the one literal left -/
theorem PInv.last {cs : List (List Int)} {fr q c : List Int} (h : PInv cs fr q) (hc : c ∈ cs) {x : Int} (hx : x ∈ only c) (ho : ∀ y ∈ only c, y ≠ x → -y ∈ q) : Der cs fr x := by
  obtain ⟨h1, h2⟩ := (mem_only c x).1 hx
  exact (der_closed cs fr).2 c hc x h1 h2 fun k hk hl hne => h.der _ (ho k ((mem_only c k).2 ⟨hk, hl⟩) hne)
theorem PInv.none {cs : List (List Int)} {fr q c : List Int} (h : PInv cs fr q) (hc : c ∈ cs) (ho : ∀ y ∈ only c, -y ∈ q) : Conf cs fr :=
  .inr ⟨c, hc, fun l hl hk => h.der _ (ho l ((mem_only c l).2 ⟨hl, hk⟩))⟩
theorem nodup_only (c : List Int) : (only c).Nodup := (sorted_only c).imp fun {x y} h e => by rw [e, less_irrefl] at h; cases h
/-- the end -/
theorem PInv.done {cs : List (List Int)} {fr q : List Int} (h : PInv cs fr q) (hf : ∀ x ∈ fr, isLit x = true → x ∈ q) (hl : ∀ c ∈ cs, lf q (only c) ≤ 1 → ∃ x ∈ only c, x ∈ q) : PropRes cs fr (norm q) true := by
  refine PropRes.of_closed (sorted_norm q) (fun x hx => h.der x ((mem_norm q x).1 hx)) (fun x hx hx' => h.con x ((mem_norm q x).1 hx) ((mem_norm q _).1 hx')) (fun x hx hk => (mem_norm q x).2 (hf x hx hk)) fun c hc => ?_
  by_cases hle : lf q (only c) ≤ 1
  · obtain ⟨x, hx, hq⟩ := hl c hc hle
    exact .inl ⟨x, ((mem_only c x).1 hx).1, (mem_norm q x).2 hq⟩
  · obtain ⟨x, hx, y, hy, hne, h1, h2⟩ := lf_two (S := q) (nodup_only c) (by omega)
    have kx := (mem_only c x).1 hx
    have ky := (mem_only c y).1 hy
    exact .inr ⟨x, kx.1, y, ky.1, hne, kx.2, ky.2, fun e => h1 ((mem_norm q _).1 e), fun e => h2 ((mem_norm q _).1 e)⟩
theorem PropRes.no {cs : List (List Int)} {fr : List Int} (h : Conf cs fr) : PropRes cs fr [] false := .inr ⟨rfl, rfl, h⟩
end Go.Proofs.YtdppmmimemmedaaDoor.M
