/- (*cnf.Formula).Or: the closure and the gate. -/
import Derived.Test.YtgpifbhfnbkgoaaDoorXor
import Derived.Deep.RegionLaw
import Derived.Deep.RegionHeld3
import Derived.IntWalk
namespace Go.Proofs.YtgpifbhfnbkgoaaDoor
open Go.RowKit Go.Shelf
variable {X : Nat → Prop}

theorem wp_append_Ints {w : World} {o : Oper} {act : Act} {K : Act → World → Prop} {Q : Exit → Act → World → Prop} (s x : Operand) (t : TypeId)
    (ho : o.op = .call { callee := .builtin .append, args := #[s, x], argTypes := #[t, t] }) (ht : Tryd.prog.underlying t = some (.slice 3))
    (base : Nat) (a : Option Addr) (n c : Nat) (ys : List Int) (hs : act.eval s = .slice a n c) (hn : ys.length = n) (hown : OwnI w base a c ys)
    (b : Option Addr) (m d : Nat) (zs : List Int) (hx : act.eval x = .slice b m d) (hm : zs.length = m) (hz : Ints w b zs) (hd : b = none → d = 0)
    (hlen : n + m ≤ 17592186043904) (hbase : base ≤ w.heap.size)
    (h : ∀ a' c' w', OwnI w' base a' c' (ys ++ zs) → Below base w w' → K (act.put o.dst (.slice a' (n + m) c')) w') :
    o.wp Tryd.prog act w K Q := by
  subst hn hm
  obtain ⟨i0, hi, hz0, hz1, hz2⟩ := info_parts Tryd.infoInt
  have fin : ∀ v' w', w'.ownsRow base 3 1 v' (ys.length + zs.length) (ys.map (Value.int .i64) ++ zs.map (Value.int .i64)) → w.grownBy w' (Value.slice a ys.length c).ownBlock → K (act.put o.dst v') w' := by
    intro v' w' h1 h2
    have hbel : Below base w w' := (Below.refl base w).grown h2 hbase (fun k hk => ownBlock_ge hown k _ hk)
    rw [← List.map_append, ← List.length_append] at h1
    have : ∃ a' c', v' = .slice a' (ys ++ zs).length c' := by
      rcases h1.2 with ⟨e, hn⟩ | ⟨g, cap, cur, e, _⟩
      · exact ⟨none, 0, by rw [e, hn]⟩
      · exact ⟨_, _, e⟩
    obtain ⟨a', c', rfl⟩ := this
    rw [show (ys ++ zs).length = ys.length + zs.length from List.length_append]
    exact h a' c' w' h1 hbel
  cases b with
  | some ad =>
    refine wp_append_own w s x t ho base 3 i0 (.int .i64 0) 1 8 ht hi hz0 hz1 hz2 rfl (by decide) _ _ _ hs hown ad zs.length d (zs.map (Value.int .i64)) hx (by simp) ?_ ?_ ?_ ?_ hbase ?_
    · intro j u hj
      have hjl : j < zs.length := by
        rcases Nat.lt_or_ge j zs.length with h' | h'
        · exact h'
        · rw [List.getElem?_eq_none (by simpa using h')] at hj; cases hj
      obtain ⟨b', off, e, _, hc⟩ := hz.addr (by omega)
      cases e
      rw [List.getElem?_map, List.getElem?_eq_getElem hjl] at hj
      cases hj
      rw [addr_add]; exact hc j _ (List.getElem?_eq_getElem hjl)
    · intro u hu; simp at hu; obtain ⟨z, _, rfl⟩ := hu; rfl
    · unfold maxLen; omega
    · omega
    · intro v' w' h1 h2 _
      exact fin v' w' h1 h2
  | none =>
    have e0 : zs = [] := by
      cases zs with
      | nil => rfl
      | cons z l => obtain ⟨_, _, e, _⟩ := hz.addr (by simp); cases e
    subst e0
    obtain rfl := hd rfl
    have hrun := run_append_owned_none (P := Tryd.prog) (w := w) base t o.type 3 i0 1 ht hi _ _ _ hown
    have hx' : act.eval x = .slice none 0 0 := hx
    unfold Oper.wp
    simp [execOp, ho, resolve, invoke, builtin, hs, hx', hrun, Result.andThen]
    refine fin _ _ ?_ ⟨rfl, rfl, rfl, Nat.le_refl _, fun _ _ _ => rfl⟩
    have h' : w.ownsRow base 3 1 (.slice a ys.length c) ys.length (ys.map (Value.int .i64)) := hown
    simpa using h'
theorem step_append_Ints {w : World} {ops : Array Oper} {o : Oper} {act : Act} {K : Act → World → Prop} {Q : Exit → Act → World → Prop} {E : Prop} (hgd : o.guard = none) (s x : Operand) (t : TypeId)
    (ho : o.op = .call { callee := .builtin .append, args := #[s, x], argTypes := #[t, t] }) (ht : Tryd.prog.underlying t = some (.slice 3))
    (base : Nat) (a : Option Addr) (n c : Nat) (ys : List Int) (hs : act.eval s = .slice a n c) (hn : ys.length = n) (hown : OwnI w base a c ys)
    (b : Option Addr) (m d : Nat) (zs : List Int) (hx : act.eval x = .slice b m d) (hm : zs.length = m) (hz : Ints w b zs) (hd : b = none → d = 0)
    (hlen : n + m ≤ 17592186043904) (hbase : base ≤ w.heap.size)
    (h : ∀ a' c' w', OwnI w' base a' c' (ys ++ zs) → Below base w w' → K (act.put o.dst (.slice a' (n + m) c')) w') :
    if Region.wanted o (yielded ops act.tmps) = true then Oper.wp Tryd.prog o act w K Q else E := by
  have hw : Region.wanted o (yielded ops act.tmps) = true := by simp [Region.wanted, hgd]
  rw [if_pos hw]
  exact wp_append_Ints s x t ho ht base a n c ys hs hn hown b m d zs hx hm hz hd hlen hbase h
theorem FmPost.kp {w w' : World} {base p vars : Nat} {cs : List (List Int)} (h : FmPost X w base p vars cs w') : Kp X base w w' := by obtain ⟨_, _, _, h⟩ := h; exact h
theorem OwnI.drew {w : World} {base : Nat} {a : Option Addr} {c : Nat} {ys : List Int} (h : OwnI w base a c ys) : OwnI w.drew base a c ys := h
theorem Ints.drew {w : World} {a : Option Addr} {zs : List Int} (h : Ints w a zs) : Ints w.drew a zs := ⟨h.addr, h.wf, h.len⟩
theorem or_put {base p vars : Nat} {cs : List (List Int)} {a a3 : Option Addr} {c c3 : Nat} {wr w3 : World} {zs : List Int} (hF : Fm X wr base p vars cs a c) (hb : Below wr.heap.size wr w3) (ho : OwnI w3 wr.heap.size a3 c3 ([-(vars : Int)] ++ zs)) (hl : ∀ x ∈ -(vars : Int) :: zs, M.isLit x = true) (hsm : cs.length + 1 ≤ 1000000) (hz : zs.length ≤ 1000000) :
    Calls Tryd.prog 61 #[.pointer (some ⟨p, 0, none⟩), .slice a3 (1 + zs.length) c3] w3 fun e w' => e = .returned (.tuple #[]) ∧ FmPost X w3 base p vars (M.addC cs (-(vars : Int) :: zs)) w' := by
  have hI : Ints w3 a3 (-(vars : Int) :: zs) := ho.ints (fun z hz' => I64.of_lit (hl z hz')) (by simp; omega)
  have h := fput_any base p vars cs a c a3 c3 (-(vars : Int) :: zs) w3 (hF.below hb) hI hl hsm
  rw [List.length_cons, Nat.add_comm] at h
  exact h
set_option maxRecDepth 100000 in
set_option maxHeartbeats 2000000 in
theorem or1_any (base p vars : Nat) (cs : List (List Int)) (a : Option Addr) (c : Nat) (L F : Nat) (b : Option Addr) (d : Nat) (zs : List Int) (w : World) (hF : Fm X w base p vars cs a c) (hb : base ≤ w.heap.size) (hv1 : 1 ≤ vars)
    (hL : Box w L (.slice b zs.length d) 30) (hFb : Box w F (.pointer (some ⟨p, 0, none⟩)) 24) (hz : Ints w b zs) (hzd : b = none → d = 0) (hzk : KeptI w base (eff b zs)) (hl : ∀ z ∈ zs, M.isLit z = true) (hsm : cs.length + zs.length + 1 ≤ 1000000) :
    Calls Tryd.prog 63 #[.int .i64 vars, .pointer (some ⟨L, 0, none⟩), .pointer (some ⟨F, 0, none⟩)] w fun e w' => e = .returned (.tuple #[]) ∧ FmPost X w base p vars ((M.orC vars zs).foldl M.addC cs) w' := by
  have hvv := hF.vars
  have HL := Lib.hid hl
  have hc0 := hL.cell
  have HLB := Lib.hid hL
  have HFB := Lib.hid hFb
  have hlv := isLit_var hv1 hvv
  have HZK := Lib.hid hzk
  have HZD := Lib.hid hzd
  clear hl hL hFb hzk hzd
  go_enter Tryd.func63, Tryd.ntmps63
  go_wp2
  clear hc0
  go_loopw [5, 8] (fun _ i wr => ∃ k : Nat, k ≤ zs.length ∧ i = .int .i64 k ∧ FmPost X w base p vars (((zs.take k).map fun x => [(vars : Int), -x]).foldl M.addC cs) wr) (fun _ i _ => zs.length - (intOf i).toNat)
  case atStart => exact ⟨0, Nat.zero_le _, rfl, a, c, hF, Kp.refl _ _ _⟩
  case round =>
    obtain ⟨k, hk, rfl, a1, c1, hF1, hk1⟩ := hrel
    have hI := hk1.intsK hb hz HZK.out
    have hcF := (HFB.out.keep hk1 (by decide) (by decide)).cell
    have hcL := (HLB.out.keep hk1 (by decide) (by decide)).cell
    have HF1 := Lib.hid hF1
    have HK1 := Lib.hid hk1
    have HI := Lib.hid hI
    have hlen1 := M.addCs_length cs ((zs.take k).map fun x => [(vars : Int), -x])
    simp only [List.length_map, List.length_take] at hlen1
    clear hF1 hk1 hI
    by_cases hlt : k < zs.length
    · obtain ⟨bb, off, rfl, hbl, hcl⟩ := HI.out.1.addr (by omega)
      obtain ⟨z, hzk⟩ : ∃ z, zs[k]? = some z := ⟨zs[k], by simp [hlt]⟩
      have hcell := hcl k z hzk
      have HZ := Lib.hid hzk
      have hlz := HL.out z (List.mem_of_getElem? hzk)
      have hz2 := (M.isLit_iff z).1 hlz
      have hzlo : -20000 ≤ z := hz2.2.1
      have hzhi : z ≤ 20000 := hz2.2.2
      clear hcl hzk hz2
      have hlits : ∀ x ∈ [(vars : Int), -z], M.isLit x = true := by
        intro x hx; simp at hx; rcases hx with rfl | rfl
        · exact hlv
        · rw [M.isLit_neg]; exact hlz
      have hfp := fput_any base p vars _ a1 c1 (some ⟨wr.heap.size, 0, none⟩) 2 [(vars : Int), -z] (wr.alloc (.cells #[.int .i64 (vars : Int), .int .i64 (-z)] 3)) (HF1.out.below (below_alloc (Below.refl _ _) _)) (Ints.two _ _ _ (I64.of_lit (hlits _ (by simp))) (I64.of_lit (hlits _ (by simp))) _) hlits (by omega)
      have HFP := Lib.hid hfp
      clear hlits hfp hlen1
      go_wp2_with fail
      refine HFP.out.mono ?_
      rintro e w2 ⟨rfl, hp2⟩
      have HP2 := Lib.hid hp2
      clear hp2
      go_wp2
      go_roundw
      case rel =>
        refine ⟨k + 1, by omega, by go_num, ?_⟩
        rw [List.take_add_one, HZ.out]
        simp only [List.map_append, List.foldl_append, Option.toList_some, List.map_cons, List.map_nil, List.foldl_cons, List.foldl_nil]
        exact FmPost.kp_trans (HK1.out.trans (Kp.of_below (below_alloc (Below.refl _ _) _))) HP2.out
      case measure => simp [intOf]; omega
    · obtain rfl : k = zs.length := by omega
      have hcs1 : (((zs.take zs.length).map fun x => [(vars : Int), -x]).foldl M.addC cs).length + 1 ≤ 1000000 := by omega
      have HCS := Lib.hid hcs1
      clear hlen1 hcs1
      have hlits : ∀ x ∈ -(vars : Int) :: zs, M.isLit x = true := by
        intro x hx; simp at hx; rcases hx with rfl | hx
        · rw [M.isLit_neg]; exact hlv
        · exact HL.out x hx
      have HLT := Lib.hid hlits
      have hws : zs.length ≤ 1000000 := by omega
      have hLs := (HLB.out.keep HK1.out (by decide) (by decide)).lt
      have hFs := (HFB.out.keep HK1.out (by decide) (by decide)).lt
      clear hlits
      have hl1 : 1 + zs.length ≤ 17592186043904 := by omega
      have HL1 := Lib.hid hl1
      have hcF1 := (HFB.out.keep HK1.out (by decide) (by decide)).cell
      have hcL1 := (HLB.out.keep HK1.out (by decide) (by decide)).cell
      clear hl1
      go_wp2
      have hwr : IntKind.i64.wrap (-(vars : Int)) = -(vars : Int) := IntWalk.i64_in _ (by omega)
      go_region_held3 (fun w' => w'.cell? ⟨F, 0, none⟩ = some (.pointer (some ⟨p, 0, none⟩)) ∧ w'.cell? ⟨L, 0, none⟩ = some (.slice b zs.length d))
        (first | (exact ⟨hcF3, hcL3⟩) | (exact ⟨hcF4, hcL4⟩) | go_keep)
        (first
        | (refine step_append_Ints (by rfl) _ _ 30 (by rfl) Tryd.underlying30 wr.heap.size (some ⟨wr.heap.size, 0, none⟩) 1 1 [-(vars : Int)] (by rfl) rfl (OwnI.drew (OwnI.one wr _ (Nat.le_refl _) _)) b zs.length d zs (by rfl) rfl (Ints.drew (HI.out.1.alloc _)) HZD.out HL1.out (by simp) ?_; intro a3 c3 w3 hown3 hB3; have hb3 : Below wr.heap.size wr w3 := ((below_alloc (Below.refl _ _) _).drew).trans hB3; have hcF3 := (HFB.out.keep (HK1.out.trans (Kp.of_below hb3)) (by decide) (by decide)).cell; have hcL3 := (HLB.out.keep (HK1.out.trans (Kp.of_below hb3)) (by decide) (by decide)).cell; have HO3 := Lib.hid hown3; have HB3 := Lib.hid hb3; clear hown3 hB3 hb3)
        | (go_at_call 61; refine (or_put HF1.out HB3.out HO3.out HLT.out HCS.out hws).mono ?_; rintro e w4 ⟨rfl, hp4⟩; have hcF4 := (HFB.out.keep ((HK1.out.trans (Kp.of_below HB3.out)).trans hp4.kp) (by decide) (by decide)).cell; have hcL4 := (HLB.out.keep ((HK1.out.trans (Kp.of_below HB3.out)).trans hp4.kp) (by decide) (by decide)).cell; have HP4 := Lib.hid hp4; clear hp4))
      all_goals
        go_end0
        refine ⟨rfl, ?_⟩
        have hp := HP4.out
        rw [List.take_of_length_le (Nat.le_refl _)] at hp
        rw [M.orC, List.foldl_append]
        exact FmPost.kp_trans (HK1.out.trans (Kp.of_below HB3.out)) hp
end Go.Proofs.YtgpifbhfnbkgoaaDoor
