/- (*cnf.Formula).And. -/
import Derived.Test.YtgpifbhfnbkgoaaDoorAnd
namespace Go.Proofs.YtgpifbhfnbkgoaaDoor
open Go.RowKit Go.Shelf
variable {X : Nat → Prop}

theorem box0 (w : World) (u v : Value) (t1 t2 : TypeId) : Box ((w.alloc (.cells #[u] t1)).alloc (.cells #[v] t2)) w.heap.size u t1 := by
  show ((w.heap.push _).push _)[w.heap.size]? = _
  simp only [Array.getElem?_push, Array.size_push]
  rw [if_neg (by omega), if_pos trivial]
theorem box1 (w : World) (u v : Value) (t1 t2 : TypeId) : Box ((w.alloc (.cells #[u] t1)).alloc (.cells #[v] t2)) (w.heap.size + 1) v t2 := by
  show ((w.heap.push _).push _)[w.heap.size + 1]? = _
  simp only [Array.getElem?_push, Array.size_push]
  rw [if_pos trivial]
theorem KeptI.below {w w' : World} {base : Nat} {b : Option Addr} (h : KeptI w base b) (hb : Below w.heap.size w w') : KeptI w' base b := fun ad e => by
  rcases h ad e with h | ⟨cur, m, hc⟩
  · exact .inl h
  · exact .inr ⟨cur, m, (hb.block _ (Array.getElem?_eq_some_iff.1 hc).1).trans hc⟩
theorem FmPost.of_below {w w1 w2 : World} {base p vars : Nat} {cs : List (List Int)} (h : Below w.heap.size w w1) (h2 : FmPost X w1 base p vars cs w2) : FmPost X w base p vars cs w2 := FmPost.kp_trans (Kp.of_below h) h2
set_option maxHeartbeats 1000000 in
theorem and_ok (base p vars : Nat) (cs : List (List Int)) (a : Option Addr) (c : Nat) (b : Option Addr) (d : Nat) (zs : List Int) (w : World) (hF : Fm X w base p vars cs a c) (hb : base ≤ w.heap.size) (hz : Ints w b zs) (hzk : KeptI w base (eff b zs))
    (hown : M.own vars zs = true) (hv : vars < 20000) (hn : cs.length + (zs.length + 1) ≤ 200000) :
    Calls Tryd.prog 32 #[.pointer (some ⟨p, 0, none⟩), .slice b zs.length d] w (GateOk X w base p vars ((M.andC ((vars + 1 : Nat) : Int) zs).foldl M.addC cs)) := by
  have hlen := hz.len
  have HF := Lib.hid hF
  have HZ := Lib.hid hz
  have HZK := Lib.hid hzk
  have HOW := Lib.hid hown
  clear hF hz hzk hown
  go_enter Tryd.func32, Tryd.ntmps32
  go_wp2_with fail
  have hbW : Below w.heap.size w ((w.alloc (.cells #[.pointer (some ⟨p, 0, none⟩)] 24)).alloc (.cells #[.slice b zs.length d] 30)) := below_alloc (below_alloc (Below.refl _ _) _) _
  have hW0 := box0 w (.pointer (some ⟨p, 0, none⟩)) (.slice b zs.length d) 24 30
  have hW1 := box1 w (.pointer (some ⟨p, 0, none⟩)) (.slice b zs.length d) 24 30
  generalize hgen : ((w.alloc (.cells #[.pointer (some ⟨p, 0, none⟩)] 24)).alloc (.cells #[.slice b zs.length d] 30)) = W at *
  clear hgen
  have hFW := HF.out.below hbW
  have hzW := HZ.out.below hbW
  have hkW := HZK.out.below hbW
  obtain ⟨i1, i2⟩ := hFW.inc hv
  have hbase : base ≤ W.heap.size := Nat.le_trans hb hbW.size
  have hI := (i2.kp hFW).intsK hbase hzW hkW
  have hfill := and1_any base p (vars + 1) cs a c (w.heap.size + 1) w.heap.size b d zs (W.setCell ⟨p, 0, none⟩ (.int .i64 ((vars : Int) + 1))) i1 (by simpa [World.setCell] using hbase) (by omega)
    (hW1.keep (i2.kp hFW) (by decide) (by decide)) (hW0.keep (i2.kp hFW) (by decide) (by decide)) hI.1 hI.2 (M.own_isLit (by omega) HOW.out) (by omega)
  have hg := gate_ok base p vars cs _ a c b d zs (zs.length + 1) 60 #[.pointer (some ⟨w.heap.size + 1, 0, none⟩), .pointer (some ⟨w.heap.size, 0, none⟩)] W hFW hzW HOW.out hv hn (enters_of Tryd.func60 (by kernel_rfl) rfl) hfill
  rw [show ((zs.length + 1 : Nat) : Int) = (zs.length : Int) + 1 from by omega] at hg
  have HG := Lib.hid hg
  have HB := Lib.hid hbW
  clear hfill hg hI i1 i2 hFW hzW hkW hW0 hW1 hbW
  refine HG.out.mono ?_
  rintro e w2 ⟨rfl, hp⟩
  have HP := Lib.hid hp
  clear hp
  go_wp2
  go_ret2
  exact ⟨rfl, FmPost.of_below HB.out HP.out⟩
end Go.Proofs.YtgpifbhfnbkgoaaDoor
