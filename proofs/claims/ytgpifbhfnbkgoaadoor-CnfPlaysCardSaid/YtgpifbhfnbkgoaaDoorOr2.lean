/- (*cnf.Formula).Or. -/
import Derived.Test.YtgpifbhfnbkgoaaDoorOr
namespace Go.Proofs.YtgpifbhfnbkgoaaDoor
open Go.RowKit Go.Shelf
variable {X : Nat → Prop}

set_option maxHeartbeats 1000000 in
theorem or_ok (base p vars : Nat) (cs : List (List Int)) (a : Option Addr) (c : Nat) (b : Option Addr) (d : Nat) (zs : List Int) (w : World) (hF : Fm X w base p vars cs a c) (hb : base ≤ w.heap.size) (hz : Ints w b zs) (hzd : b = none → d = 0) (hzk : KeptI w base (eff b zs))
    (hown : M.own vars zs = true) (hv : vars < 20000) (hn : cs.length + (zs.length + 1) ≤ 200000) :
    Calls Tryd.prog 34 #[.pointer (some ⟨p, 0, none⟩), .slice b zs.length d] w (GateOk X w base p vars ((M.orC ((vars + 1 : Nat) : Int) zs).foldl M.addC cs)) := by
  have hlen := hz.len
  have HF := Lib.hid hF
  have HZ := Lib.hid hz
  have HZK := Lib.hid hzk
  have HZD := Lib.hid hzd
  have HOW := Lib.hid hown
  clear hF hz hzk hown hzd
  go_enter Tryd.func34, Tryd.ntmps34
  go_wp2_with fail
  have hbW : Below w.heap.size w ((w.alloc (.cells #[.pointer (some ⟨p, 0, none⟩)] 24)).alloc (.cells #[.slice b zs.length d] 30)) := below_alloc (below_alloc (Below.refl _ _) _) _
  have hW0 := box0 w (.pointer (some ⟨p, 0, none⟩)) (.slice b zs.length d) 24 30
  have hW1 := box1 w (.pointer (some ⟨p, 0, none⟩)) (.slice b zs.length d) 24 30
  generalize hgen : ((w.alloc (.cells #[.pointer (some ⟨p, 0, none⟩)] 24)).alloc (.cells #[.slice b zs.length d] 30)) = W at *
  clear hgen
  have hFW := HF.out.below hbW
  have hzW := HZ.out.below hbW
  have hkW := HZK.out.below hbW
  obtain ⟨i1, i2⟩ := hFW.inc hv
  have hbase : base ≤ W.heap.size := Nat.le_trans hb hbW.size
  have hI := (i2.kp hFW).intsK hbase hzW hkW
  have hfill := or1_any base p (vars + 1) cs a c (w.heap.size + 1) w.heap.size b d zs (W.setCell ⟨p, 0, none⟩ (.int .i64 ((vars : Int) + 1))) i1 (by simpa [World.setCell] using hbase) (by omega)
    (hW1.keep (i2.kp hFW) (by decide) (by decide)) (hW0.keep (i2.kp hFW) (by decide) (by decide)) hI.1 HZD.out hI.2 (M.own_isLit (by omega) HOW.out) (by omega)
  have hg := gate_ok base p vars cs _ a c b d zs (zs.length + 1) 63 #[.pointer (some ⟨w.heap.size + 1, 0, none⟩), .pointer (some ⟨w.heap.size, 0, none⟩)] W hFW hzW HOW.out hv hn (enters_of Tryd.func63 (by kernel_rfl) rfl) hfill
  rw [show ((zs.length + 1 : Nat) : Int) = (zs.length : Int) + 1 from by omega] at hg
  have HG := Lib.hid hg
  have HB := Lib.hid hbW
  clear hfill hg hI i1 i2 hFW hzW hkW hW0 hW1 hbW
  refine HG.out.mono ?_
  rintro e w2 ⟨rfl, hp⟩
  have HP := Lib.hid hp
  clear hp
  go_wp2
  go_ret2
  exact ⟨rfl, FmPost.of_below HB.out HP.out⟩
end Go.Proofs.YtgpifbhfnbkgoaaDoor
