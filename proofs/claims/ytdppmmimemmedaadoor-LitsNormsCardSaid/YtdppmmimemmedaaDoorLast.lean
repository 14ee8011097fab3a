/- lits.last. -/
import Derived.Test.YtdppmmimemmedaaDoorPut
import Derived.Test.YtdppmmimemmedaaDoorLits
namespace Go.Proofs.YtdppmmimemmedaaDoor
open Go.RowKit Go.Shelf

def putV (Bs Bq : Nat) : Value := .func (.func 63) #[] #[.pointer (some ⟨Bs, 0, none⟩), .pointer (some ⟨Bq, 0, none⟩)]
/-- what last answers -/
def LastPost (w : World) (base Bs Bq bm : Nat) (q zs : List Int) (a : Option Addr) (e : Ending) (w' : World) : Prop :=
  (e = .returned (.bool false) ∧ (∀ l ∈ zs, -l ∈ q) ∧ PFr base Bq bm a w w') ∨
  (e = .returned (.bool true) ∧ ∃ x ∈ zs, -x ∉ q ∧ ∃ a' c', PQ w' base Bs Bq bm (M.add q x) a' c' ∧ LiesG w.heap.size a a' ∧ PFr base Bq bm a w w')
theorem LastPost.of_put {w w1 w2 : World} {base Bs Bq bm : Nat} {q zs : List Int} {a : Option Addr} {x : Int} {e : Ending} (hf : PFr base Bq bm a w w1) (hx : x ∈ zs) (hn : -x ∉ q) (h : PutPost w1 base Bs Bq bm q a x e w2) : LastPost w base Bs Bq bm q zs a e w2 := by
  rcases h with ⟨_, h, _⟩ | ⟨rfl, _, a', c', h1, h2, h3⟩
  · exact absurd h hn
  · exact .inr ⟨rfl, x, hx, hn, a', c', h1, fun ad e => (h2 ad e).imp id (fun h => Nat.le_trans hf.size h), hf.trans (LiesG.refl _ _) h3⟩
set_option maxRecDepth 100000 in
set_option maxHeartbeats 2000000 in
theorem last_any (base Bs Bq bm : Nat) (q : List Int) (a : Option Addr) (c : Nat) (b : Option Addr) (d : Nat) (zs : List Int) (w : World) (h : PQ w base Bs Bq bm q a c) (hb : base ≤ w.heap.size) (hz : Ints w b zs) (hl : ∀ z ∈ zs, M.isLit z = true) :
    Calls Tryd.prog 67 #[.slice b zs.length d, .map (some bm), .func (.func 63) #[] #[.pointer (some ⟨Bs, 0, none⟩), .pointer (some ⟨Bq, 0, none⟩)]] w (LastPost w base Bs Bq bm q zs a) := by
  have hlen := hz.len
  have H := Lib.hid h
  have HB := Lib.hid hb
  have HL := Lib.hid hl
  have HZ := Lib.hid hz
  clear h hb hl hz
  go_enter Tryd.func67, Tryd.ntmps67
  go_wp2
  go_loopw [13] (fun i wr => ∃ k : Nat, k ≤ zs.length ∧ i = .int .i64 k ∧ PQ wr base Bs Bq bm q a c ∧ PFr base Bq bm a w wr ∧ Below w.heap.size w wr ∧ ∀ l ∈ zs.take k, -l ∈ q) (fun i _ => zs.length - (intOf i).toNat)
  case atStart => exact ⟨0, Nat.zero_le _, rfl, H.out, PFr.refl _ _ _ _ _, Below.refl _ _, by simp⟩
  case round =>
    obtain ⟨k, hk, rfl, hP, hF, hBl, hno⟩ := hrel
    have HP := Lib.hid hP
    have HF := Lib.hid hF
    have HBL := Lib.hid hBl
    have HNO := Lib.hid hno
    clear hP hF hBl hno
    by_cases hlt : k < zs.length
    · have hz1 := HZ.out.below HBL.out
      obtain ⟨bb, off, rfl, hbl, hcl⟩ := hz1.addr (by omega)
      obtain ⟨z, hzk⟩ : ∃ z, zs[k]? = some z := ⟨zs[k], by simp [hlt]⟩
      have hmem : z ∈ zs := List.mem_of_getElem? hzk
      have hzl := HL.out z hmem
      have hck := hcl k z hzk
      have hbd := (M.isLit_iff z).1 hzl
      obtain ⟨h0, h1, h2⟩ := hbd
      have hmap := HP.out.map
      have hkn := keyI (-z) (by rw [M.isLit_neg]; exact hzl)
      have hhn := has_Sq q (-z)
      have HH := Lib.hid hzl
      have HCL := Lib.hid hcl
      clear hzl hcl
      go_wp2_with (first
        | (at_lookup; refine wpList_lookup_own_unit _ rfl _ _ 89 rfl 3 90 keyedInt Tryd.underlying89 (zeroU _) bm _ _ rfl hmap _ _ rfl hkn ?_; rw [hhn])
        | (go_at_call 63; refine (pput_any base Bs Bq bm q a c z _ (HP.out.alloc _) (by have := HB.out; have := HF.out.size; simp; omega) HH.out).mono ?_; intro e w2 hp2
           have hq2 : LastPost w base Bs Bq bm q zs a e w2 := LastPost.of_put (HF.out.alloc HB.out _) hmem ((M.inn_false _ _).1 (by simpa using (by assumption : (!M.inn q (-z)) = true))) hp2
           clear hp2
           obtain ⟨bb1, hbb1⟩ : ∃ bb1 : Bool, e = .returned (.bool bb1) := by rcases hq2 with ⟨h, _⟩ | ⟨h, _⟩ <;> exact ⟨_, h⟩
           subst hbb1)
        | go_in)
      · go_ret
        exact hq2
      · have hyes : -z ∈ q := (M.inn_iff _ _).1 (by simpa using (by assumption : (!M.inn q (-z)) = false))
        go_roundw
        case rel =>
          refine ⟨k + 1, by omega, by go_num, HP.out.alloc _, HF.out.alloc HB.out _, HBL.out.alloc HBL.out.size _, fun l hl => ?_⟩
          rw [List.take_add_one, hzk] at hl
          rcases List.mem_append.1 hl with h | h
          · exact HNO.out l h
          · simp at h; subst h; exact hyes
        case measure => simp [intOf]; omega
    · obtain rfl : k = zs.length := by omega
      go_wp2
      go_ret
      exact .inl ⟨rfl, by simpa using HNO.out, HF.out⟩
end Go.Proofs.YtdppmmimemmedaaDoor
