/- sums.Bits. -/
import Derived.Test.YtllkeojkejbbeaaDoorSColumn
import Derived.Test.YtllkeojkejbbeaaDoorSStart
import Derived.Test.YtllkeojkejbbeaaDoorSLits
import Derived.Test.YtllkeojkejbbeaaDoorSFill
import Derived.Test.YtllkeojkejbbeaaDoorSDig
namespace Go.Proofs.YtllkeojkejbbeaaDoor
open Go.RowKit Go.Shelf
variable {X : Nat → Prop}

/-- the terms lie where the formula's calls leave them -/
def KeptW (X : Nat → Prop) (base : Nat) (w : World) (b : Option Addr) (ts : List M.Wt) : Prop := 0 < ts.length → ∀ ad, b = some ad → ad.block < w.heap.size → Left X base w ad.block
theorem Wts.kp {base : Nat} {w w' : World} {b : Option Addr} {ts : List M.Wt} (hz : Wts w b ts) (hk : KeptW X base w b ts) (hp : Kp X base w w') : Wts w' b ts := by
  refine ⟨fun h0 => ?_, hz.wf, hz.len⟩
  obtain ⟨b', off, rfl, hlt, hc⟩ := hz.addr h0
  have key := hp.block b' hlt (hk h0 _ rfl hlt)
  exact ⟨b', off, rfl, Nat.lt_of_lt_of_le hlt hp.size, fun i t ht => ⟨(World.cell?_of_block (a := ⟨b', off + i * 2, none⟩) key).trans (hc i t ht).1, (World.cell?_of_block (a := ⟨b', off + i * 2 + 1, none⟩) key).trans (hc i t ht).2⟩⟩
def M.lits (ts : List M.Wt) : List Int := ts.map (·.1)
theorem M.lits_at {V : Nat} {ts : List M.Wt} {k : Nat} {t : M.Wt} (h : M.own V (M.lits ts) = true) (ht : ts[k]? = some t) : M.own V [t.1] = true := by
  rw [M.own_iff] at h ⊢
  intro x hx
  simp at hx; subst hx
  exact h _ (List.mem_map.2 ⟨t, List.mem_of_getElem? ht, rfl⟩)
/-- what Bits hands back -/
def BitsPost (X : Nat → Prop) (w : World) (base p V B : Nat) (ts : List M.Wt) (e : Ending) (w' : World) : Prop :=
  ∃ (gs : List M.G) (bits : List Int) (a : Option Addr) (c : Nat), e = .returned (.tuple #[.slice a bits.length c, .nilIface]) ∧ OwnI w' w.heap.size a c bits ∧
    FmPost X w base p (V + gs.length) (M.gatesC V gs) w' ∧ M.SI V (M.wSum ts) B (M.wVal ts) (M.dig (M.wSum ts)).length gs [] bits
set_option maxHeartbeats 4000000 in
set_option maxRecDepth 100000 in
theorem bits_tight (base p V B : Nat) (a : Option Addr) (c : Nat) (tb : Option Addr) (tc : Nat) (ts : List M.Wt) (w : World) (hF : Fm X w base p V [] a c) (hb : base ≤ w.heap.size) (hz : Wts w tb ts) (hk : KeptW X base w tb ts)
    (hok : ts.all M.wOk = true) (hl : ts.length ≤ 200) (hown : M.own V (M.lits ts) = true) (hB : 3 * M.wLen ts + (M.dig (M.wSum ts)).length ≤ B) (hV : V + B ≤ 20000) :
    Calls Tryd.prog 31 #[.pointer (some ⟨p, 0, none⟩), .slice tb ts.length tc] w (BitsPost X w base p V B ts) := by
  have hlen := hz.len
  have hsum := M.sum_le hok
  have hs31 : M.wSum ts < 2 ^ 31 := by omega
  have hdl : (M.dig (M.wSum ts)).length ≤ 31 := M.dig_len hs31
  have HBD := Lib.hid (bound_ok tb tc ts w hz hok (by omega))
  have HF := Lib.hid hF
  have HZ := Lib.hid hz
  have HK := Lib.hid hk
  have HOK := Lib.hid hok
  have HOW := Lib.hid hown
  have HBB := Lib.hid hB
  clear hF hz hk hok hown hlen hB
  go_enter Tryd.func31, Tryd.ntmps31
  go_wp2_with fail
  refine HBD.out.mono ?_
  rintro e w1 ⟨rfl, hb1⟩
  have HB1 := Lib.hid hb1
  clear hb1 HBD
  go_wp2
  go_loopw [10, 31] (fun _ i wr => ∃ k : Nat, k ≤ ts.length ∧ i = .int .i64 k ∧ Below w.heap.size w wr) (fun _ i _ => ts.length - (intOf i).toNat)
  case atStart => exact ⟨0, Nat.zero_le _, rfl, HB1.out⟩
  case round =>
    obtain ⟨k, hk, rfl, hb2⟩ := hrel
    have HB2 := Lib.hid hb2
    clear hb2 HB1
    by_cases hlt : k < ts.length
    · obtain ⟨b, off, rfl, hbl, hc⟩ := (HZ.out.below HB2.out).addr (by omega)
      obtain ⟨t, htk⟩ : ∃ t, ts[k]? = some t := ⟨ts[k], by simp [hlt]⟩
      obtain ⟨hc0, hc1⟩ := hc k t htk
      have hpl := HF.out.lt
      have hh0 := (HF.out.below (HB2.out)).cell0
      have hq0 : ((wr.alloc (.cells #[.int .i64 t.1, .int .i64 t.2] 57)).alloc (.cells #[.int .i64 t.1] 3)).cell? ⟨p, 0, none⟩ = some (.int .i64 V) :=
        ((((Below.refl wr.heap.size wr).alloc (Nat.le_refl _) _).alloc (by simp) _).cell (p := ⟨p, 0, none⟩) (Nat.lt_of_lt_of_le hpl HB2.out.size)).trans hh0
      have hli := literals_any p V (some ⟨wr.heap.size + 1, 0, none⟩) 1 [t.1] ((wr.alloc (.cells #[.int .i64 t.1, .int .i64 t.2] 57)).alloc (.cells #[.int .i64 t.1] 3)) hq0 (by omega)
        (by have := Ints.one (wr.alloc (.cells #[.int .i64 t.1, .int .i64 t.2] 57)) t.1 (HZ.out.wf t (List.mem_of_getElem? htk)).1 3; simpa using this)
      rw [M.lits_at HOW.out htk] at hli
      have HLI := Lib.hid hli
      clear hc hli hq0 hh0 htk
      go_wp2_with (go_at_call 60; refine HLI.out.mono ?_; rintro e w' ⟨rfl, rfl⟩)
      go_roundw
      case rel => exact ⟨k + 1, by omega, by go_num, (HB2.out.alloc HB2.out.size _).alloc (by have := HB2.out.size; simp; omega) _⟩
      case measure => simp [intOf]; omega
    · have hdg := digits_any (M.wSum ts : Int) wr ⟨by omega, by omega⟩
      rw [Int.toNat_natCast] at hdg
      have HDG := Lib.hid hdg
      obtain ⟨n, hn⟩ : ∃ n, n = (M.dig (M.wSum ts)).length := ⟨_, rfl⟩
      have HN := Lib.hid hn
      have hn31 : n ≤ 31 := by omega
      rw [← hn] at hdl
      clear hdg hn
      go_wp2_with (first
        | (go_at_call 34; refine HDG.out.mono ?_; rintro e w3 ⟨a3, c3, rfl, _, hb3⟩; rw [← HN.out]; have HB3 := Lib.hid (HB2.out.trans (hb3.mono HB2.out.size)); clear hb3)
        | (at_make; refine wpList_make_rows rfl (.tmp 46) (.tmp 46) rfl n rfl rfl (by omega) ?_; intro w4 hg4 hb4; have HG4 := Lib.hid hg4; have HB4 := Lib.hid hb4; clear hg4 hb4)
        | go_in)
      obtain ⟨wA, hwA⟩ : ∃ wA, wA = w4.alloc (.cells #[.pointer (some ⟨p, 0, none⟩), .slice (some ⟨w3.heap.size, 0, none⟩) n n] 103) := ⟨_, rfl⟩
      obtain ⟨q, hq⟩ : ∃ q, q = w4.heap.size := ⟨_, rfl⟩
      obtain ⟨g, hg⟩ : ∃ g, g = w3.heap.size := ⟨_, rfl⟩
      have hA0 : AS X none w base p V q g [] (List.replicate n []) (List.replicate n (Value.slice none 0 0)) wA := by
        have hs3 := HB3.out.size
        have hs4 := HB4.out.size
        subst hwA hq hg
        refine AS.start HF.out hb n (((HB3.out.trans (HB4.out.mono hs3))).alloc (by omega) _) (by omega) hs3 ?_ ?_
        · show (w4.heap.push _)[w4.heap.size]? = _
          simp
        · have hlt3 : w3.heap.size < w4.heap.size := (Array.getElem?_eq_some_iff.1 HG4.out).1
          show (w4.heap.push _)[w3.heap.size]? = _
          rw [Array.getElem?_push_lt hlt3, ← Array.getElem?_eq_getElem hlt3]
          exact HG4.out
      rw [← hwA, ← hq, ← hg]
      have HA0 := Lib.hid hA0
      clear hA0 hwA hq hg HG4 HB4 HB3 HDG HB2
      go_loopw [52] (fun i wr => ∃ (k : Nat) (cols : List (List Int)) (vals : List Value), k ≤ ts.length ∧ i = .int .i64 k ∧ AS X none w base p V q g [] cols vals wr ∧ M.FI V n (M.wSum (ts.take k)) (M.wVal (ts.take k)) (M.wLen (ts.take k)) cols) (fun i _ => ts.length - (intOf i).toNat)
      case atStart => exact ⟨0, _, _, Nat.zero_le _, rfl, HA0.out, (M.FI.start V n).eq rfl (fun m => rfl) (Nat.zero_le _)⟩
      case round =>
        clear HA0
        obtain ⟨k, cols, vals, hk, rfl, hA, hI⟩ := hrel
        have HA := Lib.hid hA
        have HI := Lib.hid hI
        clear hA hI
        by_cases hlt : k < ts.length
        · obtain ⟨b, off, rfl, hbl, hc⟩ := (HZ.out.kp HK.out HA.out.kp).addr (by omega)
          obtain ⟨t, htk⟩ : ∃ t, ts[k]? = some t := ⟨ts[k], by simp [hlt]⟩
          obtain ⟨hc0, hc1⟩ := hc k t htk
          obtain ⟨ht1, ht2⟩ := (M.wOk_iff t).1 (List.all_eq_true.1 HOK.out t (List.mem_of_getElem? htk))
          have hd21 := M.dig_w (List.all_eq_true.1 HOK.out t (List.mem_of_getElem? htk))
          have hdn : (M.dig t.2.toNat).length ≤ n := by rw [HN.out]; exact M.dig_mono (M.wSum_mem (List.mem_of_getElem? htk))
          have HT := Lib.hid htk
          have hdg := fun wx => digits_any t.2 wx ⟨by omega, by omega⟩
          have HDG := Lib.hid hdg
          obtain ⟨ds, hds⟩ : ∃ ds, ds = M.dig t.2.toNat := ⟨_, rfl⟩
          rw [← hds] at hd21 hdn
          have HDS := Lib.hid hds
          clear hc hdg htk hds
          obtain ⟨wo, hwo⟩ : ∃ wo, wo = wr := ⟨_, rfl⟩
          subst hwo
          go_wp2_with (go_at_call 34; refine (HDG.out _).mono ?_; rintro e w5 ⟨a5, c5, rfl, ho5, hb5⟩; rw [← HDS.out] at ho5 ⊢; have HO5 := Lib.hid ho5; have HB5 := Lib.hid hb5; clear ho5 hb5)
          obtain ⟨B13, hB13⟩ : ∃ B13, B13 = wo.heap.size := ⟨_, rfl⟩
          have hal : Below wo.heap.size wo (wo.alloc (.cells #[.int .i64 t.1, .int .i64 t.2] 57)) := (Below.refl _ _).alloc (Nat.le_refl _) _
          have hsz5 := HB5.out.size
          have hA5 := HA.out.below (hal.trans (HB5.out.mono hal.size))
          have hO5 : OwnB w5 w.heap.size a5 c5 ds := HO5.out.weaken (by have := HA.out.kp.size; simp; omega)
          have hb13 : w5.heap[B13]? = some (.cells #[.int .i64 t.1, .int .i64 t.2] 57 (0, 0)) := by
            subst hB13
            refine (HB5.out.block wo.heap.size (by simp)).trans ?_
            show (wo.heap.push _)[wo.heap.size]? = _
            simp
          rw [← hB13]
          have HA5 := Lib.hid hA5
          have HO6 := Lib.hid hO5
          have HB13 := Lib.hid hb13
          clear hB13 hal hsz5 hA5 hO5 hb13 HO5 HB5 HDG hc0 hc1
          go_loopw [60] (fun i wr => ∃ (j : Nat) (cols : List (List Int)) (vals : List Value), j ≤ ds.length ∧ i = .int .i64 j ∧ AS X none w base p V q g [] cols vals wr ∧ M.FI V n (M.wSum (ts.take k) + M.num (ds.take j)) (fun m => M.wVal (ts.take k) m + M.num (ds.take j) * (M.holds t.1 m).toNat) (M.wLen (ts.take k) + M.ones (ds.take j)) cols ∧ OwnB wr w.heap.size a5 c5 ds ∧ wr.heap[B13]? = some (.cells #[.int .i64 t.1, .int .i64 t.2] 57 (0, 0))) (fun i _ => ds.length - (intOf i).toNat)
          case atStart => exact ⟨0, cols, vals, Nat.zero_le _, rfl, HA5.out, HI.out.eq (by simp [M.num]) (fun m => by simp [M.num]) (Nat.le_add_right _ _), HO6.out, HB13.out⟩
          case round =>
            clear HA5 HO6 HB13 HI HA
            obtain ⟨j, cols, vals, hj, rfl, hA, hI, hO, hb13⟩ := hrel
            have HA := Lib.hid hA
            have HI := Lib.hid hI
            have HO := Lib.hid hO
            have HB13 := Lib.hid hb13
            clear hA hI hO hb13
            by_cases hjl : j < ds.length
            · obtain ⟨b7, o7, rfl, hb7, hc7⟩ := (HO.out.bools (by omega)).addr (by omega)
              obtain ⟨z, hz⟩ : ∃ z, ds[j]? = some z := ⟨ds[j], by simp [hjl]⟩
              have hcz := hc7 j z hz
              have HZD := Lib.hid hz
              clear hc7 hz
              cases z
              · go_wp2
                go_roundw
                case rel => exact ⟨j + 1, cols, vals, by omega, by go_num, HA.out, (HI.out.skip HZD.out).eq rfl (fun m => rfl) (by rw [M.ones_no HZD.out]; exact Nat.le_refl _), HO.out, HB13.out⟩
                case measure => simp [intOf]; omega
              · obtain ⟨x, hx⟩ : ∃ x, cols[j]? = some x := ⟨_, List.getElem?_eq_getElem (by rw [HI.out.len]; omega)⟩
                obtain ⟨ax, cx, hvx, hcx⟩ := HA.out.col j x hx
                have hxl : x.length ≤ 1000000 := by
                  have h1 := M.lens_set [] hx
                  have h2 := HI.out.lens
                  simp only [List.length_nil] at h1
                  have h3 := M.wLen_le (M.all_take k HOK.out)
                  have h4 := M.ones_le (ds.take j)
                  rw [List.length_take] at h3 h4
                  omega
                have hlen := HI.out.len
                obtain ⟨q0, q1⟩ := HA.out.cells
                rw [hlen] at q1
                obtain ⟨g0, g1⟩ := HA.out.cell hvx
                have hql := HA.out.qlt
                have hgl := HA.out.glt
                have hl0 : wr.cell? ⟨B13, 0, none⟩ = some (.int .i64 t.1) := by rw [cell_of_cells HB13.out]; rfl
                have hbl13 : B13 < wr.heap.size := (Array.getElem?_eq_some_iff.1 HB13.out).1
                have hjn : (j : Int) < (n : Int) := by omega
                have HX := Lib.hid hx
                have HV := Lib.hid hvx
                have HC := Lib.hid hcx
                have HL := Lib.hid hlen
                clear hx hvx hcx hlen
                obtain ⟨wp, hwp⟩ : ∃ wp, wp = wr := ⟨_, rfl⟩
                subst hwp
                go_wp2
                go_region_law
                  (first
                  | (refine step_append_col rfl (.tmp 77) (.tmp 80) rfl w.heap.size ax x.length cx x rfl rfl (HC.out.below (((Below.refl _ _).drew).alloc (Nat.le_refl _) _)) ⟨wp.heap.size, 0, none⟩ t.1 rfl ?_ hxl ((HA.out.below (((Below.refl _ _).drew).alloc (Nat.le_refl _) _)).size0) ?_; (focus (simp; done)); intro a8 c8 w8 hP8; have hm8 := (HA.out.below (((Below.refl _ _).drew).alloc (Nat.le_refl _) _)).mid HV.out (fun ad e => ⟨ad, e, rfl⟩) hP8 j; have r1 := hm8.1; rw [HL.out] at r1; have r2 := hm8.2.1; have r3 := hm8.2.2.trans HV.out; have HP8 := Lib.hid hP8; clear hm8 hP8))
                all_goals
                  have hAW := HA.out.below (((Below.refl wp.heap.size wp).drew).alloc (Nat.le_refl _) (.cells #[.int .i64 t.1] 3))
                  have hA4 := hAW.put HV.out (fun ad e => ⟨ad, e, rfl⟩) HP8.out
                  have e6 : (x ++ [t.1]).length = x.length + 1 := by simp
                  rw [e6] at hA4
                  have hO4 : OwnB (w8.setCell ⟨g, j, none⟩ (.slice a8 (x.length + 1) c8)) w.heap.size (some ⟨b7, o7, none⟩) c5 ds := by
                    have hOW := HO.out.below (((Below.refl wp.heap.size wp).drew).alloc (Nat.le_refl _) (.cells #[.int .i64 t.1] 3))
                    exact hOW.kept fun gg cur _ hcc => (hAW.keep HV.out (fun ad e => ⟨ad, e, rfl⟩) HP8.out gg cur _ _ hcc (by decide) (by decide)).trans hcc.symm
                  have hB4 : (w8.setCell ⟨g, j, none⟩ (.slice a8 (x.length + 1) c8)).heap[B13]? = some (.cells #[.int .i64 t.1, .int .i64 t.2] 57 (0, 0)) :=
                    hAW.keep HV.out (fun ad e => ⟨ad, e, rfl⟩) HP8.out B13 _ _ _ (((((Below.refl wp.heap.size wp).drew).alloc (Nat.le_refl _) _).block B13 hbl13).trans HB13.out) (by decide) (by decide)
                  have HA4 := Lib.hid hA4
                  have HO4 := Lib.hid hO4
                  have HB4 := Lib.hid hB4
                  clear hA4 hO4 hB4 hAW e6
                  go_wp2
                  go_roundw
                  case rel => exact ⟨j + 1, _, _, by omega, by go_num, HA4.out, (HI.out.digit HZD.out HX.out (M.lits_at HOW.out HT.out)).eq rfl (fun m => rfl) (by rw [M.ones_yes HZD.out]; exact Nat.le_refl _), HO4.out, HB4.out⟩
                  case measure => simp [intOf]; omega
            · obtain rfl : j = ds.length := by omega
              have hI2 := HI.out
              rw [List.take_length, HDS.out] at hI2
              have HI2 := Lib.hid hI2
              clear hI2
              go_wp2
              go_roundw
              case rel => exact ⟨k + 1, cols, vals, by omega, by go_num, HA.out, (M.FI.term HT.out HI2.out).eq rfl (fun m => rfl) (Nat.le_of_eq (M.wLen_snoc HT.out).symm)⟩
              case measure => simp [intOf]; omega
        · obtain rfl : k = ts.length := by omega
          have hI := HI.out
          rw [List.take_length] at hI
          have hS0 := hI.si HN.out (B := B) (by rw [HN.out]; exact HBB.out) hV
          have hcl := hI.len
          obtain ⟨q0, q1⟩ := HA.out.cells
          rw [hcl] at q1
          have HS0 := Lib.hid hS0
          have HCL := Lib.hid hcl
          have hsz0 := HA.out.size0
          clear hI hS0 hcl HI
          go_wp2
          go_loopw [16, 90] (fun v i wr => ∃ (k : Nat) (gs : List M.G) (cols : List (List Int)) (vals : List Value) (bits : List Int) (Zb : Option (Nat × Array Value)) (ab : Option Addr) (cb : Nat), k ≤ n ∧ i = .int .i64 k ∧ v = .slice ab bits.length cb ∧ AS X Zb w base p V q g gs cols vals wr ∧ M.SI V (M.wSum ts) B (M.wVal ts) k gs (cols.drop k) bits ∧ OwnI wr w.heap.size ab cb bits ∧ (∀ ad, ab = some ad → ∃ v, Zb = some (ad.block, v)) ∧ cols.length = n) (fun _ i _ => n - (intOf i).toNat)
          case atStart => exact ⟨0, [], cols, vals, [], none, none, 0, Nat.zero_le _, rfl, rfl, HA.out, HS0.out, OwnI.nil _ _, fun ad e => (by cases e), HCL.out⟩
          case round =>
            clear HA HS0 HCL q0 q1
            obtain ⟨k, gs, cols, vals, bits, Zb, ab, cb, hk2, rfl, rfl, hA, hS, hO, hZb, hcl⟩ := hrel
            have hbl : bits.length = k := hS.bl
            by_cases hlt2 : k < n
            · have hcol := column_any hA hS (by rw [hcl]; exact hlt2) (by rw [hcl]; omega)
              have HCO := Lib.hid hcol
              have HA := Lib.hid hA
              have HO := Lib.hid hO
              have HZb := Lib.hid hZb
              have HCL := Lib.hid hcl
              have HBL := Lib.hid hbl
              have hbk : bits.length ≤ 1000 := by omega
              clear hcol hA hS hO hZb hcl hbl
              obtain ⟨wp, hwp⟩ : ∃ wp, wp = wr := ⟨_, rfl⟩
              subst hwp
              go_wp2_with fail
              refine HCO.out.mono ?_
              rintro e w5 ⟨gs', cols', vals', bit, rfl, hA5, hS5, hcl5⟩
              have hO5 : OwnI w5 w.heap.size ab cb bits := HO.out.at fun ad e => by
                obtain ⟨v, e2⟩ := HZb.out ad e
                exact (hA5.pb _ v e2).1.trans (HA.out.pb _ v e2).1.symm
              have hI64 : I64 bit := I64.of_lit (M.own_isLit (vars := V + gs'.length) (by have := hS5.gates; have := hS5.lim; omega) hS5.ownb bit (by simp))
              have HA5 := Lib.hid hA5
              have HS5 := Lib.hid hS5
              have HCL5 := Lib.hid (hcl5.trans HCL.out)
              have HO5 := Lib.hid hO5
              have H64 := Lib.hid hI64
              clear hA5 hS5 hcl5 hO5 hI64 HCO HA HO
              go_wp2_with (at_builtin; refine wpList_append_IntsAt rfl (.tmp 102) (.tmp 104) 30 rfl Tryd.underlying30 w.heap.size ab _ cb bits rfl rfl (HO5.out.alloc _) _ _ _ [bit] rfl rfl (Ints.one w5 bit H64.out _) (fun h => by cases h) (by omega) (by have := HA5.out.size0; simp; omega) ?_; intro a6 c6 w6 hown6 hg6 hl6; have HO6 := Lib.hid hown6; have HG6 := Lib.hid hg6; have HL6 := Lib.hid hl6; clear hown6 hg6 hl6)
              obtain ⟨Zb', hA6, hZb6⟩ := (HA5.out.below ((Below.refl w5.heap.size w5).alloc (Nat.le_refl _) (.cells #[.int .i64 bit] 3))).bits (HO5.out.alloc _) HZb.out HO6.out HG6.out HL6.out
              have HA6 := Lib.hid hA6
              have HZb6 := Lib.hid hZb6
              clear hA6 hZb6
              go_roundw
              case rel => exact ⟨k + 1, gs', cols', vals', bits ++ [bit], Zb', a6, c6, by omega, by go_num, by simp, HA6.out, HS5.out, HO6.out, HZb6.out, HCL5.out⟩
              case measure => simp [intOf]; omega
            · obtain rfl : k = n := by omega
              rw [List.drop_eq_nil_of_le (by omega)] at hS
              obtain ⟨a9, c9, hF9⟩ := hA.fm
              have hF8 : Fm X wr base p (V + gs.length) (M.gatesC V gs) a9 c9 := hF9.turn (Nat.le_refl _) (fun _ _ _ _ => rfl) (fun k hk => .inl (.inl (.inl hk))) (fun k hk => hF9.xlt k (.inl (.inl hk)))
              have HF8 := Lib.hid hF8
              have HS := Lib.hid hS
              have HA := Lib.hid hA
              have HO := Lib.hid hO
              clear hF8 hS hA hO hF9 hZb
              go_wp2
              go_ret2
              exact ⟨gs, bits, ab, cb, rfl, HO.out, ⟨a9, c9, HF8.out, HA.out.kp⟩, by rw [← HN.out]; exact HS.out⟩
theorem bits_any (base p V B : Nat) (a : Option Addr) (c : Nat) (tb : Option Addr) (tc : Nat) (ts : List M.Wt) (w : World) (hF : Fm X w base p V [] a c) (hb : base ≤ w.heap.size) (hz : Wts w tb ts) (hk : KeptW X base w tb ts)
    (hok : ts.all M.wOk = true) (hl : ts.length ≤ 200) (hown : M.own V (M.lits ts) = true) (hB : 3 * (21 * ts.length) + 62 ≤ B) (hV : V + B ≤ 20000) :
    Calls Tryd.prog 31 #[.pointer (some ⟨p, 0, none⟩), .slice tb ts.length tc] w (BitsPost X w base p V B ts) := by
  have h1 := M.wLen_le hok
  have h2 := M.sum_le hok
  have h3 : (M.dig (M.wSum ts)).length ≤ 31 := M.dig_len (by omega)
  exact bits_tight base p V B a c tb tc ts w hF hb hz hk hok hl hown (by omega) hV
end Go.Proofs.YtllkeojkejbbeaaDoor
