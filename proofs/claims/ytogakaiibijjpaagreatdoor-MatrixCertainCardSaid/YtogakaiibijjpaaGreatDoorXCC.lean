/- For every input MatrixCertain returns true and leaves its arguments as they read; no condition. -/
import Derived.Test.YtogakaiibijjpaaGreatDoorW9
/- The law MatrixIdentity: the walk. -/
set_option linter.unusedVariables false
set_option linter.unusedSimpArgs false
namespace Go.Proofs.YtogakaiibijjpaaGreatDoor
open Go.RowKit
open DDig DLin

/-- A row as a table of one row. -/
theorem one_table {w : World} {u : Value} {n : Nat} {f : Nat → Rat} (h : SlQ w u n f) {g : Nat} {e : TypeId} (hb : Blk w g e [u]) : MatQ w (.slice (some ⟨g, 0, none⟩) 1 1) 1 n (fun _ => f) :=
  ⟨_, 1, rfl, Nat.le_refl _, by simp, fun _ => ⟨g, 0, rfl, fun i hi => by
    have : i = 0 := by omega
    subst this
    exact ⟨u, hb.cell rfl, h⟩⟩⟩

theorem one_size (n : Nat) : TSz one n n 1 := fun i _ j _ => by
  unfold one
  split
  · exact RSz.one (by omega)
  · exact RSz.zero (by omega)

set_option maxRecDepth 100000 in
set_option maxHeartbeats 8000000 in
theorem law_identity (w : World) (n0 : Int) (A : Option Addr) (l c0 : Nat) (N D : Nat → Int) (h : EntR w A l N D) (hl : l ≤ 9223372036854775807) (hg : Gl w) :
    Calls Tryz.prog 4 #[.int .i64 n0, .slice A l c0] w (Ret w fun _ v => v = .bool true) := by
  have H := Hid.mk h
  have HG := Hid.mk hg
  clear h hg
  go_enter Tryz.func4, Tryz.ntmps4
  go_wp2_with fail
  refine (law_known _ HG.out).mono ?_
  rintro e w1 ⟨⟨v1, rfl, rfl⟩, hx1⟩
  have HX := Hid.mk hx1
  clear hx1
  by_cases h20 : 20 < l
  · have h20' : (20 : Int) < (l : Int) := by omega
    go_wp2_with fail
    refine (law_known _ (HG.out.x HX.out)).mono ?_
    rintro e w2 ⟨⟨v2, rfl, rfl⟩, hx2⟩
    replace HX := Hid.mk (HX.out.trans hx2)
    clear hx2
    go_wp2_with fail
    go_ret
    exact ⟨⟨_, rfl, rfl⟩, HX.out⟩
  · have h20' : ¬ (20 : Int) < (l : Int) := by omega
    go_wp2_with fail
    by_cases hr : n0 < 0 ∨ 96 < n0
    · refine (mat_identity_range _ n0 hr).mono ?_
      rintro e w2 ⟨⟨v2, rfl, rfl⟩, hx2⟩
      replace HX := Hid.mk (HX.out.trans hx2)
      clear hx2
      rcases hr with hr | hr
      · go_wp2_with fail
        go_ret
        exact ⟨⟨_, rfl, rfl⟩, HX.out⟩
      · have hr0 : ¬ n0 < 0 := by omega
        go_wp2_with fail
        go_ret
        exact ⟨⟨_, rfl, rfl⟩, HX.out⟩
    · obtain ⟨n, hn⟩ : ∃ n : Nat, n0 = n := ⟨n0.toNat, by omega⟩
      subst hn
      have hn96 : n ≤ 96 := by omega
      have hr0 : ¬ (n : Int) < 0 := by omega
      have hr1 : ¬ (96 : Int) < (n : Int) := by omega
      have hnn : ((n : Int) != (n : Int)) = false := by simp
      clear hr
      refine (mat_identity _ n hn96).mono ?_
      rintro e w2 ⟨⟨v2, rfl, R, rfl, hR⟩, hx2⟩
      replace HX := Hid.mk (HX.out.trans hx2)
      have HR := Hid.mk hR
      clear hx2 hR
      go_wp2_with fail
      refine (mat_Size _ _ n n one HR.out (by omega) (by omega) n (by split <;> omega)).mono ?_
      rintro e w3 ⟨⟨v3, rfl, rfl⟩, hx3⟩
      replace HX := Hid.mk (HX.out.trans hx3)
      replace HR := Hid.mk (HR.out.x hx3)
      clear hx3
      go_wp2_with fail
      refine (law_line _ A l c0 n N D (H.out.x HX.out) (by omega) hl).mono ?_
      rintro e w4 ⟨⟨v4, rfl, hv4⟩, hx4⟩
      replace HX := Hid.mk (HX.out.trans hx4)
      replace HR := Hid.mk (HR.out.x hx4)
      have HL := Hid.mk hv4
      have HSZ : Hid (∀ j, j < n → RSz (entv l N D j) 1) := fun j hj => entv_size w H.out j
      obtain ⟨f, hf⟩ : ∃ f, f = entv l N D := ⟨_, rfl⟩
      rw [← hf] at HL HSZ
      clear hx4 hv4 hf
      go_wp2_with fail
      refine (law_list _ _ n f HL.out (by omega) 1 HSZ.out (by omega) (HG.out.x HX.out)).mono ?_
      rintro e w5 ⟨⟨v5, rfl, hv5⟩, hx5⟩
      replace HX := Hid.mk (HX.out.trans hx5)
      replace HR := Hid.mk (HR.out.x hx5)
      have HV := Hid.mk hv5
      obtain ⟨VA, vc, rfl, -, -, -⟩ := id hv5
      clear hx5 hv5 HL
      go_wp2_with fail
      refine (mat_apply _ _ _ n n n one f HR.out HV.out (by omega) (by omega) (Or.inr rfl) (by omega) 1 1 (one_size n) HSZ.out (by omega)).mono ?_
      rintro e w6 ⟨⟨v6, rfl, Y, rfl, hY⟩, hx6⟩
      replace HX := Hid.mk (HX.out.trans hx6)
      replace HV := Hid.mk (HV.out.x hx6)
      have HY : Hid (SlQ w6 Y n f) := hY.congr (fun i hi => ap_one f hi)
      obtain ⟨YA, yc, rfl, -, -, -⟩ := id hY
      clear hx6 hY HR
      go_wp2_with fail
      obtain ⟨W7, hW7, hX7, p0, p1⟩ := setup2 w6 #[.slice VA n vc] #[.slice YA n yc] 49 49
      rw [hW7]
      clear hW7
      replace HX := Hid.mk (HX.out.trans hX7)
      have hV := one_table (HV.out.x hX7) p0
      have hY := one_table (HY.out.x hX7) p1
      refine (mat_equal _ _ _ 1 n (fun _ => f) hV hY (by omega) (by omega) 1 (fun i _ j hj => HSZ.out j hj) (by omega)).mono ?_
      rintro e w8 ⟨⟨v8, rfl, rfl⟩, hx8⟩
      replace HX := Hid.mk (HX.out.trans hx8)
      clear hx8 hV hY p0 p1 hX7
      go_wp2_with fail
      go_ret
      exact ⟨⟨_, rfl, rfl⟩, HX.out⟩
end Go.Proofs.YtogakaiibijjpaaGreatDoor

/- The law MatrixCertain: the walk. -/
set_option linter.unusedVariables false
set_option linter.unusedSimpArgs false
namespace Go.Proofs.YtogakaiibijjpaaGreatDoor
open Go.RowKit
open DDig DLin

theorem sol_size {m c b : Nat} {W : Mat} (hb : 0 < b) (hs : TSz W m (c + 1) b) (hm : 5 ^ m * b ≤ 1000000) : ∀ j, RSz (solv (steps m W c) c j) 1000000 := fun j => by
  obtain ⟨h1, h2, h3⟩ := steps_size hb hs c (by omega)
  have h4 : 5 ^ (steps m W c).piv.length ≤ 5 ^ m := Nat.pow_le_pow_right (by omega) h3
  have h5 := Nat.mul_le_mul_right b h4
  unfold solv
  split
  · next hj =>
    have := List.idxOf_lt_length_iff.2 hj
    exact (h1 _ (by omega) c (by omega)).mono (by omega)
  · exact RSz.zero (by omega)
theorem ap_size {m c : Nat} {M : Mat} {f : Nat → Rat} (hc : c ≤ 6) (hs : TSz M m c 1) (hf : ∀ j, RSz (f j) 1) : ∀ i, i < m → RSz (ap c M f i) 20 := fun i hi => by
  have := dot_size (n := c) (f := fun j => M i j) (e := f) (fun j hj => hs i hi j hj) (fun j _ => hf j) c (Nat.le_refl _)
  exact this.mono (by omega)
theorem TSz.mono {M : Mat} {m c b d : Nat} (h : TSz M m c b) (hb : b ≤ d) : TSz M m c d := fun i hi j hj => (h i hi j hj).mono hb

set_option maxRecDepth 100000 in
set_option maxHeartbeats 8000000 in
theorem law_certain (w : World) (C : Int) (A : Option Addr) (n0 c0 : Nat) (L : Nat → Nat) (N D : Nat → Nat → Int) (h : RowsR w A n0 L N D) (hC : 0 ≤ C ∧ C ≤ 255) (hn : n0 ≤ 9223372036854775807)
    (A' : Option Addr) (l c0' : Nat) (N' D' : Nat → Int) (h' : EntR w A' l N' D') (hl : l ≤ 9223372036854775807) (hg : Gl w) :
    Calls Tryz.prog 10 #[.agg #[.int .u8 C, .slice A n0 c0], .slice A' l c0'] w (Ret w fun _ v => v = .bool true) := by
  have H := Hid.mk h
  have H' := Hid.mk h'
  have HG := Hid.mk hg
  clear h h' hg
  obtain ⟨m, hm⟩ : ∃ m, m = min n0 5 := ⟨_, rfl⟩
  obtain ⟨c, hc⟩ : ∃ c, c = if m = 0 then 0 else (C % 7).toNat := ⟨_, rfl⟩
  obtain ⟨M, hM⟩ : ∃ M, M = tabv L N D := ⟨_, rfl⟩
  obtain ⟨hm5, hc6, hmc, hS⟩ := table_start H.out hC hm hc
  rw [← hM] at hS
  obtain ⟨f, hf⟩ : ∃ f, f = entv l N' D' := ⟨_, rfl⟩
  have HF := Hid.mk hf
  have HSF : Hid (∀ j, RSz (f j) 1) := fun j => by rw [hf]; exact entv_size w H'.out j
  have HM := Hid.mk hm
  have HCc := Hid.mk hc
  have HMM := Hid.mk hM
  have HS := Hid.mk hS
  have HMC := Hid.mk hmc
  have hp5 := pow_small (m := m + 1) (by omega)
  have hp6 := pow_small (m := m) (by omega)
  have hp7 := pow_small (m := c) (by omega)
  have HP5 : Hid (5 ^ (m + 1) * 20 ≤ 1000000) := by (show 5 ^ (m + 1) * 20 ≤ 1000000; omega)
  have HP6 : Hid (5 ^ m * 20 ≤ 1000000) := by (show 5 ^ m * 20 ≤ 1000000; omega)
  have HP7 : Hid (5 ^ (c + 1) * 20 ≤ 10000000) := by (show 5 ^ (c + 1) * 20 ≤ 10000000; rw [Nat.pow_succ]; omega)
  have HP8 : Hid (5 ^ c * 20 ≤ 1000000) := by (show 5 ^ c * 20 ≤ 1000000; omega)
  have HST : Hid (TSz (transposed M) c m 1) := fun i hi j hj => HS.out j hj i hi
  have HAS : Hid (∀ i, i < m → RSz (ap c M f i) 20) := ap_size hc6 HS.out HSF.out
  have HAT : Hid (∀ i, i < c → RSz (ap m (transposed M) f i) 20) := ap_size (by omega) HST.out HSF.out
  clear hm hc hM hS hmc hp5 hp6 hp7 hf
  go_enter Tryz.func10, Tryz.ntmps10
  go_upto_region 1 with (fail)
  obtain ⟨W, hW, hX, b0, hWs⟩ := setup1 w #[.int .u8 C, .slice A n0 c0] 24
  rw [hW]
  clear hW hWs
  have B0 := Hid.mk b0
  have HXW := Hid.mk hX
  clear b0 hX
  go_wp2_with fail
  refine (law_known _ (HG.out.x HXW.out)).mono ?_
  rintro e w1 ⟨⟨v1, rfl, rfl⟩, hx1⟩
  have HX := Hid.mk (HXW.out.trans hx1)
  have B1 := Hid.mk (B0.out.x hx1)
  have hb0 := B1.out
  have k0 := hb0.cell (j := 0) rfl; have k1 := hb0.cell (j := 1) rfl
  clear hb0 hx1 HXW B0
  by_cases h10 : 10 < l
  · have h10' : (10 : Int) < (l : Int) := by omega
    go_wp2_with fail
    refine (law_known _ (HG.out.x HX.out)).mono ?_
    rintro e w2 ⟨⟨v2, rfl, rfl⟩, hx2⟩
    replace HX := Hid.mk (HX.out.trans hx2)
    clear hx2
    go_wp2_with fail
    go_ret
    exact ⟨⟨_, rfl, rfl⟩, HX.out⟩
  have h10' : ¬ (10 : Int) < (l : Int) := by omega
  go_wp2_with fail
  refine (law_rows _ C A n0 c0 L N D (H.out.x HX.out) hC hn).mono ?_
  rintro e w2 ⟨⟨t, rfl, ht⟩, hx2⟩
  replace HX := Hid.mk (HX.out.trans hx2)
  replace B1 := Hid.mk (B1.out.x hx2)
  have HT : Hid (MatF w2 t m c M) := by rw [HMM.out]; exact table_rows ht HM.out HCc.out
  obtain ⟨TA, ta, rfl, -, -, -⟩ := id HT.out
  clear ht hx2 k0 k1
  go_wp2_with fail
  refine (law_own _ _ m c M HT.out (by omega) (by omega) 1 HS.out (by omega) (HG.out.x HX.out)).mono ?_
  rintro e w4 ⟨⟨v4, rfl, hv4⟩, hx4⟩
  replace HX := Hid.mk (HX.out.trans hx4)
  replace B1 := Hid.mk (B1.out.x hx4)
  have HV := Hid.mk hv4
  obtain ⟨VA, va, rfl, -, -, -⟩ := id hv4
  have hb0 := B1.out
  have k0 := hb0.cell (j := 0) rfl; have k1 := hb0.cell (j := 1) rfl
  clear hb0 hx4 hv4 HT B1
  go_wp2_with fail
  refine (law_rows _ C A n0 c0 L N D (H.out.x HX.out) hC hn).mono ?_
  rintro e w3 ⟨⟨t, rfl, ht⟩, hx3⟩
  replace HX := Hid.mk (HX.out.trans hx3)
  replace HV := Hid.mk (HV.out.x hx3)
  have HT : Hid (MatF w3 t m c M) := by rw [HMM.out]; exact table_rows ht HM.out HCc.out
  clear ht hx3 k0 k1
  go_wp2_with fail
  refine (ref_columns _ _ m c M HT.out (by omega) c (by have := HMC.out; split <;> omega)).mono ?_
  rintro e w5 ⟨⟨v5, rfl, rfl⟩, hx5⟩
  replace HX := Hid.mk (HX.out.trans hx5)
  replace HV := Hid.mk (HV.out.x hx5)
  clear hx5 HT
  go_wp2_with fail
  refine (law_line _ A' l c0' c N' D' (H'.out.x HX.out) (by omega) hl).mono ?_
  rintro e w6 ⟨⟨v6, rfl, hv6⟩, hx6⟩
  rw [← HF.out] at hv6
  replace HX := Hid.mk (HX.out.trans hx6)
  replace HV := Hid.mk (HV.out.x hx6)
  have HL := Hid.mk hv6
  clear hx6 hv6
  go_wp2_with fail
  refine (law_list _ _ c f HL.out (by omega) 1 (fun j _ => HSF.out j) (by omega) (HG.out.x HX.out)).mono ?_
  rintro e w7 ⟨⟨v7, rfl, hv7⟩, hx7⟩
  replace HX := Hid.mk (HX.out.trans hx7)
  replace HV := Hid.mk (HV.out.x hx7)
  have HXX := Hid.mk hv7
  clear hx7 hv7 HL
  go_wp2_with fail
  refine (mat_apply _ _ _ m c c M f HV.out HXX.out (by omega) (by omega) (Or.inr rfl) (by omega) 1 1 HS.out (fun j _ => HSF.out j) (by omega)).mono ?_
  rintro e w8 ⟨⟨v8, rfl, R, rfl, hR⟩, hx8⟩
  replace HX := Hid.mk (HX.out.trans hx8)
  replace HV := Hid.mk (HV.out.x hx8)
  have HB := Hid.mk hR
  clear hx8 hR HXX
  go_wp2_with fail
  refine (mat_solve _ _ _ m c M (ap c M f) HV.out HB.out (by omega) (by omega) HMC.out 20 (by omega) (HS.out.mono (by omega)) HAS.out (Nat.le_trans HP5.out (by omega))).mono ?_
  rintro e w9 ⟨⟨v9, rfl, hP⟩, hx9⟩
  have hyes := solve_no (m := m) (n := c) (M := M) (b := ap c M f) (x := f) (fun i _ => rfl)
  obtain ⟨Y, rfl, hY⟩ := hP.1 hyes
  have hsol := solve_yes hyes
  have HYS : Hid (∀ j, RSz (solv (steps m (wide c M (ap c M f)) c) c j) 1000000) := sol_size (by omega) (tsz_wide (HS.out.mono (by omega)) HAS.out) HP6.out
  obtain ⟨y, hy⟩ : ∃ y, y = solv (steps m (wide c M (ap c M f)) c) c := ⟨_, rfl⟩
  rw [← hy] at hY hsol HYS
  have HSOL := Hid.mk hsol
  replace HX := Hid.mk (HX.out.trans hx9)
  replace HV := Hid.mk (HV.out.x hx9)
  replace HB := Hid.mk (HB.out.x hx9)
  have HY := Hid.mk hY
  obtain ⟨YA, ya, rfl, -, -, -⟩ := id hY
  have hcc : ((c : Int) != (c : Int)) = false := by simp
  clear hx9 hP hyes hsol hy hY
  go_wp2_with fail
  refine (mat_apply _ _ _ m c c M y HV.out HY.out (by omega) (by omega) (Or.inr rfl) (by omega) 1 1000000 HS.out (fun j _ => HYS.out j) (by omega)).mono ?_
  rintro e wa ⟨⟨va2, rfl, R2, rfl, hR2⟩, hxa⟩
  replace HX := Hid.mk (HX.out.trans hxa)
  replace HV := Hid.mk (HV.out.x hxa)
  replace HB := Hid.mk (HB.out.x hxa)
  have HB2 : Hid (SlQ wa R2 m (ap c M f)) := hR2.congr (fun i hi => HSOL.out i hi)
  obtain ⟨BA, ba, rfl, -, -, -⟩ := id HB.out
  obtain ⟨BB, bb, rfl, -, -, -⟩ := id HB2.out
  clear hxa hR2 HY
  go_wp2_with fail
  have hxl : X wa ((wa.alloc (.cells #[.slice BA m ba] 49)).alloc (.cells #[.slice BB m bb] 49)) := ((X.refl _).alloc _).alloc _
  have h1 := one_table (HB.out.x hxl) ((Blk.new wa #[.slice BA m ba] 49).x ((X.refl _).alloc (.cells #[.slice BB m bb] 49)))
  have h2 := one_table (HB2.out.x hxl) (Blk.new_at (g := wa.heap.size + 1) (wa.alloc (.cells #[.slice BA m ba] 49)) #[.slice BB m bb] 49 (by simp))
  refine (mat_equal _ _ _ 1 m _ h1 h2 (by omega) (by omega) 20 (fun i _ j hj => HAS.out j hj) (by omega)).mono ?_
  rintro e wb ⟨⟨vb, rfl, rfl⟩, hxb⟩
  replace HX := Hid.mk (HX.out.trans (hxl.trans hxb))
  replace HV := Hid.mk (HV.out.x (hxl.trans hxb))
  clear hxl h1 h2 hxb HB HB2
  go_wp2_with fail
  refine (mat_transpose _ _ m c M HV.out (by omega) (by omega) c (by have := HMC.out; split <;> omega)).mono ?_
  rintro e wc ⟨⟨vc, rfl, R3, rfl, hR3⟩, hxc⟩
  replace HX := Hid.mk (HX.out.trans hxc)
  replace HV := Hid.mk (HV.out.x hxc)
  have HTR := Hid.mk hR3
  obtain ⟨RA, ra, rfl, -, -, -⟩ := id hR3
  clear hxc hR3
  go_wp2_with fail
  refine (law_line _ A' l c0' m N' D' (H'.out.x HX.out) (by omega) hl).mono ?_
  rintro e wd ⟨⟨vd, rfl, hvd⟩, hxd⟩
  rw [← HF.out] at hvd
  replace HX := Hid.mk (HX.out.trans hxd)
  replace HV := Hid.mk (HV.out.x hxd)
  replace HTR := Hid.mk (HTR.out.x hxd)
  have HL := Hid.mk hvd
  clear hxd hvd
  go_wp2_with fail
  refine (law_list _ _ m f HL.out (by omega) 1 (fun j _ => HSF.out j) (by omega) (HG.out.x HX.out)).mono ?_
  rintro e we ⟨⟨ve, rfl, hve⟩, hxe⟩
  replace HX := Hid.mk (HX.out.trans hxe)
  replace HV := Hid.mk (HV.out.x hxe)
  replace HTR := Hid.mk (HTR.out.x hxe)
  have HXX := Hid.mk hve
  clear hxe hve HL
  go_wp2_with fail
  refine (mat_apply _ _ _ c m m (transposed M) f HTR.out HXX.out (by omega) (by omega) (Or.inr rfl) (by omega) 1 1 HST.out (fun j _ => HSF.out j) (by omega)).mono ?_
  rintro e wf ⟨⟨vf, rfl, R4, rfl, hR4⟩, hxf⟩
  replace HX := Hid.mk (HX.out.trans hxf)
  replace HV := Hid.mk (HV.out.x hxf)
  replace HTR := Hid.mk (HTR.out.x hxf)
  have HB := Hid.mk hR4
  obtain ⟨CA, ca, rfl, -, -, -⟩ := id hR4
  clear hxf hR4 HXX
  go_wp2_with fail
  refine (mat_combine _ _ _ m c M (ap m (transposed M) f) HV.out HB.out (by omega) (by omega) HMC.out 20 (by omega) (HS.out.mono (by omega)) HAT.out (Nat.le_trans HP7.out (by omega))).mono ?_
  rintro e wg ⟨⟨vg, rfl, hP⟩, hxg⟩
  have hyes := solve_no (m := c) (n := m) (M := transposed M) (b := ap m (transposed M) f) (x := f) (fun i _ => rfl)
  obtain ⟨Y, rfl, hY⟩ := hP.1 hyes
  have hsol := solve_yes hyes
  have HYS2 : Hid (∀ j, RSz (solv (steps c (wide m (transposed M) (ap m (transposed M) f)) m) m j) 1000000) := sol_size (by omega) (tsz_wide (HST.out.mono (by omega)) HAT.out) HP8.out
  obtain ⟨z, hz⟩ : ∃ z, z = solv (steps c (wide m (transposed M) (ap m (transposed M) f)) m) m := ⟨_, rfl⟩
  rw [← hz] at hY hsol HYS2
  have HSOL2 := Hid.mk hsol
  replace HX := Hid.mk (HX.out.trans hxg)
  replace HTR := Hid.mk (HTR.out.x hxg)
  replace HB := Hid.mk (HB.out.x hxg)
  have HY := Hid.mk hY
  obtain ⟨ZA, za, rfl, -, -, -⟩ := id hY
  have hmm : ((m : Int) != (m : Int)) = false := by simp
  clear hxg hP hyes hsol hz hY HV
  go_wp2_with fail
  refine (mat_apply _ _ _ c m m (transposed M) z HTR.out HY.out (by omega) (by omega) (Or.inr rfl) (by omega) 1 1000000 HST.out (fun j _ => HYS2.out j) (by omega)).mono ?_
  rintro e wh ⟨⟨vh, rfl, R5, rfl, hR5⟩, hxh⟩
  replace HX := Hid.mk (HX.out.trans hxh)
  replace HB := Hid.mk (HB.out.x hxh)
  have HB2 : Hid (SlQ wh R5 c (ap m (transposed M) f)) := hR5.congr (fun i hi => HSOL2.out i hi)
  obtain ⟨DA, da, rfl, -, -, -⟩ := id HB2.out
  clear hxh hR5 HY HTR
  go_wp2_with fail
  have hxl : X wh ((wh.alloc (.cells #[.slice DA c da] 49)).alloc (.cells #[.slice CA c ca] 49)) := ((X.refl _).alloc _).alloc _
  have h1 := one_table (HB2.out.x hxl) ((Blk.new wh #[.slice DA c da] 49).x ((X.refl _).alloc (.cells #[.slice CA c ca] 49)))
  have h2 := one_table (HB.out.x hxl) (Blk.new_at (g := wh.heap.size + 1) (wh.alloc (.cells #[.slice DA c da] 49)) #[.slice CA c ca] 49 (by simp))
  refine (mat_equal _ _ _ 1 c _ h1 h2 (by omega) (by omega) 20 (fun i _ j hj => HAT.out j hj) (by omega)).mono ?_
  rintro e wi ⟨⟨vi, rfl, rfl⟩, hxi⟩
  replace HX := Hid.mk (HX.out.trans (hxl.trans hxi))
  clear hxl h1 h2 hxi HB HB2
  go_wp2_with fail
  go_ret
  exact ⟨⟨_, rfl, rfl⟩, HX.out⟩
end Go.Proofs.YtogakaiibijjpaaGreatDoor

/- For every input MatrixCertain returns true and leaves its arguments as they read; no condition. -/
set_option linter.unusedVariables false
set_option linter.unusedSimpArgs false
namespace Go.Proofs.YtogakaiibijjpaaGreatDoor
open Go.ChangeShapes Go.WideShapes Go.ChangeAt Go.RowKit Go.Deep Go.Joins

theorem matrixCertain_reads (os : Os) {H : Type} (enc : TypeId × Value → H) : ∃ places, DataW.whole enc Tryz.prog ((World.laidAll Tryz.prog os Rows.matrixCertainRow.laid).forCall (fun _ _ => 0) ⟨#[], #[.agg #[.int .u8 0, .slice none 0 0], .slice none 0 0], []⟩).memory Tryz.f10.params.toList Rows.matrixCertainSpec.vars false #[(.agg #[.int .u8 0, .slice none 0 0] : Value), .slice none 0 0].toList 8 = some ([.agg [.lit (.int .u8 0), .nil], .nil], [], places) :=
  ⟨[], by kernel_rfl⟩

set_option maxRecDepth 100000 in
theorem matrixCertain_lifted (os : Os) (started : os.Started) (H : Type) (enc : TypeId × Value → H) (F : Stop.Interp) :
    ReturnsInHanded {} Tryz.checked os 10 .any ((OpenSpec.ofChange Rows.matrixCertainSpec).preRow enc Tryz.prog Tryz.f10 Rows.matrixCertainRow.domain false Rows.matrixCertainRow.laid) (((OpenSpec.ofChange Rows.matrixCertainSpec).at F).post enc Tryz.prog Tryz.f10 false true false false) := by
  obtain ⟨places, hx⟩ := matrixCertain_reads os enc
  refine returnsInHanded_of_row (C := Tryz.checked) (s := OpenSpec.ofChange Rows.matrixCertainSpec) own started (by kernel_rfl) Tryz.func10
    (witness_row_atRef (enc := enc) (C := Tryz.checked) false (World.laidAll Tryz.prog os Rows.matrixCertainRow.laid) #[.agg #[.int .u8 0, .slice none 0 0], .slice none 0 0] (World.laidAll_os _ _ _) (by kernel_rfl) (by kernel_rfl) (by kernel_rfl)
      (OpenSpec.preRow_of_cond 8 hx (by kernel_rfl) (fun k hk => by cases hk) (by kernel_rfl) (by rw [MakeChecks.laidMetH_plain _ _ _ (by kernel_rfl)]; exact laidMet_laidAll _ (by kernel_rfl) (by kernel_rfl)))) ?_
  intro W base args ds gs before hval0 hW _ _ _ hL hsh _
  have hval : ∀ (j : Nat) t v, Tryz.f10.params[j]? = some t → args[j]? = some v → Value.okWide Tryz.prog W .any base t v := hval0
  have hW' := hW
  obtain ⟨p, q, hA0, hV, rfl, hfz, hnd⟩ := hW
  have hA : DataW.TrodAll enc Tryz.prog W 0 (fun _ => true) true Tryz.f10.params.toList args.toList ds p := hA0
  rw [Tryz.params10] at hA hval
  obtain ⟨v0, vs0, d0, ds0, p0, q0, hargs, rfl, rfl, h0, r0⟩ := trodAll_cons hA
  obtain ⟨v1, vs1, d1, ds1, p1, q1, rfl, rfl, rfl, h1, r1⟩ := trodAll_cons r0
  obtain ⟨rfl, rfl, rfl⟩ := trodAll_nil r1
  obtain rfl : args = #[v0, v1] := by cases args; simp_all
  obtain ⟨rfl, rfl⟩ := trodVars_none hV
  have hlt := fun x hx => hW'.lt x hx
  obtain ⟨C0, A0, n0, c0, L0, N0, D0, rfl, hC0, hn0, hR0⟩ := open_table (hval 0 24 v0 rfl rfl) h0
  obtain ⟨A1, n1, c1, N1, D1, rfl, hn1, hE1⟩ := open_entry_arg (hval 1 45 v1 rfl rfl) h1
  have hL1 := laidMetH.filter (fun x => x.1 == "internal/strconv.uint64pow10") hL
  rw [show (Rows.matrixCertainRow.laid.filter fun x => x.1 == "internal/strconv.uint64pow10") = [("internal/strconv.uint64pow10", Rows.laid_internal_strconv_uint64pow10)] by kernel_rfl] at hL1
  have hg : Gl W := ⟨pow_tab hL1, max_shape hsh⟩
  refine (law_certain W C0 A0 n0 c0 L0 N0 D0 hR0 hC0 hn0 A1 n1 c1 N1 D1 hE1 hn1 hg).mono ?_
  rintro e W' ⟨⟨v, rfl, rfl⟩, hb⟩
  exact ⟨_, rfl, _, _, _, [], _, [], hW', trodAll_mk1 (shut_bool Tryz.underlying4 _), (trodAll_cons_mk (Below.trod laidOut (by kernel_rfl) (of_decide_eq_true (by kernel_rfl)) h0 hb (fun x hx => hlt x (by simp [hx]))) (trodAll_cons_mk (Below.trod laidOut (by kernel_rfl) (of_decide_eq_true (by kernel_rfl)) h1 hb (fun x hx => hlt x (by simp [hx]))) trodAll_mk0)), rfl, hb.frame _, fun h => by cases h⟩

theorem matrixCertain_said : Rows.MatrixCertainSaid :=
  OpenClaim.holds_of_cond 10 Tryz.f10 rfl rfl rfl rfl rfl rfl rfl ⟨rfl, rfl, rfl, rfl, rfl⟩ rfl rfl rfl rfl rfl (by kernel_rfl) Tryz.func10 (by kernel_rfl)
    (of_decide_eq_true (by kernel_rfl)) (by unfold Func.isWrapper; first | (rw [if_pos (by decide +kernel)]; kernel_rfl) | (rw [if_neg (by decide +kernel)]; exact ⟨rfl, rfl⟩))
    (fun os started H enc _ F => by rw [OpenClaim.pre_eq_preRow]; exact matrixCertain_lifted os started H enc F)

theorem matrixCertain_plain (f : FuncId) (fn : Func) (hf : Tryz.pinned.checked.prog.funcNamed "dowel/dowellaw05.MatrixCertain" = some f) (hfn : Tryz.pinned.checked.prog.funcs[f]? = some fn) :
    true = Tryz.pinned.checked.prog.looks [] ∧ ∀ (j : Nat) t, fn.params[j]? = some t → Tryz.pinned.checked.prog.wantsStandIn t = false := by
  obtain rfl : f = 10 := Option.some.inj ((show Tryz.prog.funcNamed "dowel/dowellaw05.MatrixCertain" = some 10 by kernel_rfl).symm.trans hf) |>.symm
  obtain rfl : fn = Tryz.f10 := (Option.some.inj (Tryz.func10.symm.trans hfn)).symm
  refine ⟨by kernel_rfl, fun j t ht => ?_⟩
  rw [Tryz.params10] at ht
  have hm : t ∈ [24, 45] := by
    have := Array.mem_of_getElem? ht
    simp at this ⊢
    omega
  have hall : ([24, 45].all fun u => !Tryz.prog.wantsStandIn u) = true := by kernel_rfl
  exact (show Tryz.prog.wantsStandIn t = false by simpa using List.all_eq_true.1 hall t hm)

theorem matrixCertain_card : Rows.MatrixCertainCardSaid :=
  Claim7.holds_tied_plain_at .later [] _ _ _ _ matrixCertain_said (fun _ h => by cases h) (by kernel_rfl) (fun _ h => by cases h) matrixCertain_row_tie rfl ⟨rfl, rfl⟩ (by kernel_rfl) rfl matrixCertain_plain (by kernel_rfl)
#print axioms matrixCertain_card
end Go.Proofs.YtogakaiibijjpaaGreatDoor
