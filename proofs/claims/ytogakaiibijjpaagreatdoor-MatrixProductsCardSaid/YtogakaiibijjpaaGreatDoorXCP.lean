/- For every input MatrixProducts returns true and leaves its arguments as they read; no condition. -/
import Derived.Test.YtogakaiibijjpaaGreatDoorW9
/- The law MatrixProducts: the walk. -/
set_option linter.unusedVariables false
set_option linter.unusedSimpArgs false
namespace Go.Proofs.YtogakaiibijjpaaGreatDoor
open Go.RowKit
open DDig DLin

theorem prodv_size {m c p q : Nat} {A B : Mat} (hA : TSz A m c 1) (hB : TSz B p q 1) (hcp : c ≤ p) (hc : c ≤ 6) : TSz (prodv c A B) m q 20 := fun i hi j hj =>
  (dot_size (k := 1) (l := 1) (fun t ht => hA i hi t ht) (fun t ht => hB t (by omega) j hj) c (Nat.le_refl _)).mono (by omega)
theorem ap_size {m c : Nat} {A : Mat} {f : Nat → Rat} (hA : TSz A m c 1) (hf : ∀ j, j < c → RSz (f j) 1) (hc : c ≤ 6) : ∀ i, i < m → RSz (ap c A f i) 20 := fun i hi =>
  (dot_size (k := 1) (l := 1) (fun t ht => hA i hi t ht) hf c (Nat.le_refl _)).mono (by omega)

/-- What Mul answers. -/
def MulP (m c p q : Nat) (A B : Mat) (w' : World) (v' : Value) : Prop :=
  (0 < m ∧ c ≠ p → v' = .tuple #[.slice none 0 0, .int .i64 13]) ∧ (¬ (0 < m ∧ c ≠ p) → ∃ R, v' = .tuple #[R, .int .i64 0] ∧ MatQ w' R m q (prodv c A B))
theorem MulP.x {m c p q : Nat} {A B : Mat} {w w' : World} {v : Value} (h : MulP m c p q A B w v) (hx : X w w') : MulP m c p q A B w' v :=
  ⟨h.1, fun h0 => by
    obtain ⟨R, e, hR⟩ := h.2 h0
    exact ⟨R, e, hR.x hx⟩⟩

theorem MulP.form {m c p q : Nat} {A B : Mat} {w : World} {v : Value} (h : MulP m c p q A B w v) : ∃ (Q : Value) (g : Int), v = .tuple #[Q, .int .i64 g] := by
  by_cases h0 : 0 < m ∧ c ≠ p
  · exact ⟨_, _, h.1 h0⟩
  · obtain ⟨R, e, -⟩ := h.2 h0
    exact ⟨_, _, e⟩
theorem mat_mul_any (w : World) (v u : Value) (m c p q : Nat) (A B : Mat) (h : MatQ w v m c A) (h' : MatQ w u p q B) (hm : m ≤ 5) (hc : c ≤ 6) (hp : p ≤ 5) (hq : q ≤ 6) (hpq : p = 0 → q = 0) (hs : TSz A m c 1) (hs' : TSz B p q 1) :
    Calls Tryz.prog 44 #[v, u] w (Ret w (MulP m c p q A B)) := by
  by_cases h0 : 0 < m ∧ c ≠ p
  · refine (mat_mul_size _ _ _ m c p q A B h h' (by omega) (by omega) (by omega) (by omega) h0.1 h0.2).mono ?_
    rintro e w' ⟨⟨v, rfl, hv⟩, hx⟩
    exact ⟨⟨v, rfl, fun _ => hv, fun h => absurd h0 h⟩, hx⟩
  · refine (mat_mul _ _ _ m c p q A B h h' (by omega) (by omega) (by omega) (by omega) (by omega) q (by split <;> omega) 1 1 hs hs' (by omega)).mono ?_
    rintro e w' ⟨⟨v, rfl, hv⟩, hx⟩
    exact ⟨⟨v, rfl, fun h => absurd h h0, fun _ => hv⟩, hx⟩

/-- What Apply answers. -/
def ApplyP (m c q : Nat) (A : Mat) (f : Nat → Rat) (w' : World) (v' : Value) : Prop :=
  (0 < m ∧ q ≠ c → v' = .tuple #[.slice none 0 0, .int .i64 13]) ∧ (¬ (0 < m ∧ q ≠ c) → ∃ R, v' = .tuple #[R, .int .i64 0] ∧ SlQ w' R m (ap c A f))
theorem ApplyP.x {m c q : Nat} {A : Mat} {f : Nat → Rat} {w w' : World} {v : Value} (h : ApplyP m c q A f w v) (hx : X w w') : ApplyP m c q A f w' v :=
  ⟨h.1, fun h0 => by
    obtain ⟨R, e, hR⟩ := h.2 h0
    exact ⟨R, e, hR.x hx⟩⟩
theorem ApplyP.form {m c q : Nat} {A : Mat} {f : Nat → Rat} {w : World} {v : Value} (h : ApplyP m c q A f w v) : ∃ (Q : Value) (g : Int), v = .tuple #[Q, .int .i64 g] := by
  by_cases h0 : 0 < m ∧ q ≠ c
  · exact ⟨_, _, h.1 h0⟩
  · obtain ⟨R, e, -⟩ := h.2 h0
    exact ⟨_, _, e⟩
theorem mat_apply_any (w : World) (v u : Value) (m c q : Nat) (A : Mat) (f : Nat → Rat) (h : MatQ w v m c A) (h' : SlQ w u q f) (hm : m ≤ 5) (hc : c ≤ 6) (hq : q ≤ 6) (hs : TSz A m c 1) (hs' : ∀ j, j < q → RSz (f j) 1) :
    Calls Tryz.prog 26 #[v, u] w (Ret w (ApplyP m c q A f)) := by
  by_cases h0 : 0 < m ∧ q ≠ c
  · refine (mat_apply_size _ _ _ m c q A f h h' (by omega) (by omega) h0.1 (fun e => h0.2 e.symm)).mono ?_
    rintro e w' ⟨⟨v, rfl, hv⟩, hx⟩
    exact ⟨⟨v, rfl, fun _ => hv, fun h => absurd h0 h⟩, hx⟩
  · refine (mat_apply _ _ _ m c q A f h h' (by omega) (by omega) (by omega) (by omega) 1 1 hs hs' (by omega)).mono ?_
    rintro e w' ⟨⟨v, rfl, hv⟩, hx⟩
    exact ⟨⟨v, rfl, fun h => absurd h h0, fun _ => hv⟩, hx⟩

set_option maxRecDepth 100000 in
set_option maxHeartbeats 8000000 in
theorem law_products (w : World) (C : Int) (A : Option Addr) (n0 c0 : Nat) (L : Nat → Nat) (N D : Nat → Nat → Int) (h : RowsR w A n0 L N D) (hC : 0 ≤ C ∧ C ≤ 255) (hn : n0 ≤ 9223372036854775807)
    (C' : Int) (A' : Option Addr) (n0' c0' : Nat) (L' : Nat → Nat) (N' D' : Nat → Nat → Int) (h' : RowsR w A' n0' L' N' D') (hC' : 0 ≤ C' ∧ C' ≤ 255) (hn' : n0' ≤ 9223372036854775807) (hg : Gl w) :
    Calls Tryz.prog 9 #[.agg #[.int .u8 C, .slice A n0 c0], .agg #[.int .u8 C', .slice A' n0' c0']] w (Ret w fun _ v => v = .bool true) := by
  have H := Hid.mk h
  have H' := Hid.mk h'
  have HG := Hid.mk hg
  clear h h' hg
  obtain ⟨m, hm⟩ : ∃ m, m = min n0 5 := ⟨_, rfl⟩
  obtain ⟨c, hc⟩ : ∃ c, c = if m = 0 then 0 else (C % 7).toNat := ⟨_, rfl⟩
  obtain ⟨M, hM⟩ : ∃ M, M = tabv L N D := ⟨_, rfl⟩
  obtain ⟨hm5, hc6, hmc, hS⟩ := table_start H.out hC hm hc
  obtain ⟨p, hp⟩ : ∃ p, p = min n0' 5 := ⟨_, rfl⟩
  obtain ⟨q, hq⟩ : ∃ q, q = if p = 0 then 0 else (C' % 7).toNat := ⟨_, rfl⟩
  obtain ⟨B, hB⟩ : ∃ B, B = tabv L' N' D' := ⟨_, rfl⟩
  obtain ⟨hp5, hq6, hpq, hS'⟩ := table_start H'.out hC' hp hq
  rw [← hM] at hS
  rw [← hB] at hS'
  have HM := Hid.mk hm
  have HCc := Hid.mk hc
  have HMM := Hid.mk hM
  have HS := Hid.mk hS
  have HMC := Hid.mk hmc
  have HPp := Hid.mk hp
  have HQq := Hid.mk hq
  have HBB := Hid.mk hB
  have HS' := Hid.mk hS'
  have HPQ := Hid.mk hpq
  clear hm hc hM hS hmc hp hq hB hS' hpq
  go_enter Tryz.func9, Tryz.ntmps9
  go_upto_region 1 with (fail)
  obtain ⟨W, hW, hX, b0, b1⟩ := setup2 w #[.int .u8 C, .slice A n0 c0] #[.int .u8 C', .slice A' n0' c0'] 24 24
  rw [hW]
  clear hW
  have B0 := Hid.mk b0
  have B1 := Hid.mk b1
  have HXW := Hid.mk hX
  clear b0 b1 hX
  go_wp2_with fail
  refine (law_known _ (HG.out.x HXW.out)).mono ?_
  rintro e wk ⟨⟨vk, rfl, rfl⟩, hxk⟩
  have HX := Hid.mk (HXW.out.trans hxk)
  have HC := Hid.mk (fun w' (h : X wk w') => (⟨((B0.out.x hxk).x h).cell (j := 0) rfl, ((B0.out.x hxk).x h).cell (j := 1) rfl, ((B1.out.x hxk).x h).cell (j := 0) rfl, ((B1.out.x hxk).x h).cell (j := 1) rfl⟩ : w'.cell? ⟨w.heap.size, 0, none⟩ = some (.int .u8 C) ∧ w'.cell? ⟨w.heap.size, 1, none⟩ = some (.slice A n0 c0) ∧ w'.cell? ⟨w.heap.size + 1, 0, none⟩ = some (.int .u8 C') ∧ w'.cell? ⟨w.heap.size + 1, 1, none⟩ = some (.slice A' n0' c0')))
  clear HXW B0 B1 hxk
  go_wp2_with fail
  have hz0 : X wk wk.drew := ⟨rfl, rfl, rfl, Nat.le_refl _, fun _ _ => rfl⟩
  have hS0 := HC.out wk (X.refl _)
  go_region_held3 (fun w' => w'.cell? ⟨w.heap.size, 0, none⟩ = some (.int .u8 C) ∧ w'.cell? ⟨w.heap.size, 1, none⟩ = some (.slice A n0 c0) ∧ w'.cell? ⟨w.heap.size + 1, 0, none⟩ = some (.int .u8 C') ∧ w'.cell? ⟨w.heap.size + 1, 1, none⟩ = some (.slice A' n0' c0'))
    (go_keep)
    (first
      | (have hguard := hz1; go_at_call 13; refine (law_rows _ C' A' n0' c0' L' N' D' (by exact H'.out.x (HX.out.trans hz1)) hC' hn').mono ?_; rintro e w2 ⟨⟨v2, rfl, hr2⟩, hx2⟩; have hz2 : X wk w2 := hz1.trans hx2; have hr1 := hr1.x hx2; have hS2 := HC.out w2 hz2)
      | (have hguard := hz0; go_at_call 13; refine (law_rows _ C A n0 c0 L N D (by exact H.out.x (HX.out.trans hz0)) hC hn).mono ?_; rintro e w1 ⟨⟨v1, rfl, hr1⟩, hx1⟩; have hz1 : X wk w1 := hz0.trans hx1; have hS1 := HC.out w1 hz1))
  replace HX := Hid.mk (HX.out.trans hz2)
  have HT : Hid (MatF w2 v1 m c M) := by rw [HMM.out]; exact table_rows hr1 HM.out HCc.out
  have HU : Hid (MatF w2 v2 p q B) := by rw [HBB.out]; exact table_rows hr2 HPp.out HQq.out
  obtain ⟨TA, ta, rfl, -, -, -⟩ := id HT.out
  obtain ⟨UA, ua, rfl, -, -, -⟩ := id HU.out
  clear hz0 hz1 hz2 hx1 hx2 hS0 hS1 hS2 HC hr1 hr2
  -- Transpose
  go_wp2_with fail
  refine (law_own _ _ m c M HT.out (by omega) (by omega) 1 HS.out (by omega) (HG.out.x HX.out)).mono ?_
  rintro e w3 ⟨⟨v3, rfl, hv3⟩, hx3⟩
  replace HX := Hid.mk (HX.out.trans hx3)
  replace HT := Hid.mk (HT.out.x hx3)
  replace HU := Hid.mk (HU.out.x hx3)
  have HV := Hid.mk hv3
  clear hv3 hx3
  go_wp2_with fail
  refine (mat_transpose _ _ m c M HV.out (by omega) (by omega) c (by have := HMC.out; split <;> omega)).mono ?_
  rintro e w4 ⟨⟨v4, rfl, R, rfl, hR⟩, hx4⟩
  replace HX := Hid.mk (HX.out.trans hx4)
  replace HT := Hid.mk (HT.out.x hx4)
  replace HU := Hid.mk (HU.out.x hx4)
  have HR := Hid.mk hR
  clear hR hx4 HV
  -- Mul
  go_wp2_with fail
  refine (law_own _ _ m c M HT.out (by omega) (by omega) 1 HS.out (by omega) (HG.out.x HX.out)).mono ?_
  rintro e w5 ⟨⟨v5, rfl, hv5⟩, hx5⟩
  replace HX := Hid.mk (HX.out.trans hx5)
  replace HT := Hid.mk (HT.out.x hx5)
  replace HU := Hid.mk (HU.out.x hx5)
  replace HR := Hid.mk (HR.out.x hx5)
  have HV := Hid.mk hv5
  clear hv5 hx5
  go_wp2_with fail
  refine (law_own _ _ p q B HU.out (by omega) (by omega) 1 HS'.out (by omega) (HG.out.x HX.out)).mono ?_
  rintro e w6 ⟨⟨v6, rfl, hv6⟩, hx6⟩
  replace HX := Hid.mk (HX.out.trans hx6)
  replace HT := Hid.mk (HT.out.x hx6)
  replace HU := Hid.mk (HU.out.x hx6)
  replace HR := Hid.mk (HR.out.x hx6)
  replace HV := Hid.mk (HV.out.x hx6)
  have HV2 := Hid.mk hv6
  clear hv6 hx6
  go_wp2_with fail
  refine (mat_mul_any _ _ _ m c p q M B HV.out HV2.out (by omega) (by omega) (by omega) (by omega) HPQ.out HS.out HS'.out).mono ?_
  rintro e w7 ⟨⟨v7, rfl, hP⟩, hx7⟩
  have HP := Hid.mk hP
  replace HX := Hid.mk (HX.out.trans hx7)
  replace HT := Hid.mk (HT.out.x hx7)
  replace HU := Hid.mk (HU.out.x hx7)
  replace HR := Hid.mk (HR.out.x hx7)
  obtain ⟨Q, g, rfl⟩ := hP.form
  clear hP hx7 HV HV2
  -- the transposes
  go_wp2_with fail
  refine (ref_transpose _ _ m c M HT.out (by omega) (by omega) c (by have := HMC.out; split <;> omega)).mono ?_
  rintro e w8 ⟨⟨v8, rfl, hv8⟩, hx8⟩
  replace HX := Hid.mk (HX.out.trans hx8)
  replace HT := Hid.mk (HT.out.x hx8)
  replace HU := Hid.mk (HU.out.x hx8)
  replace HR := Hid.mk (HR.out.x hx8)
  replace HP := Hid.mk (HP.out.x hx8)
  have HTR := Hid.mk hv8
  have HST : Hid (TSz (transposed M) c m 1) := fun i hi j hj => HS.out j hj i hi
  clear hv8 hx8
  go_wp2_with fail
  refine (law_is _ _ _ c m (transposed M) HR.out HTR.out (by omega) (by omega) 1 HST.out (by omega) (HG.out.x HX.out)).mono ?_
  rintro e w9 ⟨⟨v9, rfl, rfl⟩, hx9⟩
  replace HX := Hid.mk (HX.out.trans hx9)
  replace HT := Hid.mk (HT.out.x hx9)
  replace HU := Hid.mk (HU.out.x hx9)
  replace HP := Hid.mk (HP.out.x hx9)
  clear hx9 HR HTR HST
  go_upto_region 8 with (fail)
  go_cut [51] (fun t51 wc => t51 = .bool (decide (0 < m ∧ c ≠ p)) ∧ X w9 wc)
  case first =>
    by_cases h0 : 0 < m
    · have h0' : (0 : Int) < (m : Int) := by omega
      go_wp2_with fail
      refine (ref_columns _ _ m c M HT.out (by omega) c (by have := HMC.out; split <;> omega)).mono ?_
      rintro e wa ⟨⟨va, rfl, rfl⟩, hxa⟩
      have HXa := Hid.mk hxa
      clear hxa
      by_cases hcp : c = p
      · have e1 : ((c : Int) != (p : Int)) = false := by rw [hcp]; simp
        have e2 : decide (0 < m ∧ c ≠ p) = false := by simp [hcp]
        clear hcp
        go_wp2_with fail
        go_meet
        exact ⟨by rw [e2], HXa.out⟩
      · have e1 : ((c : Int) != (p : Int)) = true := by rw [bne_iff_ne]; omega
        have e2 : decide (0 < m ∧ c ≠ p) = true := by simp [hcp, h0]
        clear hcp
        go_wp2_with fail
        go_meet
        exact ⟨by rw [e2], HXa.out⟩
    · have h0' : ¬ (0 : Int) < (m : Int) := by omega
      have e2 : decide (0 < m ∧ c ≠ p) = false := by simp [h0]
      clear h0
      go_wp2_with fail
      go_meet
      exact ⟨by rw [e2], X.refl _⟩
  case rest =>
    obtain ⟨rfl, hx⟩ := hcut
    replace HX := Hid.mk (HX.out.trans hx)
    replace HT := Hid.mk (HT.out.x hx)
    replace HU := Hid.mk (HU.out.x hx)
    replace HP := Hid.mk (HP.out.x hx)
    obtain ⟨wd, hwd⟩ : ∃ wd, wd = wc := ⟨_, rfl⟩
    subst hwd
    clear hx
    go_upto_if 51 with (fail)
    go_cut [] (fun wc => X wd wc)
    case first =>
      by_cases hbad : 0 < m ∧ c ≠ p
      · have e2 : decide (0 < m ∧ c ≠ p) = true := decide_eq_true hbad
        have hP := HP.out.1 hbad
        injection hP with hP
        simp at hP
        obtain ⟨rfl, rfl⟩ := hP
        rw [e2]
        clear hbad
        go_wp2_with fail
        go_meet
        exact X.refl _
      · have e2 : decide (0 < m ∧ c ≠ p) = false := decide_eq_false hbad
        obtain ⟨R, hP, hR⟩ := HP.out.2 hbad
        injection hP with hP
        simp at hP
        obtain ⟨rfl, rfl⟩ := hP
        have HR := Hid.mk hR
        have hcp2 : m = 0 ∨ c ≤ p := by omega
        have HTP : Hid (TSz (prodv c M B) m q 20) := fun i hi j hj => prodv_size HS.out HS'.out (by omega) hc6 i hi j hj
        rw [e2]
        clear hbad hR e2
        go_wp2_with fail
        refine (ref_product _ _ _ m c p q M B HT.out HU.out (by omega) (by omega) (by omega) hcp2 q (by have := HPQ.out; split <;> omega) 1 1 HS.out HS'.out (by omega)).mono ?_
        rintro e wa ⟨⟨va, rfl, hva⟩, hxa⟩
        have HXa := Hid.mk hxa
        have HPr := Hid.mk hva
        replace HR := Hid.mk (HR.out.x hxa)
        clear hxa hva
        go_wp2_with fail
        refine (law_is _ _ _ m q (prodv c M B) HR.out HPr.out (by omega) (by omega) 20 HTP.out (by omega) (HG.out.x (HX.out.trans HXa.out))).mono ?_
        rintro e wb ⟨⟨vb, rfl, rfl⟩, hxb⟩
        replace HXa := Hid.mk (HXa.out.trans hxb)
        clear hxb HPr HR HTP
        go_wp2_with fail
        go_meet
        exact HXa.out
    case rest =>
      replace HX := Hid.mk (HX.out.trans hcut)
      replace HT := Hid.mk (HT.out.x hcut)
      replace HU := Hid.mk (HU.out.x hcut)
      obtain ⟨we, hwe⟩ : ∃ we, we = wc := ⟨_, rfl⟩
      subst hwe
      clear hcut HP
      by_cases hp0 : p = 0
      · have hpb : ((p : Int) == 0) = true := by rw [hp0]; rfl
        clear hp0
        go_wp2_with fail
        go_ret
        exact ⟨⟨_, rfl, rfl⟩, HX.out⟩
      · have hpb : ((p : Int) == 0) = false := by rw [beq_eq_false_iff_ne]; omega
        have hpl : 0 < p := by omega
        obtain ⟨bU, oU, rfl, gg⟩ := HU.out.rows (by omega)
        obtain ⟨u, c1, hu⟩ := gg 0 (by omega)
        obtain ⟨A2, d2, rfl, -, -, -⟩ := id hu
        rw [Nat.add_zero] at c1
        have HRow := Hid.mk hu
        have HSr : Hid (∀ j, j < q → RSz (B 0 j) 1) := fun j hj => HS'.out 0 (by omega) j hj
        have HC := Hid.mk (fun w' (h : X we w') => h.cell c1)
        clear gg hu c1 hp0
        go_wp2_with fail
        have hz0 : X we we.drew := ⟨rfl, rfl, rfl, Nat.le_refl _, fun _ _ => rfl⟩
        have hS0 := HC.out we (X.refl _)
        go_region_held3 (fun w' => w'.cell? ⟨bU, oU, none⟩ = some (.slice A2 q d2))
          (go_keep)
          (first
            | (have hguard := hz2; go_at_call 26; refine (mat_apply_any _ _ _ m c q M (B 0) hr1 hr2 hm5 hc6 hq6 HS.out HSr.out).mono ?_; rintro e w3 ⟨⟨v3, rfl, hP3⟩, hx3⟩; have hz3 : X we w3 := hz2.trans hx3; have hr1 := hr1.x hx3; have hr2 := hr2.x hx3; have hS3 := HC.out w3 hz3; obtain ⟨Y, g3, rfl⟩ := hP3.form)
            | (have hguard := hz1; go_at_call 24; refine (law_list _ _ q (B 0) (by exact HRow.out.x hz1) (by omega) 1 HSr.out (by omega) (by exact HG.out.x (HX.out.trans hz1))).mono ?_; rintro e w2 ⟨⟨v2, rfl, hr2⟩, hx2⟩; have hz2 : X we w2 := hz1.trans hx2; have hr1 := hr1.x hx2; have hS2 := HC.out w2 hz2)
            | (have hguard := hz0; go_at_call 15; refine (law_own _ _ m c M (by exact HT.out.x hz0) (by omega) (by omega) 1 HS.out (by omega) (by exact HG.out.x (HX.out.trans hz0))).mono ?_; rintro e w1 ⟨⟨v1, rfl, hr1⟩, hx1⟩; have hz1 : X we w1 := hz0.trans hx1; have hS1 := HC.out w1 hz1))
        replace HX := Hid.mk (HX.out.trans hz3)
        replace HT := Hid.mk (HT.out.x hz3)
        replace HU := Hid.mk (HU.out.x hz3)
        replace HRow := Hid.mk (HRow.out.x hz3)
        have HP3 := Hid.mk hP3
        have HCC := Hid.mk (fun w' (h : X w3 w') => HC.out w' (hz3.trans h))
        clear hz0 hz1 hz2 hz3 hx1 hx2 hx3 hS0 hS1 hS2 hS3 HC hr1 hr2 hP3
        obtain ⟨wf, hwf⟩ : ∃ wf, wf = w3 := ⟨_, rfl⟩
        subst hwf
        go_upto_region 16 with (fail)
        go_cut [93] (fun t93 wc => t93 = .bool (decide (0 < m ∧ q ≠ c)) ∧ X wf wc)
        case first =>
          by_cases h0 : 0 < m
          · have h0' : (0 : Int) < (m : Int) := by omega
            by_cases hcp : q = c
            · have e1 : ((q : Int) != (c : Int)) = false := by rw [hcp]; simp
              have e2 : decide (0 < m ∧ q ≠ c) = false := by simp [hcp]
              clear hcp
              go_wp2_with fail
              have hz0 : X wf wf.drew := ⟨rfl, rfl, rfl, Nat.le_refl _, fun _ _ => rfl⟩
              have hS0 := HCC.out wf (X.refl _)
              go_region_held3 (fun w' => w'.cell? ⟨bU, oU, none⟩ = some (.slice A2 q d2))
                (go_keep)
                (first
                  | (have hguard := hz0; go_at_call 20; refine (ref_columns _ _ m c M (by exact HT.out.x hz0) (by omega) c (by have := HMC.out; split <;> omega)).mono ?_; rintro e w1 ⟨⟨v1, rfl, rfl⟩, hx1⟩; have hz1 : X wf w1 := hz0.trans hx1; have hS1 := HCC.out w1 hz1))
              have HXa := Hid.mk hz1
              clear hz0 hz1 hx1 hS0 hS1
              go_wp2_with fail
              go_meet
              exact ⟨by rw [e2], HXa.out⟩
            · have e1 : ((q : Int) != (c : Int)) = true := by rw [bne_iff_ne]; omega
              have e2 : decide (0 < m ∧ q ≠ c) = true := by simp [hcp, h0]
              clear hcp
              go_wp2_with fail
              have hz0 : X wf wf.drew := ⟨rfl, rfl, rfl, Nat.le_refl _, fun _ _ => rfl⟩
              have hS0 := HCC.out wf (X.refl _)
              go_region_held3 (fun w' => w'.cell? ⟨bU, oU, none⟩ = some (.slice A2 q d2))
                (go_keep)
                (first
                  | (have hguard := hz0; go_at_call 20; refine (ref_columns _ _ m c M (by exact HT.out.x hz0) (by omega) c (by have := HMC.out; split <;> omega)).mono ?_; rintro e w1 ⟨⟨v1, rfl, rfl⟩, hx1⟩; have hz1 : X wf w1 := hz0.trans hx1; have hS1 := HCC.out w1 hz1))
              have HXa := Hid.mk hz1
              clear hz0 hz1 hx1 hS0 hS1
              go_wp2_with fail
              go_meet
              exact ⟨by rw [e2], HXa.out⟩
          · have h0' : ¬ (0 : Int) < (m : Int) := by omega
            have e2 : decide (0 < m ∧ q ≠ c) = false := by simp [h0]
            clear h0
            go_wp2_with fail
            have hz0 : X wf wf.drew := ⟨rfl, rfl, rfl, Nat.le_refl _, fun _ _ => rfl⟩
            have hS0 := HCC.out wf (X.refl _)
            have hm0 : m = 0 := by omega
            subst hm0
            clear hS0 hz0
            first
              | (go_quiet (fail))
              | fail "no"
            go_wp2_with fail
            go_meet
            exact ⟨by rw [e2], (X.refl _).drewN _⟩
        case rest =>
          obtain ⟨rfl, hx⟩ := hcut
          replace HX := Hid.mk (HX.out.trans hx)
          replace HT := Hid.mk (HT.out.x hx)
          replace HRow := Hid.mk (HRow.out.x hx)
          replace HP3 := Hid.mk (HP3.out.x hx)
          have c1 := HCC.out wc hx
          clear hx HCC HU
          by_cases hbad : 0 < m ∧ q ≠ c
          · have e2 : decide (0 < m ∧ q ≠ c) = true := decide_eq_true hbad
            have hP := HP3.out.1 hbad
            injection hP with hP
            simp at hP
            obtain ⟨rfl, rfl⟩ := hP
            rw [e2]
            clear hbad c1
            go_wp2_with fail
            go_ret
            exact ⟨⟨_, rfl, rfl⟩, HX.out⟩
          · have e2 : decide (0 < m ∧ q ≠ c) = false := decide_eq_false hbad
            obtain ⟨R3, hP, hR⟩ := HP3.out.2 hbad
            injection hP with hP
            simp at hP
            obtain ⟨rfl, rfl⟩ := hP
            have HR3 := Hid.mk hR
            have hql : m = 0 ∨ c ≤ q := by omega
            have HAS : Hid (∀ i, i < m → RSz (ap c M (B 0) i) 20) := ap_size HS.out (fun j hj => by
              by_cases h0 : m = 0
              · exact HS'.out 0 hpl j (by have := HMC.out h0; omega)
              · exact HS'.out 0 hpl j (by omega)) hc6
            have HBs : Hid (∀ i, i < c → RSz (B 0 i) 1) := fun j hj => by
              by_cases h0 : m = 0
              · have := HMC.out h0; omega
              · exact HS'.out 0 hpl j (by omega)
            rw [e2]
            clear hbad hR e2
            go_wp2_with fail
            refine (ref_apply _ _ _ m c q M (B 0) HT.out HRow.out (by omega) hql 1 1 HS.out HBs.out (by omega)).mono ?_
            rintro e wa ⟨⟨va, rfl, hva⟩, hxa⟩
            replace HX := Hid.mk (HX.out.trans hxa)
            replace HR3 := Hid.mk (HR3.out.x hxa)
            have HAp := Hid.mk hva
            clear hxa hva c1
            go_wp2_with fail
            refine (law_equal _ _ _ m (ap c M (B 0)) HR3.out HAp.out (by omega) 20 HAS.out (by omega) (HG.out.x HX.out)).mono ?_
            rintro e wb ⟨⟨vb, rfl, rfl⟩, hxb⟩
            replace HX := Hid.mk (HX.out.trans hxb)
            clear hxb HAp HR3
            go_wp2_with fail
            go_ret
            exact ⟨⟨_, rfl, rfl⟩, HX.out⟩
end Go.Proofs.YtogakaiibijjpaaGreatDoor

/- For every input MatrixProducts returns true and leaves its arguments as they read; no condition. -/
set_option linter.unusedVariables false
set_option linter.unusedSimpArgs false
namespace Go.Proofs.YtogakaiibijjpaaGreatDoor
open Go.ChangeShapes Go.WideShapes Go.ChangeAt Go.RowKit Go.Deep Go.Joins

theorem matrixProducts_reads (os : Os) {H : Type} (enc : TypeId × Value → H) : ∃ places, DataW.whole enc Tryz.prog ((World.laidAll Tryz.prog os Rows.matrixProductsRow.laid).forCall (fun _ _ => 0) ⟨#[], #[.agg #[.int .u8 0, .slice none 0 0], .agg #[.int .u8 0, .slice none 0 0]], []⟩).memory Tryz.f9.params.toList Rows.matrixProductsSpec.vars false #[(.agg #[.int .u8 0, .slice none 0 0] : Value), .agg #[.int .u8 0, .slice none 0 0]].toList 8 = some ([.agg [.lit (.int .u8 0), .nil], .agg [.lit (.int .u8 0), .nil]], [], places) :=
  ⟨[], by kernel_rfl⟩

set_option maxRecDepth 100000 in
theorem matrixProducts_lifted (os : Os) (started : os.Started) (H : Type) (enc : TypeId × Value → H) (F : Stop.Interp) :
    ReturnsInHanded {} Tryz.checked os 9 .any ((OpenSpec.ofChange Rows.matrixProductsSpec).preRow enc Tryz.prog Tryz.f9 Rows.matrixProductsRow.domain false Rows.matrixProductsRow.laid) (((OpenSpec.ofChange Rows.matrixProductsSpec).at F).post enc Tryz.prog Tryz.f9 false true false false) := by
  obtain ⟨places, hx⟩ := matrixProducts_reads os enc
  refine returnsInHanded_of_row (C := Tryz.checked) (s := OpenSpec.ofChange Rows.matrixProductsSpec) own started (by kernel_rfl) Tryz.func9
    (witness_row_atRef (enc := enc) (C := Tryz.checked) false (World.laidAll Tryz.prog os Rows.matrixProductsRow.laid) #[.agg #[.int .u8 0, .slice none 0 0], .agg #[.int .u8 0, .slice none 0 0]] (World.laidAll_os _ _ _) (by kernel_rfl) (by kernel_rfl) (by kernel_rfl)
      (OpenSpec.preRow_of_cond 8 hx (by kernel_rfl) (fun k hk => by cases hk) (by kernel_rfl) (by rw [MakeChecks.laidMetH_plain _ _ _ (by kernel_rfl)]; exact laidMet_laidAll _ (by kernel_rfl) (by kernel_rfl)))) ?_
  intro W base args ds gs before hval0 hW _ _ _ hL hsh _
  have hval : ∀ (j : Nat) t v, Tryz.f9.params[j]? = some t → args[j]? = some v → Value.okWide Tryz.prog W .any base t v := hval0
  have hW' := hW
  obtain ⟨p, q, hA0, hV, rfl, hfz, hnd⟩ := hW
  have hA : DataW.TrodAll enc Tryz.prog W 0 (fun _ => true) true Tryz.f9.params.toList args.toList ds p := hA0
  rw [Tryz.params9] at hA hval
  obtain ⟨v0, vs0, d0, ds0, p0, q0, hargs, rfl, rfl, h0, r0⟩ := trodAll_cons hA
  obtain ⟨v1, vs1, d1, ds1, p1, q1, rfl, rfl, rfl, h1, r1⟩ := trodAll_cons r0
  obtain ⟨rfl, rfl, rfl⟩ := trodAll_nil r1
  obtain rfl : args = #[v0, v1] := by cases args; simp_all
  obtain ⟨rfl, rfl⟩ := trodVars_none hV
  have hlt := fun x hx => hW'.lt x hx
  obtain ⟨C0, A0, n0, c0, L0, N0, D0, rfl, hC0, hn0, hR0⟩ := open_table (hval 0 24 v0 rfl rfl) h0
  obtain ⟨C1, A1, n1, c1, L1, N1, D1, rfl, hC1, hn1, hR1⟩ := open_table (hval 1 24 v1 rfl rfl) h1
  have hL1 := laidMetH.filter (fun x => x.1 == "internal/strconv.uint64pow10") hL
  rw [show (Rows.matrixProductsRow.laid.filter fun x => x.1 == "internal/strconv.uint64pow10") = [("internal/strconv.uint64pow10", Rows.laid_internal_strconv_uint64pow10)] by kernel_rfl] at hL1
  have hg : Gl W := ⟨pow_tab hL1, max_shape hsh⟩
  refine (law_products W C0 A0 n0 c0 L0 N0 D0 hR0 hC0 hn0 C1 A1 n1 c1 L1 N1 D1 hR1 hC1 hn1 hg).mono ?_
  rintro e W' ⟨⟨v, rfl, rfl⟩, hb⟩
  exact ⟨_, rfl, _, _, _, [], _, [], hW', trodAll_mk1 (shut_bool Tryz.underlying4 _), (trodAll_cons_mk (Below.trod laidOut (by kernel_rfl) (of_decide_eq_true (by kernel_rfl)) h0 hb (fun x hx => hlt x (by simp [hx]))) (trodAll_cons_mk (Below.trod laidOut (by kernel_rfl) (of_decide_eq_true (by kernel_rfl)) h1 hb (fun x hx => hlt x (by simp [hx]))) trodAll_mk0)), rfl, hb.frame _, fun h => by cases h⟩

theorem matrixProducts_said : Rows.MatrixProductsSaid :=
  OpenClaim.holds_of_cond 9 Tryz.f9 rfl rfl rfl rfl rfl rfl rfl ⟨rfl, rfl, rfl, rfl, rfl⟩ rfl rfl rfl rfl rfl (by kernel_rfl) Tryz.func9 (by kernel_rfl)
    (of_decide_eq_true (by kernel_rfl)) (by unfold Func.isWrapper; first | (rw [if_pos (by decide +kernel)]; kernel_rfl) | (rw [if_neg (by decide +kernel)]; exact ⟨rfl, rfl⟩))
    (fun os started H enc _ F => by rw [OpenClaim.pre_eq_preRow]; exact matrixProducts_lifted os started H enc F)

theorem matrixProducts_plain (f : FuncId) (fn : Func) (hf : Tryz.pinned.checked.prog.funcNamed "dowel/dowellaw05.MatrixProducts" = some f) (hfn : Tryz.pinned.checked.prog.funcs[f]? = some fn) :
    true = Tryz.pinned.checked.prog.looks [] ∧ ∀ (j : Nat) t, fn.params[j]? = some t → Tryz.pinned.checked.prog.wantsStandIn t = false := by
  obtain rfl : f = 9 := Option.some.inj ((show Tryz.prog.funcNamed "dowel/dowellaw05.MatrixProducts" = some 9 by kernel_rfl).symm.trans hf) |>.symm
  obtain rfl : fn = Tryz.f9 := (Option.some.inj (Tryz.func9.symm.trans hfn)).symm
  refine ⟨by kernel_rfl, fun j t ht => ?_⟩
  rw [Tryz.params9] at ht
  have hm : t ∈ [24] := by
    have := Array.mem_of_getElem? ht
    simp at this ⊢
    omega
  have hall : ([24].all fun u => !Tryz.prog.wantsStandIn u) = true := by kernel_rfl
  exact (show Tryz.prog.wantsStandIn t = false by simpa using List.all_eq_true.1 hall t hm)

theorem matrixProducts_card : Rows.MatrixProductsCardSaid :=
  Claim7.holds_tied_plain_at .later [] _ _ _ _ matrixProducts_said (fun _ h => by cases h) (by kernel_rfl) (fun _ h => by cases h) matrixProducts_row_tie rfl ⟨rfl, rfl⟩ (by kernel_rfl) rfl matrixProducts_plain (by kernel_rfl)
#print axioms matrixProducts_card
end Go.Proofs.YtogakaiibijjpaaGreatDoor
