/- Lemmas for the proof, part 5: R5, N5, N6, M1, G2, M2, M3, M4, M5. -/
import Derived.Test.YtdgeodnfacnnmaaGreatDoorW4
/- Package rational, fifth part: Compare, Div. -/
set_option linter.unusedVariables false
set_option linter.unusedSimpArgs false
namespace Go.Proofs.YtdgeodnfacnnmaaGreatDoor
open Go.RowKit
open DDig

/-- What Compare answers. -/
def rcmp (x y : Rat) : Int := Int.sign (x.num * y.den - y.num * x.den)
theorem rcmp_lt {x y : Rat} : rcmp x y < 0 ↔ x < y := by
  rw [rcmp, Int.sign_neg_iff, Rat.lt_iff]
  omega
theorem rcmp_gt {x y : Rat} : 0 < rcmp x y ↔ y < x := by
  rw [rcmp, Int.sign_pos_iff, Rat.lt_iff]
  omega
theorem rcmp_eq {x y : Rat} : rcmp x y = 0 ↔ x = y := by
  rw [rcmp, Int.sign_eq_zero_iff_zero, Rat.eq_iff_mul_eq_mul]
  omega

set_option maxRecDepth 100000 in
set_option maxHeartbeats 4000000 in
theorem rat_compare (w : World) (a b : QV) (x y : Rat) (ha : RatR w a x) (hb : RatR w b y) (k l : Nat) (hx : RSz x k) (hy : RSz y l) (hkl : k + l + 1 ≤ 549755813888) :
    Calls Tryz.prog 39 #[a.v, b.v] w (Ret w fun w' v => v = .int .i64 (rcmp x y)) := by
  have HA := Hid.mk ha
  have HB := Hid.mk hb
  have SX := Hid.mk hx
  have SY := Hid.mk hy
  clear hx hy
  clear ha hb
  go_enter Tryz.func39, Tryz.ntmps39
  go_upto_region 1 with (fail)
  obtain ⟨W, hW, hX, b0, b1⟩ := setup2 w #[.bool a.s, .slice a.A a.n a.c, .bool a.t, .slice a.B a.m a.d] #[.bool b.s, .slice b.A b.n b.c, .bool b.t, .slice b.B b.m b.d] 51 51
  rw [hW]
  clear hW
  go_cut [10] (fun t10 wc => ∃ bb : Bool, t10 = .bool bb ∧ (bb = true → x.den = 1 ∧ y.den = 1) ∧ X W wc)
  case first =>
    have HC := Hid.mk (fun w' (h : X W w') => (⟨(b0.x h).cell (j := 0) rfl, (b0.x h).cell (j := 1) rfl, (b0.x h).cell (j := 2) rfl, (b0.x h).cell (j := 3) rfl, (b1.x h).cell (j := 0) rfl, (b1.x h).cell (j := 1) rfl, (b1.x h).cell (j := 2) rfl, (b1.x h).cell (j := 3) rfl⟩ : w'.cell? ⟨w.heap.size, 0, none⟩ = some (.bool a.s) ∧ w'.cell? ⟨w.heap.size, 1, none⟩ = some (.slice a.A a.n a.c) ∧ w'.cell? ⟨w.heap.size, 2, none⟩ = some (.bool a.t) ∧ w'.cell? ⟨w.heap.size, 3, none⟩ = some (.slice a.B a.m a.d) ∧ w'.cell? ⟨w.heap.size + 1, 0, none⟩ = some (.bool b.s) ∧ w'.cell? ⟨w.heap.size + 1, 1, none⟩ = some (.slice b.A b.n b.c) ∧ w'.cell? ⟨w.heap.size + 1, 2, none⟩ = some (.bool b.t) ∧ w'.cell? ⟨w.heap.size + 1, 3, none⟩ = some (.slice b.B b.m b.d)))
    have hS := HC.out W (X.refl W)
    by_cases hx1 : x.den = 1
    · go_wp2_with fail
      refine (rat_whole_at _ a x true (HA.out.x hX) (by simpa using hx1)).mono ?_
      rintro e w1 ⟨⟨v, rfl, rfl⟩, hz1⟩
      have hS1 := HC.out w1 hz1
      go_wp2_with fail
      refine (rat_whole_at _ b y (decide (y.den = 1)) (HB.out.x (hX.trans hz1)) rfl).mono ?_
      rintro e w2 ⟨⟨v, rfl, rfl⟩, hz2⟩
      go_wp2_with fail
      go_meet
      exact ⟨_, rfl, fun h => ⟨hx1, by simpa using h⟩, hz1.trans hz2⟩
    · go_wp2_with fail
      refine (rat_whole_at _ a x false (HA.out.x hX) (by simpa using hx1)).mono ?_
      rintro e w1 ⟨⟨v, rfl, rfl⟩, hz1⟩
      go_wp2_with fail
      go_meet
      exact ⟨false, rfl, by simp, hz1⟩
  case rest =>
    obtain ⟨bb, rfl, hbb, hx0⟩ := hcut
    replace hX := hX.trans hx0
    replace b0 := b0.x hx0
    replace b1 := b1.x hx0
    clear hx0 W
    have HC := Hid.mk (fun w' (h : X wc w') => (⟨(b0.x h).cell (j := 0) rfl, (b0.x h).cell (j := 1) rfl, (b0.x h).cell (j := 2) rfl, (b0.x h).cell (j := 3) rfl, (b1.x h).cell (j := 0) rfl, (b1.x h).cell (j := 1) rfl, (b1.x h).cell (j := 2) rfl, (b1.x h).cell (j := 3) rfl⟩ : w'.cell? ⟨w.heap.size, 0, none⟩ = some (.bool a.s) ∧ w'.cell? ⟨w.heap.size, 1, none⟩ = some (.slice a.A a.n a.c) ∧ w'.cell? ⟨w.heap.size, 2, none⟩ = some (.bool a.t) ∧ w'.cell? ⟨w.heap.size, 3, none⟩ = some (.slice a.B a.m a.d) ∧ w'.cell? ⟨w.heap.size + 1, 0, none⟩ = some (.bool b.s) ∧ w'.cell? ⟨w.heap.size + 1, 1, none⟩ = some (.slice b.A b.n b.c) ∧ w'.cell? ⟨w.heap.size + 1, 2, none⟩ = some (.bool b.t) ∧ w'.cell? ⟨w.heap.size + 1, 3, none⟩ = some (.slice b.B b.m b.d)))
    cases bb with
    | true =>
      obtain ⟨hx1, hy1⟩ := hbb rfl
      have hS := HC.out wc (X.refl wc)
      have e0 : Int.sign (x.num - y.num) = rcmp x y := by rw [rcmp, hx1, hy1]; simp
      go_wp2_with fail
      refine (int_compare_at _ ⟨a.s, a.A, a.n, a.c⟩ ⟨b.s, b.A, b.n, b.c⟩ x.num y.num _ (HA.out.x hX).num (HB.out.x hX).num e0).mono ?_
      rintro e w1 ⟨⟨v, rfl, rfl⟩, hx2⟩
      have HX := Hid.mk (hX.trans hx2)
      clear b0 b1 hX hx2 HC hS e0
      go_wp2
      go_ret
      exact ⟨⟨_, rfl, rfl⟩, HX.out⟩
    | false =>
      clear hbb
      have sn1 : a.n ≤ 549755813888 := by have := (HA.out.x hX).num.size SX.out.1; simp at this; omega
      have sn2 : b.n ≤ 549755813888 := by have := (HB.out.x hX).num.size SY.out.1; simp at this; omega
      have s1 : ∀ {w : World} {r : IV}, IntR w r x.den → r.n ≤ 549755813888 := fun h => by have := h.size (k := k) (by simpa using SX.out.2); omega
      have s2 : ∀ {w : World} {r : IV}, IntR w r y.den → r.n ≤ 549755813888 := fun h => by have := h.size (k := l) (by simpa using SY.out.2); omega
      have sp1 : ((x.num * y.den).natAbs : Int) < pw B32 (k + l) := natAbs_lt_pw SX.out.1 (by simpa using SY.out.2)
      have sp2 : ((y.num * x.den).natAbs : Int) < pw B32 (k + l) := by
        have := natAbs_lt_pw SY.out.1 (b := x.den) (l := k) (by simpa using SX.out.2)
        rw [Nat.add_comm] at this; exact this
      have s3 : ∀ {w : World} {r : IV}, IntR w r (x.num * y.den) → r.n ≤ 549755813888 := fun h => by have := h.size sp1; omega
      have s4 : ∀ {w : World} {r : IV}, IntR w r (y.num * x.den) → r.n ≤ 549755813888 := fun h => by have := h.size sp2; omega
      clear sp1 sp2
      go_wp2_with fail
      have hz0 : X wc wc.drew := ⟨rfl, rfl, rfl, Nat.le_refl _, fun _ _ => rfl⟩
      have hS0 := HC.out wc (X.refl _)
      go_region_held3 (fun w' => w'.cell? ⟨w.heap.size, 0, none⟩ = some (.bool a.s) ∧ w'.cell? ⟨w.heap.size, 1, none⟩ = some (.slice a.A a.n a.c) ∧ w'.cell? ⟨w.heap.size, 2, none⟩ = some (.bool a.t) ∧ w'.cell? ⟨w.heap.size, 3, none⟩ = some (.slice a.B a.m a.d) ∧ w'.cell? ⟨w.heap.size + 1, 0, none⟩ = some (.bool b.s) ∧ w'.cell? ⟨w.heap.size + 1, 1, none⟩ = some (.slice b.A b.n b.c) ∧ w'.cell? ⟨w.heap.size + 1, 2, none⟩ = some (.bool b.t) ∧ w'.cell? ⟨w.heap.size + 1, 3, none⟩ = some (.slice b.B b.m b.d))
        (go_keep)
        (first
          | (have hguard := hz4; go_at_call 57; refine (int_compare_at _ r2 r4 (x.num * y.den) (y.num * x.den) _ hr2 hr4 rfl).mono ?_; rintro e w5 ⟨⟨v5, rfl, rfl⟩, hx5⟩; have hz5 : X wc w5 := hz4.trans hx5; have hr1 := hr1.x hx5; have hr2 := hr2.x hx5; have hr3 := hr3.x hx5; have hr4 := hr4.x hx5; have hS5 := HC.out w5 hz5)
          | (have hguard := hz3; go_at_call 58; refine (int_mul _ ⟨b.s, b.A, b.n, b.c⟩ r3 y.num x.den (by exact (HB.out.x (hX.trans hz3)).num) hr3 (by show b.n ≤ _; omega) (by have := s1 hr3; omega)).mono ?_; rintro e w4 ⟨⟨v4, rfl, r4, rfl, hr4⟩, hx4⟩; have hz4 : X wc w4 := hz3.trans hx4; have hr1 := hr1.x hx4; have hr2 := hr2.x hx4; have hr3 := hr3.x hx4; have hS4 := HC.out w4 hz4)
          | (have hguard := hz2; go_at_call 59; refine (rat_den _ a x (HA.out.x (hX.trans hz2))).mono ?_; rintro e w3 ⟨⟨v3, rfl, r3, rfl, hr3⟩, hx3⟩; have hz3 : X wc w3 := hz2.trans hx3; have hr1 := hr1.x hx3; have hr2 := hr2.x hx3; have hS3 := HC.out w3 hz3)
          | (have hguard := hz1; go_at_call 58; refine (int_mul _ ⟨a.s, a.A, a.n, a.c⟩ r1 x.num y.den (by exact (HA.out.x (hX.trans hz1)).num) hr1 (by show a.n ≤ _; omega) (by have := s2 hr1; omega)).mono ?_; rintro e w2 ⟨⟨v2, rfl, r2, rfl, hr2⟩, hx2⟩; have hz2 : X wc w2 := hz1.trans hx2; have hr1 := hr1.x hx2; have hS2 := HC.out w2 hz2)
          | (have hguard := hz0; go_at_call 59; refine (rat_den _ b y (HB.out.x (hX.trans hz0))).mono ?_; rintro e w1 ⟨⟨v1, rfl, r1, rfl, hr1⟩, hx1⟩; have hz1 : X wc w1 := hz0.trans hx1; have hS1 := HC.out w1 hz1))
      have HX := Hid.mk (hX.trans hz5)
      clear b0 b1 hX HC
      go_wp2
      go_ret
      exact ⟨⟨_, rfl, rfl⟩, HX.out⟩

theorem rat_num_zero {y : Rat} : y.num = 0 ↔ y = 0 := Rat.num_eq_zero
theorem div_divInt (x y : Rat) : Rat.divInt (x.num * y.den) (x.den * y.num) = x / y := by
  rw [Rat.div_def, Rat.inv_def]
  conv => rhs; rw [← Rat.num_divInt_den x]
  rw [Rat.divInt_mul_divInt]
theorem rat_sign_at (w : World) (a : QV) (x : Rat) (s : Int) (ha : RatR w a x) (hs : Int.sign x.num = s) : Calls Tryz.prog 44 #[a.v] w (Ret w fun _ v => v = .int .i64 s) := by
  subst hs
  exact rat_sign w a x ha

set_option maxRecDepth 100000 in
set_option maxHeartbeats 4000000 in
theorem rat_div (w : World) (a b : QV) (x y : Rat) (ha : RatR w a x) (hb : RatR w b y) (k l : Nat) (hx : RSz x k) (hy : RSz y l) (hkl : k + l ≤ 549755813888) :
    Calls Tryz.prog 71 #[a.v, b.v] w (Ret w fun w' v => ∃ r : QV, v = .tuple #[r.v, .int .i64 (if y = 0 then 19 else 0)] ∧ RatR w' r (if y = 0 then 0 else x / y)) := by
  have HA := Hid.mk ha
  have HB := Hid.mk hb
  have SX := Hid.mk hx
  have SY := Hid.mk hy
  clear hx hy
  clear ha hb
  go_enter Tryz.func71, Tryz.ntmps71
  go_upto_region 1 with (fail)
  obtain ⟨W, hW, hX, b0, b1, b2⟩ := setup3 w #[.bool a.s, .slice a.A a.n a.c, .bool a.t, .slice a.B a.m a.d] #[.bool b.s, .slice b.A b.n b.c, .bool b.t, .slice b.B b.m b.d] #[.bool false, .slice none 0 0, .bool false, .slice none 0 0] 51 51 51
  rw [hW]
  clear hW
  have HC := Hid.mk (fun w' (h : X W w') => (⟨(b0.x h).cell (j := 0) rfl, (b0.x h).cell (j := 1) rfl, (b0.x h).cell (j := 2) rfl, (b0.x h).cell (j := 3) rfl, (b1.x h).cell (j := 0) rfl, (b1.x h).cell (j := 1) rfl, (b1.x h).cell (j := 2) rfl, (b1.x h).cell (j := 3) rfl⟩ : w'.cell? ⟨w.heap.size, 0, none⟩ = some (.bool a.s) ∧ w'.cell? ⟨w.heap.size, 1, none⟩ = some (.slice a.A a.n a.c) ∧ w'.cell? ⟨w.heap.size, 2, none⟩ = some (.bool a.t) ∧ w'.cell? ⟨w.heap.size, 3, none⟩ = some (.slice a.B a.m a.d) ∧ w'.cell? ⟨w.heap.size + 1, 0, none⟩ = some (.bool b.s) ∧ w'.cell? ⟨w.heap.size + 1, 1, none⟩ = some (.slice b.A b.n b.c) ∧ w'.cell? ⟨w.heap.size + 1, 2, none⟩ = some (.bool b.t) ∧ w'.cell? ⟨w.heap.size + 1, 3, none⟩ = some (.slice b.B b.m b.d)))
  have hS := HC.out W (X.refl W)
  obtain ⟨z, hz⟩ : ∃ z, Int.sign y.num = z := ⟨_, rfl⟩
  go_wp2_with fail
  refine (rat_sign_at _ b y z (HB.out.x hX) hz).mono ?_
  rintro e W1 ⟨⟨v, rfl, rfl⟩, hz1⟩
  by_cases hy0 : y = 0
  · obtain rfl : z = 0 := by rw [← hz, hy0]; rfl
    have p2 := b2.x hz1
    have k0 := p2.cell (j := 0) rfl; have k1 := p2.cell (j := 1) rfl; have k2 := p2.cell (j := 2) rfl; have k3 := p2.cell (j := 3) rfl; have f0 := p2.frozen 0; have f1 := p2.frozen 1; have f2 := p2.frozen 2; have f3 := p2.frozen 3
    have K := four_cells p2 (.bool false) (.slice none 0 0) (.bool false) (.slice none 0 0)
    have hR : RatR W1 ⟨false, none, 0, 0, false, none, 0, 0⟩ 0 := RatR.whole (IntR.zero W1)
    have HR := Hid.mk (hR.put4 p2 ⟨false, none, 0, 0, false, none, 0, 0⟩)
    have HX := Hid.mk ((hX.trans hz1).put4 (g := w.heap.size + 1 + 1) (by omega) ⟨false, none, 0, 0, false, none, 0, 0⟩)
    clear b0 b1 b2 hX HC p2 hz1 hR
    go_wp2
    refine bodyPost_ret (v := .tuple #[.agg #[.bool false, .slice none 0 0, .bool false, .slice none 0 0], .int .i64 19]) ?_ rfl ⟨⟨_, rfl, ⟨false, none, 0, 0, false, none, 0, 0⟩, by first | rfl | rw [if_pos hy0], by first | exact HR.out | (rw [if_pos hy0]; exact HR.out)⟩, HX.out⟩
    simp [results, Tryz.results71, go_sem, K.1, K.2.1, K.2.2.1, K.2.2.2]
  · have hyn : y.num ≠ 0 := fun h => hy0 (rat_num_zero.1 h)
    have hzn : ¬ z = 0 := by rw [← hz, Int.sign_eq_zero_iff_zero]; exact hyn
    replace b0 := b0.x hz1
    replace b1 := b1.x hz1
    replace b2 := b2.x hz1
    replace hX := hX.trans hz1
    clear HC hS hz1
    have HC := Hid.mk (fun w' (h : X W1 w') => (⟨(b0.x h).cell (j := 0) rfl, (b0.x h).cell (j := 1) rfl, (b0.x h).cell (j := 2) rfl, (b0.x h).cell (j := 3) rfl, (b1.x h).cell (j := 0) rfl, (b1.x h).cell (j := 1) rfl, (b1.x h).cell (j := 2) rfl, (b1.x h).cell (j := 3) rfl⟩ : w'.cell? ⟨w.heap.size, 0, none⟩ = some (.bool a.s) ∧ w'.cell? ⟨w.heap.size, 1, none⟩ = some (.slice a.A a.n a.c) ∧ w'.cell? ⟨w.heap.size, 2, none⟩ = some (.bool a.t) ∧ w'.cell? ⟨w.heap.size, 3, none⟩ = some (.slice a.B a.m a.d) ∧ w'.cell? ⟨w.heap.size + 1, 0, none⟩ = some (.bool b.s) ∧ w'.cell? ⟨w.heap.size + 1, 1, none⟩ = some (.slice b.A b.n b.c) ∧ w'.cell? ⟨w.heap.size + 1, 2, none⟩ = some (.bool b.t) ∧ w'.cell? ⟨w.heap.size + 1, 3, none⟩ = some (.slice b.B b.m b.d)))
    have n1 : ¬ w.heap.size + 1 + 1 = w.heap.size := by omega
    have n2 : ¬ w.heap.size + 1 + 1 = w.heap.size + 1 := by omega
    have sn1 : a.n ≤ 549755813888 := by have := (HA.out.x hX).num.size SX.out.1; simp at this; omega
    have sn2 : b.n ≤ 549755813888 := by have := (HB.out.x hX).num.size SY.out.1; simp at this; omega
    have s1 : ∀ {w : World} {r : IV}, IntR w r x.den → r.n ≤ 549755813888 := fun h => by have := h.size (k := k) (by simpa using SX.out.2); omega
    have s2 : ∀ {w : World} {r : IV}, IntR w r y.den → r.n ≤ 549755813888 := fun h => by have := h.size (k := l) (by simpa using SY.out.2); omega
    have sp1 : ((x.num * y.den).natAbs : Int) < pw B32 (k + l) := natAbs_lt_pw SX.out.1 (by simpa using SY.out.2)
    have sp2 : ((x.den * y.num).natAbs : Int) < pw B32 (k + l) := natAbs_lt_pw (a := x.den) (by simpa using SX.out.2) SY.out.1
    have s3 : ∀ {w : World} {r : IV}, IntR w r (x.num * y.den) → r.n ≤ 549755813888 := fun h => by have := h.size sp1; omega
    have s4 : ∀ {w : World} {r : IV}, IntR w r (x.den * y.num) → r.n ≤ 549755813888 := fun h => by have := h.size sp2; omega
    have hd : (x.den : Int) * y.num ≠ 0 := by
      have := x.den_pos
      exact Int.mul_ne_zero (by omega) hyn
    clear sp1 sp2 hyn hz
    go_wp2_with fail
    have hz0 : X W1 W1.drew := ⟨rfl, rfl, rfl, Nat.le_refl _, fun _ _ => rfl⟩
    have hS0 := HC.out W1 (X.refl _)
    go_region_held3 (fun w' => w'.cell? ⟨w.heap.size, 0, none⟩ = some (.bool a.s) ∧ w'.cell? ⟨w.heap.size, 1, none⟩ = some (.slice a.A a.n a.c) ∧ w'.cell? ⟨w.heap.size, 2, none⟩ = some (.bool a.t) ∧ w'.cell? ⟨w.heap.size, 3, none⟩ = some (.slice a.B a.m a.d) ∧ w'.cell? ⟨w.heap.size + 1, 0, none⟩ = some (.bool b.s) ∧ w'.cell? ⟨w.heap.size + 1, 1, none⟩ = some (.slice b.A b.n b.c) ∧ w'.cell? ⟨w.heap.size + 1, 2, none⟩ = some (.bool b.t) ∧ w'.cell? ⟨w.heap.size + 1, 3, none⟩ = some (.slice b.B b.m b.d))
      (go_keep)
      (first
        | (have hguard := hz4; go_at_call 68; refine (rat_reduced _ r2 r4 (x.num * y.den) (x.den * y.num) hr2 hr4 (s3 hr2) (s4 hr4) hd).mono ?_; rintro e w5 ⟨⟨v5, rfl, r5, rfl, hr5⟩, hx5⟩; have hz5 : X W1 w5 := hz4.trans hx5; have hr1 := hr1.x hx5; have hr2 := hr2.x hx5; have hr3 := hr3.x hx5; have hr4 := hr4.x hx5; have hS5 := HC.out w5 hz5; have p2 := b2.x hz5; have k0 := p2.cell (j := 0) rfl; have k1 := p2.cell (j := 1) rfl; have k2 := p2.cell (j := 2) rfl; have k3 := p2.cell (j := 3) rfl; have f0 := p2.frozen 0; have f1 := p2.frozen 1; have f2 := p2.frozen 2; have f3 := p2.frozen 3)
        | (have hguard := hz3; go_at_call 58; refine (int_mul _ r3 ⟨b.s, b.A, b.n, b.c⟩ x.den y.num hr3 (by exact (HB.out.x (hX.trans hz3)).num) (by have := s1 hr3; omega) (by show b.n ≤ _; omega)).mono ?_; rintro e w4 ⟨⟨v4, rfl, r4, rfl, hr4⟩, hx4⟩; have hz4 : X W1 w4 := hz3.trans hx4; have hr1 := hr1.x hx4; have hr2 := hr2.x hx4; have hr3 := hr3.x hx4; have hS4 := HC.out w4 hz4)
        | (have hguard := hz2; go_at_call 59; refine (rat_den _ a x (HA.out.x (hX.trans hz2))).mono ?_; rintro e w3 ⟨⟨v3, rfl, r3, rfl, hr3⟩, hx3⟩; have hz3 : X W1 w3 := hz2.trans hx3; have hr1 := hr1.x hx3; have hr2 := hr2.x hx3; have hS3 := HC.out w3 hz3)
        | (have hguard := hz1; go_at_call 58; refine (int_mul _ ⟨a.s, a.A, a.n, a.c⟩ r1 x.num y.den (by exact (HA.out.x (hX.trans hz1)).num) hr1 (by show a.n ≤ _; omega) (by have := s2 hr1; omega)).mono ?_; rintro e w2 ⟨⟨v2, rfl, r2, rfl, hr2⟩, hx2⟩; have hz2 : X W1 w2 := hz1.trans hx2; have hr1 := hr1.x hx2; have hS2 := HC.out w2 hz2)
        | (have hguard := hz0; go_at_call 59; refine (rat_den _ b y (HB.out.x (hX.trans hz0))).mono ?_; rintro e w1 ⟨⟨v1, rfl, r1, rfl, hr1⟩, hx1⟩; have hz1 : X W1 w1 := hz0.trans hx1; have hS1 := HC.out w1 hz1))
    rw [div_divInt] at hr5
    have K := four_cells p2 (.bool r5.s) (.slice r5.A r5.n r5.c) (.bool r5.t) (.slice r5.B r5.m r5.d)
    have HR := Hid.mk (hr5.put4 p2 r5)
    have HX := Hid.mk ((hX.trans hz5).put4 (g := w.heap.size + 1 + 1) (by omega) r5)
    clear b0 b1 b2 hX HC p2
    go_wp2
    refine bodyPost_ret (v := .tuple #[r5.v, .int .i64 0]) ?_ rfl ⟨⟨_, rfl, r5, by first | rfl | rw [if_neg hy0], by first | exact HR.out | (rw [if_neg hy0]; exact HR.out)⟩, HX.out⟩
    simp [results, Tryz.results71, go_sem, K.1, K.2.1, K.2.2.1, K.2.2.2]
end Go.Proofs.YtdgeodnfacnnmaaGreatDoor

/- Texts of fractions: what the library answers of them. -/
set_option linter.unusedVariables false
set_option linter.unusedSimpArgs false
namespace Go.Proofs.YtdgeodnfacnnmaaGreatDoor
open Go.RowKit
open DDig

/-- What the library's variables hold at the call. -/
def Gl (w : World) : Prop := Tab w ∧ ∃ m : Int, w.cell? ⟨1, 0, none⟩ = some (.int .i64 m)
theorem Gl.x {w w' : World} (h : Gl w) (hx : X w w') : Gl w' := by
  obtain ⟨h1, m, h2⟩ := h
  exact ⟨h1.x hx, m, hx.cell h2⟩

theorem indexByte_none {l : List UInt8} (h : ∀ b ∈ l, b ≠ 47) : Lib.indexByte l 47 = -1 := by
  induction l with
  | nil => rfl
  | cons b l ih =>
    have hb : (b == 47) = false := by simpa using h b (by simp)
    have := ih (fun c hc => h c (by simp [hc]))
    rw [Lib.indexByte, hb, this]
    rfl
theorem indexByte_at {p q : List UInt8} (h : ∀ b ∈ p, b ≠ 47) : Lib.indexByte (p ++ 47 :: q) 47 = p.length := by
  induction p with
  | nil => rfl
  | cons b p ih =>
    have hb : (b == 47) = false := by simpa using h b (by simp)
    have h1 := ih (fun c hc => h c (by simp [hc]))
    rw [List.cons_append, Lib.indexByte, hb, h1]
    have : ((p.length : Int) == -1) = false := by rw [beq_eq_false_iff_ne]; omega
    simp [this]
theorem TxtL.noslash {l : List UInt8} {z : Int} (h : TxtL l z) : ∀ b ∈ l, b ≠ 47 := by
  obtain ⟨neg, D, hD, hD0, hbs, hz, -⟩ := h.split
  intro b hb e
  rw [hbs, List.mem_append] at hb
  have h47 : (47 : UInt8).toNat = 47 := rfl
  rcases hb with hb | hb
  · split at hb
    · simp at hb
      rw [hb] at e
      exact absurd e (by decide)
    · simp at hb
  · have := AllD.digits hD b hb
    rw [e] at this
    omega
theorem cut_whole {l : List UInt8} {z : Int} (h : TxtL l z) : Lib.cut l [47] = (l, [], false) := by
  rw [Lib.cut, Lib.index_one, indexByte_none h.noslash, if_neg (by omega)]
theorem cut_parts {p q : List UInt8} {z : Int} (h : TxtL p z) : Lib.cut (p ++ 47 :: q) [47] = (p, q, true) := by
  rw [Lib.cut, Lib.index_one, indexByte_at h.noslash, if_pos (by omega)]
  simp

theorem cut_at (w : World) (s : ByteArray) (x : Rat) (bd : Bool) (hbd : decide (x.den ≠ 1) = bd) (h : QTxt s x) (hs : s.size ≤ 65536) (hg : Gl w) :
    Calls Tryz.prog 108 #[.string s, .string ⟨#[47]⟩] w (Ret w fun w' v => ∃ p q : ByteArray, v = .tuple #[.string p, .string q, .bool bd] ∧ Txt p x.num ∧ p.size ≤ s.size ∧ q.size ≤ s.size ∧ (x.den ≠ 1 → Txt q x.den)) := by
  subst hbd
  obtain ⟨m, hm⟩ := hg.2
  obtain ⟨p, q, hp, hq, hl⟩ := h
  have hsz : s.size = s.data.toList.length := Lib.size_eq s
  refine (Tryz.strings_Cut s ⟨#[47]⟩ m w (by omega) hm).mono ?_
  rintro e w' ⟨rfl, k, rfl⟩
  have hx : X w (w.drewN k) := (X.refl w).drewN k
  by_cases hd : x.den = 1
  · rw [if_pos hd] at hl
    have hc : Lib.cut s.data.toList [47] = (p, [], false) := by rw [hl]; exact cut_whole hp
    refine ⟨⟨_, rfl, ⟨p.toArray⟩, ⟨#[]⟩, ?_, ?_, ?_, ?_, fun h => absurd hd h⟩, hx⟩
    · show Value.tuple #[.string ⟨(Lib.cut s.data.toList [47]).1.toArray⟩, .string ⟨(Lib.cut s.data.toList [47]).2.1.toArray⟩, .bool (Lib.cut s.data.toList [47]).2.2] = _
      rw [hc]
      simp [hd]
    · show TxtL p.toArray.toList _
      simpa using hp
    · rw [ba_size]; rw [hl] at hsz; omega
    · show 0 ≤ _; omega
  · rw [if_neg hd] at hl
    have hc : Lib.cut s.data.toList [47] = (p, q, true) := by rw [hl]; exact cut_parts hp
    refine ⟨⟨_, rfl, ⟨p.toArray⟩, ⟨q.toArray⟩, ?_, ?_, ?_, ?_, fun _ => ?_⟩, hx⟩
    · show Value.tuple #[.string ⟨(Lib.cut s.data.toList [47]).1.toArray⟩, .string ⟨(Lib.cut s.data.toList [47]).2.1.toArray⟩, .bool (Lib.cut s.data.toList [47]).2.2] = _
      rw [hc]
      simp [hd]
    · show TxtL p.toArray.toList _
      simpa using hp
    · rw [ba_size]; rw [hl] at hsz; simp at hsz; omega
    · rw [ba_size]; rw [hl] at hsz; simp at hsz; omega
    · show TxtL q.toArray.toList _
      simpa using hq

theorem dropWhile_snoc {p : UInt8 → Bool} {b : UInt8} (h : p b = false) (xs : List UInt8) : (xs ++ [b]).dropWhile p = xs.dropWhile p ++ [b] := by
  induction xs with
  | nil => simp [List.dropWhile, h]
  | cons c xs ih =>
    rw [List.cons_append, List.dropWhile_cons, List.dropWhile_cons]
    split
    · exact ih
    · rfl
theorem trimB_first {b c : UInt8} (h : b ≠ c) (r : List UInt8) : Lib.trimB (b :: r) c ≠ [] := by
  have hb : (b == c) = false := by simpa using h
  rw [Lib.trimB, Lib.trimRightB, List.reverse_cons, dropWhile_snoc (p := (· == c)) hb, List.reverse_append, List.reverse_singleton, List.singleton_append, Lib.trimLeftB, List.dropWhile_cons, hb]
  simp
/-- A positive number's text is of digits, and does not vanish when zeros are struck. -/
theorem TxtL.pos {l : List UInt8} {z : Int} (h : TxtL l z) (hz : 0 < z) : AllD l ∧ l ≠ [] ∧ Lib.trimB l 48 ≠ [] := by
  obtain ⟨neg, D, hD, hD0, hbs, hv, hlead⟩ := h.split
  have hvn := val_nonneg (by decide : (0 : Int) < 10) hD
  have hneg : neg = false := by
    cases neg with
    | false => rfl
    | true => rw [if_pos rfl] at hv; omega
  subst hneg
  rw [if_neg (by simp), List.nil_append] at hbs
  rw [if_neg (by simp)] at hv
  refine ⟨by rw [hbs]; exact AllD.digits hD, by rw [hbs]; simpa using hD0, ?_⟩
  rcases hlead with ⟨h1, -⟩ | ⟨E, d, h1, h2⟩
  · rw [h1] at hv
    have : val 10 [0] = 0 := by decide
    omega
  · have e : l = dby d :: E.reverse.map dby := by rw [hbs, h1]; simp
    have hd := dby_nat (hD d (by rw [h1]; simp))
    have hne : dby d ≠ 48 := by
      intro e
      rw [e] at hd
      have : (48 : UInt8).toNat = 48 := rfl
      omega
    rw [e]
    exact trimB_first hne _
end Go.Proofs.YtdgeodnfacnnmaaGreatDoor

/- Package rational: Parse of a fraction's text. -/
set_option linter.unusedVariables false
set_option linter.unusedSimpArgs false
namespace Go.Proofs.YtdgeodnfacnnmaaGreatDoor
open Go.RowKit
open DDig

theorem digits_of (w : World) (q : ByteArray) (z : Int) (h : Txt q z) (hz : 0 < z) (hs : q.size ≤ 65536) :
    Calls Tryz.prog 109 #[.string q] w (Ret w fun w' v => v = .bool true) := by
  obtain ⟨h1, h2, -⟩ := TxtL.pos h hz
  refine rat_digits w q (by omega) ?_ h1
  have e : q.size = q.data.toList.length := Lib.size_eq q
  have := List.length_pos_iff.2 h2
  omega
theorem trim_zero (w : World) (q : ByteArray) (z : Int) (h : Txt q z) (hz : 0 < z) (hs : q.size ≤ 65536) :
    Calls Tryz.prog 111 #[.string q, .string ⟨#[48]⟩] w (Ret w fun w' v => ∃ r : ByteArray, v = .string r ∧ ¬ r.toList = []) := by
  obtain ⟨-, -, h3⟩ := TxtL.pos h hz
  refine (Tryz.strings_Trim_one q 48 (by decide) w (by omega)).mono ?_
  rintro e w' ⟨rfl, hw⟩
  refine ⟨⟨_, rfl, _, rfl, ?_⟩, ?_⟩
  · rw [ByteArray.toList_eq]
    exact h3
  · rcases hw with rfl | rfl
    · exact X.refl _
    · exact (X.refl _).drew

theorem pw10_b32 : ∀ n : Nat, pw 10 n ≤ pw B32 n
  | 0 => Int.le_refl _
  | n + 1 => by
    have h := pw10_b32 n
    have h0 := pw_pos B32_pos n
    rw [pw_succ, pw_succ]
    have : B32 * pw B32 n = 4294967296 * pw B32 n := rfl
    omega
theorem IntR.txt {w : World} {a : IV} {z : Int} {s : ByteArray} (h : IntR w a z) (ht : Txt s z) : a.n ≤ s.size :=
  h.size (Int.lt_of_lt_of_le ht.pw_size (pw10_b32 _))
theorem rat_coprime (x : Rat) : Int.gcd x.num x.den = 1 := by
  have := x.reduced
  unfold Nat.Coprime at this
  simpa [Int.gcd] using this

set_option maxRecDepth 100000 in
set_option maxHeartbeats 4000000 in
theorem rat_read (w : World) (s : ByteArray) (x : Rat) (most : Int) (h : QTxt s x) (hm : (s.size : Int) ≤ most) (hs : s.size ≤ 65536) (hg : Gl w) :
    Calls Tryz.prog 96 #[.string s, .int .i64 most] w (Ret w fun w' v => ∃ r : QV, v = .tuple #[r.v, .int .i64 0] ∧ RatR w' r x) := by
  have H := Hid.mk h
  have HG := Hid.mk hg
  clear h hg
  have hm' : ¬ most < (s.size : Int) := by omega
  go_enter Tryz.func96, Tryz.ntmps96
  go_wp2_with fail
  obtain ⟨W, hW, hX, b0, hWs⟩ := setup1 w #[.bool false, .slice none 0 0, .bool false, .slice none 0 0] 51
  rw [hW]
  clear hW
  have hden := x.den_pos
  by_cases hd1 : x.den = 1
  · refine (cut_at _ s x false (by simpa using hd1) H.out hs (HG.out.x hX)).mono ?_
    rintro e w1 ⟨⟨v1, rfl, p, q, rfl, hp, hps, hqs, -⟩, hx1⟩
    have B0 := Hid.mk (b0.x hx1)
    have HX := Hid.mk (hX.trans hx1)
    have HP := Hid.mk hp
    clear b0 hX hx1 hp
    obtain ⟨neg, D, hD, hD0, hbs, hz, hlead⟩ := TxtL.split HP.out
    have HB := Hid.mk hbs
    have HALL := Hid.mk (AllD.digits hD)
    have HT0 : Hid (D.reverse.map dby ≠ []) := by
      intro e
      apply hD0
      simpa using e
    clear hD hD0 hbs hz hlead
    go_wp2_with fail
    refine (trimprefix_at _ p neg _ HB.out HALL.out HT0.out).mono ?_
    rintro e w2 ⟨⟨v2, rfl, d, rfl, hd⟩, hx2⟩
    replace HX := Hid.mk (HX.out.trans hx2)
    replace B0 := Hid.mk (B0.out.x hx2)
    have HDD := Hid.mk hd
    have hds : d.size ≤ 65536 ∧ d.size ≠ 0 := by
      have e1 : d.size = d.data.toList.length := Lib.size_eq d
      have e2 : p.size = p.data.toList.length := Lib.size_eq p
      have h3 := HB.out
      have h4 := List.length_pos_iff.2 HT0.out
      rw [h3] at e2
      rw [hd] at e1
      simp at e1 e2 h4
      omega
    clear hd hx2
    go_wp2_with fail
    refine (rat_digits _ d (by omega) hds.2 (by rw [HDD.out]; exact HALL.out)).mono ?_
    rintro e w3 ⟨⟨v3, rfl, rfl⟩, hx3⟩
    replace HX := Hid.mk (HX.out.trans hx3)
    replace B0 := Hid.mk (B0.out.x hx3)
    clear hx3 HDD hds HB HALL HT0
    go_wp2_with fail
    refine (int_parse _ p x.num HP.out (by omega)).mono ?_
    rintro e w4 ⟨⟨v4, rfl, r, rfl, hr⟩, hx4⟩
    replace HX := Hid.mk (HX.out.trans hx4)
    replace B0 := Hid.mk (B0.out.x hx4)
    clear hx4
    obtain ⟨W5, hW5, hX5, b5, hWs5⟩ := setup1 w4 #[.bool r.neg, .slice r.A r.n r.c] 49
    have hb0 := B0.out.x hX5
    have hne : ¬ w.heap.size = w4.heap.size := by have := B0.out.lt; omega
    have hR : RatR W5 ⟨r.neg, r.A, r.n, r.c, false, none, 0, 0⟩ x := ⟨0, hr.x hX5, IntR.zero _, Or.inr ⟨rfl, hd1⟩⟩
    have c0 := b5.cell (j := 0) rfl; have c1 := b5.cell (j := 1) rfl
    have k0 := hb0.cell (j := 0) rfl; have k1 := hb0.cell (j := 1) rfl; have k2 := hb0.cell (j := 2) rfl; have k3 := hb0.cell (j := 3) rfl; have f0 := hb0.frozen 0; have f1 := hb0.frozen 1; have f2 := hb0.frozen 2; have f3 := hb0.frozen 3
    have K := four_cells hb0 (.bool r.neg) (.slice r.A r.n r.c) (.bool false) (.slice none 0 0)
    have HR := Hid.mk (hR.put4 hb0 ⟨r.neg, r.A, r.n, r.c, false, none, 0, 0⟩)
    have HXF := Hid.mk ((HX.out.trans hX5).put4 (Nat.le_refl _) ⟨r.neg, r.A, r.n, r.c, false, none, 0, 0⟩)
    clear hb0 b5 hX5 hR hr B0
    go_wp2_with fail
    exact bodyPost_ret (v := .tuple #[.agg #[.bool r.neg, .slice r.A r.n r.c, .bool false, .slice none 0 0], .int .i64 0]) (by simp [results, Tryz.results96, go_sem, K.1, K.2.1, K.2.2.1, K.2.2.2]) rfl ⟨⟨_, rfl, ⟨r.neg, r.A, r.n, r.c, false, none, 0, 0⟩, rfl, HR.out⟩, HXF.out⟩
  · refine (cut_at _ s x true (by simpa using hd1) H.out hs (HG.out.x hX)).mono ?_
    rintro e w1 ⟨⟨v1, rfl, p, q, rfl, hp, hps, hqs, hq⟩, hx1⟩
    have B0 := Hid.mk (b0.x hx1)
    have HX := Hid.mk (hX.trans hx1)
    have HP := Hid.mk hp
    have HQ := Hid.mk (hq hd1)
    clear b0 hX hx1 hp hq
    obtain ⟨neg, D, hD, hD0, hbs, hz, hlead⟩ := TxtL.split HP.out
    have HB := Hid.mk hbs
    have HALL := Hid.mk (AllD.digits hD)
    have HT0 : Hid (D.reverse.map dby ≠ []) := by
      intro e
      apply hD0
      simpa using e
    clear hD hD0 hbs hz hlead
    go_wp2_with fail
    refine (trimprefix_at _ p neg _ HB.out HALL.out HT0.out).mono ?_
    rintro e w2 ⟨⟨v2, rfl, d, rfl, hd⟩, hx2⟩
    replace HX := Hid.mk (HX.out.trans hx2)
    replace B0 := Hid.mk (B0.out.x hx2)
    have HDD := Hid.mk hd
    have hds : d.size ≤ 65536 ∧ d.size ≠ 0 := by
      have e1 : d.size = d.data.toList.length := Lib.size_eq d
      have e2 : p.size = p.data.toList.length := Lib.size_eq p
      have h3 := HB.out
      have h4 := List.length_pos_iff.2 HT0.out
      rw [h3] at e2
      rw [hd] at e1
      simp at e1 e2 h4
      omega
    clear hd hx2
    go_wp2_with fail
    refine (rat_digits _ d (by omega) hds.2 (by rw [HDD.out]; exact HALL.out)).mono ?_
    rintro e w3 ⟨⟨v3, rfl, rfl⟩, hx3⟩
    replace HX := Hid.mk (HX.out.trans hx3)
    replace B0 := Hid.mk (B0.out.x hx3)
    clear hx3 HDD hds HB HALL HT0
    go_wp2_with fail
    refine (digits_of _ q x.den HQ.out (by omega) (by omega)).mono ?_
    rintro e w4 ⟨⟨v4, rfl, rfl⟩, hx4⟩
    replace HX := Hid.mk (HX.out.trans hx4)
    replace B0 := Hid.mk (B0.out.x hx4)
    clear hx4
    go_wp2_with fail
    refine (trim_zero _ q x.den HQ.out (by omega) (by omega)).mono ?_
    rintro e w5 ⟨⟨v5, rfl, tz, rfl, htz⟩, hx5⟩
    have htz2 : tz.toList.isEmpty = false := by simpa using htz
    have htz3 : (tz.toList == []) = false := by simpa using htz
    replace HX := Hid.mk (HX.out.trans hx5)
    replace B0 := Hid.mk (B0.out.x hx5)
    clear hx5
    go_wp2_with fail
    refine (int_parse _ p x.num HP.out (by omega)).mono ?_
    rintro e w6 ⟨⟨v6, rfl, r, rfl, hr⟩, hx6⟩
    replace HX := Hid.mk (HX.out.trans hx6)
    replace B0 := Hid.mk (B0.out.x hx6)
    clear hx6 htz htz2 htz3
    go_wp2_with fail
    obtain ⟨W7, hW7, hX7, b7, hWs7⟩ := setup1 w6 #[.bool r.neg, .slice r.A r.n r.c] 49
    rw [hW7]
    clear hW7
    have hg7 : w.heap.size < w6.heap.size := B0.out.lt
    obtain ⟨g7, hg7e⟩ : ∃ g7, g7 = w6.heap.size := ⟨_, rfl⟩
    rw [← hg7e] at b7 hg7
    simp only [← hg7e]
    refine (int_parse _ q x.den HQ.out (by omega)).mono ?_
    rintro e w8 ⟨⟨v8, rfl, t, rfl, ht⟩, hx8⟩
    have hr8 := (hr.x hX7).x hx8
    have b8 := b7.x hx8
    replace HX := Hid.mk ((HX.out.trans hX7).trans hx8)
    replace B0 := Hid.mk ((B0.out.x hX7).x hx8)
    have HR8 := Hid.mk hr8
    have HT8 := Hid.mk ht
    have hg8 : g7 < w8.heap.size := b8.lt
    clear hX7 hx8 hr hr8 ht b7 hg7e
    go_upto_region 15 with (fail)
    obtain ⟨W9, hW9, hX9, b9, hWs9⟩ := setup1 w8 #[.bool t.neg, .slice t.A t.n t.c] 49
    rw [hW9]
    clear hW9
    have hg79 : ¬ g7 = w8.heap.size := by omega
    obtain ⟨g9, hg9⟩ : ∃ g9, g9 = w8.heap.size := ⟨_, rfl⟩
    rw [← hg9] at b9 hg8 hg79
    simp only [← hg9]
    have h0g9 : w.heap.size < g9 := by omega
    have hrn : r.n ≤ 549755813888 := by have := HR8.out.txt HP.out; omega
    have htn : t.n ≤ 549755813888 := by have := HT8.out.txt HQ.out; omega
    have b79 := b8.x hX9
    have HC := Hid.mk (fun w' (h : X W9 w') => (⟨(b79.x h).cell (j := 0) rfl, (b79.x h).cell (j := 1) rfl, (b9.x h).cell (j := 0) rfl, (b9.x h).cell (j := 1) rfl⟩ : w'.cell? ⟨g7, 0, none⟩ = some (.bool r.neg) ∧ w'.cell? ⟨g7, 1, none⟩ = some (.slice r.A r.n r.c) ∧ w'.cell? ⟨g9, 0, none⟩ = some (.bool t.neg) ∧ w'.cell? ⟨g9, 1, none⟩ = some (.slice t.A t.n t.c)))
    have hsg1 : Int.sign ((x.den : Int) - 1) = 1 := Int.sign_eq_one_of_pos (by omega)
    have hsg0 : Int.sign ((Int.gcd x.num x.den : Int) - 1) = 0 := by rw [rat_coprime]; rfl
    have HXp := Hid.mk (HX.out.trans hX9)
    replace B0 := Hid.mk (B0.out.x hX9)
    replace HR8 := Hid.mk (HR8.out.x hX9)
    replace HT8 := Hid.mk (HT8.out.x hX9)
    clear b8 b9 b79 hX9 hg9 hps hqs hm hWs9 hWs7
    go_upto_region 17 with (fail)
    go_cut [80] (fun t80 wc => t80 = .bool false ∧ X W9 wc)
    case first =>
      go_wp2_with fail
      have hz0 : X W9 W9.drew := ⟨rfl, rfl, rfl, Nat.le_refl _, fun _ _ => rfl⟩
      have hS0 := HC.out W9 (X.refl _)
      go_region_held3 (fun w' => w'.cell? ⟨g7, 0, none⟩ = some (.bool r.neg) ∧ w'.cell? ⟨g7, 1, none⟩ = some (.slice r.A r.n r.c) ∧ w'.cell? ⟨g9, 0, none⟩ = some (.bool t.neg) ∧ w'.cell? ⟨g9, 1, none⟩ = some (.slice t.A t.n t.c))
        (go_keep)
        (first
          | (have hguard := hz4; go_at_call 57; refine (int_compare_at _ r3 r4 (Int.gcd x.num x.den) 1 0 hr3 hr4 hsg0).mono ?_; rintro e w5 ⟨⟨v5, rfl, rfl⟩, hx5⟩; have hz5 : X W9 w5 := hz4.trans hx5; have hr1 := hr1.x hx5; have hr3 := hr3.x hx5; have hr4 := hr4.x hx5; have hS5 := HC.out w5 hz5)
          | (have hguard := hz3; go_at_call 61; refine (rat_one _).mono ?_; rintro e w4 ⟨⟨v4, rfl, r4, rfl, hr4⟩, hx4⟩; have hz4 : X W9 w4 := hz3.trans hx4; have hr1 := hr1.x hx4; have hr3 := hr3.x hx4; have hS4 := HC.out w4 hz4)
          | (have hguard := hz2; go_at_call 93; refine (int_gcd _ r t x.num x.den (by exact HR8.out.x hz2) (by exact HT8.out.x hz2) hrn htn).mono ?_; rintro e w3 ⟨⟨v3, rfl, r3, rfl, -, hr3⟩, hx3⟩; have hz3 : X W9 w3 := hz2.trans hx3; have hr1 := hr1.x hx3; have hS3 := HC.out w3 hz3)
          | (have hguard := hz1; go_at_call 57; refine (int_compare_at _ t r1 x.den 1 1 (by exact HT8.out.x hz1) hr1 hsg1).mono ?_; rintro e w2 ⟨⟨v2, rfl, rfl⟩, hx2⟩; have hz2 : X W9 w2 := hz1.trans hx2; have hr1 := hr1.x hx2; have hS2 := HC.out w2 hz2)
          | (have hguard := hz0; go_at_call 61; refine (rat_one _).mono ?_; rintro e w1 ⟨⟨v1, rfl, r1, rfl, hr1⟩, hx1⟩; have hz1 : X W9 w1 := hz0.trans hx1; have hS1 := HC.out w1 hz1))
      go_wp2_with fail
      go_meet
      exact ⟨rfl, hz5⟩
    case rest =>
      obtain ⟨rfl, hxc⟩ := hcut
      have hS := HC.out wc hxc
      have hb0 := B0.out.x hxc
      have hne1 : ¬ w.heap.size = g7 := by omega
      have hne2 : ¬ w.heap.size = g9 := by omega
      have hR : RatR wc ⟨r.neg, r.A, r.n, r.c, t.neg, t.A, t.n, t.c⟩ x := ⟨x.den, HR8.out.x hxc, HT8.out.x hxc, Or.inl rfl⟩
      have k0 := hb0.cell (j := 0) rfl; have k1 := hb0.cell (j := 1) rfl; have k2 := hb0.cell (j := 2) rfl; have k3 := hb0.cell (j := 3) rfl; have f0 := hb0.frozen 0; have f1 := hb0.frozen 1; have f2 := hb0.frozen 2; have f3 := hb0.frozen 3
      have K := four_cells hb0 (.bool r.neg) (.slice r.A r.n r.c) (.bool t.neg) (.slice t.A t.n t.c)
      have HR := Hid.mk (hR.put4 hb0 ⟨r.neg, r.A, r.n, r.c, t.neg, t.A, t.n, t.c⟩)
      have HXF := Hid.mk ((HXp.out.trans hxc).put4 (Nat.le_refl _) ⟨r.neg, r.A, r.n, r.c, t.neg, t.A, t.n, t.c⟩)
      clear hb0 hR B0 hxc HC
      go_wp2_with fail
      exact bodyPost_ret (v := .tuple #[.agg #[.bool r.neg, .slice r.A r.n r.c, .bool t.neg, .slice t.A t.n t.c], .int .i64 0]) (by simp [results, Tryz.results96, go_sem, K.1, K.2.1, K.2.2.1, K.2.2.2]) rfl ⟨⟨_, rfl, ⟨r.neg, r.A, r.n, r.c, t.neg, t.A, t.n, t.c⟩, rfl, HR.out⟩, HXF.out⟩

set_option maxRecDepth 100000 in
theorem rat_parse (w : World) (s : ByteArray) (x : Rat) (h : QTxt s x) (hs : s.size ≤ 400) (hg : Gl w) :
    Calls Tryz.prog 74 #[.string s] w (Ret w fun w' v => ∃ r : QV, v = .tuple #[r.v, .int .i64 0] ∧ RatR w' r x) := by
  have H := Hid.mk h
  have HG := Hid.mk hg
  clear h hg
  go_enter Tryz.func74, Tryz.ntmps74
  go_wp2_with fail
  obtain ⟨W, hW, hX, b0, hWs⟩ := setup1 w #[.bool false, .slice none 0 0, .bool false, .slice none 0 0] 51
  rw [hW]
  clear hW
  refine (rat_read _ s x 400 H.out (by omega) (by omega) (HG.out.x hX)).mono ?_
  rintro e w1 ⟨⟨v1, rfl, r, rfl, hr⟩, hx1⟩
  have hb0 := b0.x hx1
  have k0 := hb0.cell (j := 0) rfl; have k1 := hb0.cell (j := 1) rfl; have k2 := hb0.cell (j := 2) rfl; have k3 := hb0.cell (j := 3) rfl; have f0 := hb0.frozen 0; have f1 := hb0.frozen 1; have f2 := hb0.frozen 2; have f3 := hb0.frozen 3
  have K := four_cells hb0 (.bool r.s) (.slice r.A r.n r.c) (.bool r.t) (.slice r.B r.m r.d)
  have HR := Hid.mk (hr.put4 hb0 r)
  have HXF := Hid.mk ((hX.trans hx1).put4 (Nat.le_refl _) r)
  clear b0 hb0 hX hx1 hr
  go_wp2_with fail
  exact bodyPost_ret (v := .tuple #[r.v, .int .i64 0]) (by simp [results, Tryz.results74, go_sem, K.1, K.2.1, K.2.2.1, K.2.2.2]) rfl ⟨⟨_, rfl, r, rfl, HR.out⟩, HXF.out⟩
end Go.Proofs.YtdgeodnfacnnmaaGreatDoor

/- Package matrix, first part: columns, size. -/
set_option linter.unusedVariables false
set_option linter.unusedSimpArgs false
namespace Go.Proofs.YtdgeodnfacnnmaaGreatDoor
open Go.RowKit
open DDig

theorem mat_columns (w : World) (v : Value) (m c : Nat) (M : Nat → Nat → Rat) (h : MatQ w v m c M) (hm : m ≤ 9223372036854775807) (k : Nat) (hk : k = if m = 0 then 0 else c) :
    Calls Tryz.prog 21 #[v] w (Ret w fun w' v => v = .int .i64 k) := by
  obtain ⟨A, d, rfl, h1, h2, h3⟩ := h
  have HX := Hid.mk (X.refl w)
  by_cases h0 : m = 0
  · subst h0
    obtain rfl : k = 0 := by simpa using hk
    clear h3 h2 hk
    go_enter Tryz.func21, Tryz.ntmps21
    go_wp2
    go_ret
    exact ⟨⟨_, rfl, rfl⟩, HX.out⟩
  · obtain rfl : k = c := by simpa [h0] using hk
    obtain ⟨b, o, rfl, g⟩ := h3 (by omega)
    obtain ⟨u, e0, B, d', rfl, h4, h5, h6⟩ := g 0 (by omega)
    rw [Nat.add_zero] at e0
    have hb : ((m : Int) == 0) = false := by rw [beq_eq_false_iff_ne]; omega
    have hp : (0 : Int) < (m : Int) := by omega
    clear g h3 h2 h5 h6 hk
    go_enter Tryz.func21, Tryz.ntmps21
    go_wp2
    go_ret
    exact ⟨⟨_, rfl, rfl⟩, HX.out⟩

set_option maxHeartbeats 1000000 in
theorem mat_size (w : World) (v : Value) (m c : Nat) (M : Nat → Nat → Rat) (h : MatQ w v m c M) (hm : m ≤ 256) (hc : c ≤ 96) :
    Calls Tryz.prog 19 #[v] w (Ret w fun w' v => v = .int .i64 0) := by
  have H := Hid.mk h
  obtain ⟨A, d, rfl, h1, h2, h3⟩ := h
  have H3 := Hid.mk h3
  clear h2 h3 H
  go_enter Tryz.func19, Tryz.ntmps19
  go_wp2_with fail
  go_loopw [4, 10] (fun t4 t10 wr => ∃ k q : Nat, k ≤ m ∧ t10 = .int .i64 k ∧ wr = w.drewN q) (fun _ t _ => m - (intOf t).toNat)
  case atStart => exact ⟨0, 0, Nat.zero_le _, rfl, rfl⟩
  case round =>
    obtain ⟨k, q, hk, rfl, rfl⟩ := hrel
    by_cases hkm : k < m
    · have hkm' : (k : Int) < (m : Int) := by omega
      obtain ⟨b, o, rfl, g⟩ := H3.out (by omega)
      obtain ⟨u, e0, B, d', rfl, h4, -, -⟩ := g 0 (by omega)
      obtain ⟨u, e1, B2, d2, rfl, h5, -, -⟩ := g k hkm
      rw [Nat.add_zero] at e0
      clear g
      go_wp2
      go_roundw
      case rel => exact ⟨k + 1, _, by omega, by go_num, rfl⟩
      case measure => simp [intOf]; omega
    · go_wp2
      go_ret
      exact ⟨⟨_, rfl, rfl⟩, (X.refl w).drewN q⟩
end Go.Proofs.YtdgeodnfacnnmaaGreatDoor

/- Rows of the call's own whose cells are of one sort; what 'append' leaves as it is. -/
set_option linter.unusedVariables false
set_option linter.unusedSimpArgs false
namespace Go.Proofs.YtdgeodnfacnnmaaGreatDoor
open Go.RowKit
open DDig

/-- A row of the call's own, and of what sort all cells of its block are. -/
def OwnC (C : Value → Prop) (w : World) (base : Nat) (e : TypeId) (size : Nat) (v : Value) (n : Nat) (xs : List Value) : Prop :=
  w.ownsRow base e size v n xs ∧ ∀ g, v.ownBlock = some g → ∃ cs : List Value, Blk w g e cs ∧ ∀ u ∈ cs, C u
/-- What is not of a sort is as it was. -/
def Kp (C : Value → Prop) (w w' : World) : Prop := ∀ p u, w.cell? p = some u → ¬ C u → w'.cell? p = some u
theorem OwnC.nil (C : Value → Prop) (w : World) (base : Nat) (e : TypeId) (size : Nat) : OwnC C w base e size (.slice none 0 0) 0 [] :=
  ⟨World.ownsRow_nil _ _ _ _, fun g h => by simp [Value.ownBlock] at h⟩
theorem OwnC.x {C : Value → Prop} {w w' : World} {base : Nat} {e : TypeId} {size n : Nat} {v : Value} {xs : List Value} (h : OwnC C w base e size v n xs) (hx : X w w') : OwnC C w' base e size v n xs :=
  ⟨own_x h.1 hx, fun g hg => by obtain ⟨cs, h1, h2⟩ := h.2 g hg; exact ⟨cs, h1.x hx, h2⟩⟩
theorem OwnC.empty (C : Value → Prop) (w : World) (e : TypeId) (size : Nat) : OwnC C (w.alloc (.cells #[] e)) w.heap.size e size (.slice (some ⟨w.heap.size, 0, none⟩) 0 0) 0 [] := by
  refine ⟨World.ownsRow_made w #[] 0 (Nat.le_refl _) (by simp) (by simp), fun g hg => ?_⟩
  simp [Value.ownBlock] at hg
  subst hg
  exact ⟨[], Blk.new w #[] e, by simp⟩
theorem OwnC.kp {C : Value → Prop} {w w' : World} {base : Nat} {e : TypeId} {size n : Nat} {v : Value} {xs : List Value} (h : OwnC C w base e size v n xs) (hk : ∀ b, b < w.heap.size → v.ownBlock ≠ some b → w'.heap[b]? = w.heap[b]?) : Kp C w w' := by
  intro p u hp hu
  by_cases hb : v.ownBlock = some p.block
  · obtain ⟨cs, h1, h2⟩ := h.2 _ hb
    exfalso
    apply hu
    unfold World.cell? at hp
    unfold Blk at h1
    simp only [h1] at hp
    simp at hp
    exact h2 u (List.mem_of_getElem? hp.2)
  · rw [cell_kept (hk _ (World.block_lt_of_cell? _ _ hp) hb)]; exact hp

theorem Blk.ofA {w : World} {g : Nat} {e : TypeId} {A : Array Value} (h : w.heap[g]? = some (.cells A e (0, 0))) : Blk w g e A.toList := by
  unfold Blk; rw [h]
theorem zeroCells_mem {z : Array Value} {n : Nat} {u : Value} (h : u ∈ (Builtin.zeroCells z n).toList) : u ∈ z.toList := by
  obtain ⟨k, hk, rfl⟩ := List.getElem_of_mem h
  have hz : 0 < z.size := by
    apply Nat.pos_of_ne_zero
    intro h
    simp [Builtin.zeroCells, h] at hk
  have hm := Nat.mod_lt k hz
  simp [Builtin.zeroCells, hm]

theorem run_append_C {P : Program} (C : Value → Prop) (w : World) (base : Nat) (t ty e : TypeId) (z : Value) (size bytes : Nat) (ht : P.underlying t = some (.slice e)) (h2 : (P.info? e).map (fun i => (i.zero, i.size, i.bytes)) = some (some z, size, bytes)) (hzs : z.cells.size = size) (hsz : 0 < size) (hzc : ∀ u ∈ z.cells.toList, C u)
    (v : Value) (n : Nat) (xs : List Value) (hown : OwnC C w base e size v n xs)
    (a : Addr) (m c : Nat) (news : List Value) (hl : news.length = m * size) (hnews : ∀ j u, news[j]? = some u → w.cell? (a.add j) = some u) (h1 : ∀ u ∈ news, u.oneCell' = true) (hnc : ∀ u ∈ news, C u)
    (h63 : n + m ≤ maxLen) (hbytes : (n + m) * bytes ≤ 140737488355328) (hbase : base ≤ w.heap.size) :
    ∃ v' w', (Builtin.append_ #[t, t] ty #[v, .slice (some a) m c]).run P w = .ok v' w' ∧ OwnC C w' base e size v' (n + m) (xs ++ news) ∧ w.grownBy w' v.ownBlock := by
  obtain ⟨i, hi, e1, e2, e3⟩ := info_parts h2
  obtain ⟨v', w', hr, ho, hg, hnil⟩ := run_append_own (P := P) w base t ty e i z size bytes ht hi e1 e2 e3 hzs hsz v n xs hown.1 a m c news hl hnews h1 h63 hbytes hbase
  refine ⟨v', w', hr, ⟨ho, ?_⟩, hg⟩
  subst e2
  subst e3
  have hsmall : n + m ≤ 9223372036854775807 := by simp only [maxLen] at h63; omega
  rcases hown.1.2 with ⟨rfl, rfl⟩ | ⟨g, cap, cur, rfl, hbg, hgg, hnc', hcm, hcs, htake⟩
  · have hx : xs = [] := List.eq_nil_of_length_eq_zero (by simpa using hown.1.1)
    by_cases hm : m = 0
    · intro g hg
      have := hnil.2 ⟨rfl, hm⟩
      subst this
      simp [Value.ownBlock] at hg
    · have hr' := run_append_nil (P := P) w t ty e i z ht hi e1 a m c news hl hnews (by omega) (by omega) (by have hb := hbytes; simp only [Nat.zero_add] at hb; omega)
      rw [hr'] at hr
      injection hr with hv hw
      subst hv
      subst hw
      intro g hg
      simp [Value.ownBlock] at hg
      subst hg
      refine ⟨_, Blk.ofA (heap_alloc_new w.drew _), fun u hu => ?_⟩
      simp only [Array.toList_append, List.mem_append] at hu
      rcases hu with hu | hu
      · exact hnc u (by simpa using hu)
      · exact hzc u (zeroCells_mem hu)
  · obtain ⟨cs, hcB, hcC⟩ := hown.2 g (by simp [Value.ownBlock])
    have hcur : ∀ u ∈ cur.toList, C u := by
      unfold Blk at hcB
      rw [hgg] at hcB
      injection hcB with hcB
      injection hcB with hcB
      subst hcB
      simpa using hcC
    by_cases hroom : n + m ≤ cap
    · have hfit : n * i.size + news.length ≤ cur.size := by rw [hl, hcs, ← Nat.add_mul]; exact Nat.mul_le_mul_right _ hroom
      have hr' := run_append_room (P := P) w t ty e i ht hi g n cap cur hgg a m c news hl hnews h1 hroom hfit
      rw [hr'] at hr
      injection hr with hv hw
      subst hv
      subst hw
      intro g' hg'
      simp [Value.ownBlock] at hg'
      subst hg'
      refine ⟨_, Blk.ofA (setRow_heap w g cur _ e _ hgg), fun u hu => ?_⟩
      simp only [List.mem_append] at hu
      rcases hu with (hu | hu) | hu
      · exact hcur u (List.mem_of_mem_take hu)
      · exact hnc u hu
      · exact hcur u (List.mem_of_mem_drop hu)
    · have holds : ∀ j u, xs[j]? = some u → w.cell? ((⟨g, 0, none⟩ : Addr).add j) = some u := hown.1.cells (g := g) rfl
      have hr' := run_append_grow (P := P) w t ty e i z ht hi e1 ⟨g, 0, none⟩ n cap xs hown.1.1 holds a m c news hl hnews (by omega) (by omega) (growslice_fits (by omega) hbytes)
      rw [hr'] at hr
      injection hr with hv hw
      subst hv
      subst hw
      intro g' hg'
      simp [Value.ownBlock] at hg'
      subst hg'
      refine ⟨_, Blk.ofA (heap_alloc_new w.drew _), fun u hu => ?_⟩
      simp only [Array.toList_append, List.mem_append] at hu
      rcases hu with (hu | hu) | hu
      · have : u ∈ xs := by simpa using hu
        rw [← htake] at this
        exact hcur u (List.mem_of_mem_take this)
      · exact hnc u (by simpa using hu)
      · exact hzc u (zeroCells_mem hu)

/-- 'append(out, xs...)' onto a row of one sort. -/
theorem append_C {P : Program} (C : Value → Prop) (w0 w : World) {ops : Array Oper} {rest : List Oper} {o : Oper} {a : Act} {Q : Exit → Act → World → Prop} (hgd : o.guard = none) (s x : Operand) (t : TypeId)
    (ho : o.op = .call { callee := .builtin .append, args := #[s, x], argTypes := #[t, t] })
    (e : TypeId) (z : Value) (size bytes : Nat) (ht : P.underlying t = some (.slice e)) (h2 : (P.info? e).map (fun i => (i.zero, i.size, i.bytes)) = some (some z, size, bytes)) (hzs : z.cells.size = size) (hsz : 0 < size) (hzc : ∀ u ∈ z.cells.toList, C u)
    (v : Value) (n : Nat) (xs : List Value) (hs : a.eval s = v) (hown : OwnC C w w0.heap.size e size v n xs)
    (ad : Addr) (m c : Nat) (news : List Value) (hx : a.eval x = .slice (some ad) m c) (hl : news.length = m * size) (hnews : ∀ j u, news[j]? = some u → w.cell? (ad.add j) = some u) (h1 : ∀ u ∈ news, u.oneCell' = true) (hnc : ∀ u ∈ news, C u)
    (h63 : n + m ≤ 9223372036854775807) (hbytes : (n + m) * bytes ≤ 140737488355328) (hX : X w0 w)
    (h : ∀ v' w', OwnC C w' w0.heap.size e size v' (n + m) (xs ++ news) → X w0 w' → (∀ b, b < w.heap.size → v.ownBlock ≠ some b → w'.heap[b]? = w.heap[b]?) → wpList P ops Q rest (a.put o.dst v') w') : wpList P ops Q (o :: rest) a w := by
  refine wpList_plain hgd fun _ hK => ?_
  obtain ⟨v', w', hr, h3, h4⟩ := run_append_C (P := P) C w w0.heap.size t o.type e z size bytes ht h2 hzs hsz hzc v n xs hown ad m c news hl hnews h1 hnc (by simp only [maxLen]; omega) hbytes hX.size
  unfold Oper.wp execOp
  simp only [ho, resolve, invoke, builtin, Sem.run_bind, Sem.run_pure, Result.andThen_ok, List.map_toArray, List.map_cons, List.map_nil, hs, hx, hr]
  exact hK _ _ (h v' w' h3 (hX.grown h4 (own_ge hown.1)) (fun b hb1 hb2 => h4.block b hb1 (fun e => hb2 e.symm)))

/-- 'append(out, x)' onto a row of one sort. -/
theorem append_oneC {P : Program} (C : Value → Prop) (w0 w : World) {ops : Array Oper} {rest : List Oper} {o : Oper} {a : Act} {Q : Exit → Act → World → Prop} (hgd : o.guard = none) (s x : Operand) (t : TypeId)
    (ho : o.op = .call { callee := .builtin .append, args := #[s, x], argTypes := #[t, t] })
    (e : TypeId) (z : Value) (size bytes : Nat) (ht : P.underlying t = some (.slice e)) (h2 : (P.info? e).map (fun i => (i.zero, i.size, i.bytes)) = some (some z, size, bytes)) (hzs : z.cells.size = size) (hsz : 0 < size) (hzc : ∀ u ∈ z.cells.toList, C u)
    (v : Value) (n : Nat) (xs : List Value) (hs : a.eval s = v) (hown : OwnC C w w0.heap.size e size v n xs)
    (cs : Array Value) (e' : TypeId) (c : Nat) (hx : a.eval x = .slice (some ⟨w.heap.size, 0, none⟩) 1 c) (hl : cs.size = size) (h1 : ∀ u ∈ cs.toList, u.oneCell' = true) (hnc : ∀ u ∈ cs.toList, C u)
    (hb : (n + 1) * bytes ≤ 140737488355328) (h63 : n + 1 ≤ 9223372036854775807) (hX : X w0 w)
    (h : ∀ v' w', OwnC C w' w0.heap.size e size v' (n + 1) (xs ++ cs.toList) → X w0 w' → (∀ b, b < w.heap.size → v.ownBlock ≠ some b → w'.heap[b]? = w.heap[b]?) → wpList P ops Q rest (a.put o.dst v') w') : wpList P ops Q (o :: rest) a (w.alloc (.cells cs e')) := by
  refine append_C C w0 (w.alloc (.cells cs e')) hgd s x t ho e z size bytes ht h2 hzs hsz hzc v n xs hs (hown.x ((X.refl w).alloc _)) ⟨w.heap.size, 0, none⟩ 1 c cs.toList hx (by simpa using hl) ?_ h1 hnc h63 hb (hX.alloc _) (fun v' w' h3 h4 h5 => h v' w' h3 h4 (fun b hb1 hb2 => by
    rw [h5 b (by simp; omega) hb2]; exact heap_alloc_old w _ hb1))
  intro j u hj
  have := (Blk.new w cs e').cell hj
  have e2 : (⟨w.heap.size, 0, none⟩ : Addr).add j = ⟨w.heap.size, j, none⟩ := by unfold Addr.add; split <;> simp_all
  rw [e2]; exact this

/-- 'append(out, x)' onto a row of one sort, at a step of a region that draws its order. -/
theorem step_append_oneC {P : Program} (C : Value → Prop) (w0 w : World) {ops : Array Oper} {o : Oper} {a : Act} {K : Act → World → Prop} {Q : Exit → Act → World → Prop} {E : Prop} (hgd : o.guard = none) (s x : Operand) (t : TypeId)
    (ho : o.op = .call { callee := .builtin .append, args := #[s, x], argTypes := #[t, t] })
    (e : TypeId) (z : Value) (size bytes : Nat) (ht : P.underlying t = some (.slice e)) (h2 : (P.info? e).map (fun i => (i.zero, i.size, i.bytes)) = some (some z, size, bytes)) (hzs : z.cells.size = size) (hsz : 0 < size) (hzc : ∀ u ∈ z.cells.toList, C u)
    (v : Value) (n : Nat) (xs : List Value) (hs : a.eval s = v) (hown : OwnC C w w0.heap.size e size v n xs)
    (cs : Array Value) (e' : TypeId) (c : Nat) (hx : a.eval x = .slice (some ⟨w.heap.size, 0, none⟩) 1 c) (hl : cs.size = size) (h1 : ∀ u ∈ cs.toList, u.oneCell' = true) (hnc : ∀ u ∈ cs.toList, C u)
    (hb : (n + 1) * bytes ≤ 140737488355328) (h63 : n + 1 ≤ 9223372036854775807) (hX : X w0 w)
    (h : ∀ v' w', OwnC C w' w0.heap.size e size v' (n + 1) (xs ++ cs.toList) → X w0 w' → (∀ b, b < w.heap.size → v.ownBlock ≠ some b → w'.heap[b]? = w.heap[b]?) → K (a.put o.dst v') w') :
    if Region.wanted o (yielded ops a.tmps) = true then Oper.wp P o a (w.alloc (.cells cs e')) K Q else E := by
  have hw : Region.wanted o (yielded ops a.tmps) = true := by simp [Region.wanted, hgd]
  rw [if_pos hw]
  have hnews : ∀ j u, cs.toList[j]? = some u → (w.alloc (.cells cs e')).cell? ((⟨w.heap.size, 0, none⟩ : Addr).add j) = some u := by
    intro j u hj
    have := (Blk.new w cs e').cell hj
    have e2 : (⟨w.heap.size, 0, none⟩ : Addr).add j = ⟨w.heap.size, j, none⟩ := by unfold Addr.add; split <;> simp_all
    rw [e2]; exact this
  obtain ⟨v', w', hr, h3, h4⟩ := run_append_C (P := P) C (w.alloc (.cells cs e')) w0.heap.size t o.type e z size bytes ht h2 hzs hsz hzc v n xs (hown.x ((X.refl w).alloc _)) ⟨w.heap.size, 0, none⟩ 1 c cs.toList (by simpa using hl) hnews h1 hnc (by simp only [maxLen]; omega) hb (hX.alloc _).size
  unfold Oper.wp execOp
  simp only [ho, resolve, invoke, builtin, Sem.run_bind, Sem.run_pure, Result.andThen_ok, List.map_toArray, List.map_cons, List.map_nil, hs, hx, hr]
  exact h v' w' h3 ((hX.alloc _).grown h4 (own_ge hown.1)) (fun b hb1 hb2 => by
    rw [h4.block b (by simp; omega) (fun e => hb2 e.symm)]; exact heap_alloc_old w _ hb1)

/-- Sorts of cells: slices; whole numbers of a kind; texts. -/
def IsSl (u : Value) : Prop := ∃ A n c, u = .slice A n c
def IsI64 (u : Value) : Prop := ∃ x, u = .int .i64 x
theorem nisl_bool (b : Bool) : ¬ IsSl (.bool b) := fun ⟨_, _, _, h⟩ => by cases h
theorem nisl_int (k : IntKind) (x : Int) : ¬ IsSl (.int k x) := fun ⟨_, _, _, h⟩ => by cases h
theorem nisl_str (s : ByteArray) : ¬ IsSl (.string s) := fun ⟨_, _, _, h⟩ => by cases h
theorem ni64_bool (b : Bool) : ¬ IsI64 (.bool b) := fun ⟨_, h⟩ => by cases h
theorem ni64_sl (A : Option Addr) (n c : Nat) : ¬ IsI64 (.slice A n c) := fun ⟨_, h⟩ => by cases h
theorem ni64_str (s : ByteArray) : ¬ IsI64 (.string s) := fun ⟨_, h⟩ => by cases h
theorem ni64_u32 (x : Int) : ¬ IsI64 (.int .u32 x) := fun ⟨_, h⟩ => by cases h

theorem Rd.kp {C : Value → Prop} {w w' : World} {k : IntKind} {A : Option Addr} {xs : List Int} (h : Rd w k A xs) (hk : Kp C w w') (hC : ∀ x, ¬ C (.int k x)) : Rd w' k A xs :=
  ⟨h.1, fun h0 => by obtain ⟨b, o, e, hc⟩ := h.2 h0; exact ⟨b, o, e, fun j hj => hk _ _ (hc j hj) (hC _)⟩⟩
theorem IntR.kp {C : Value → Prop} {w w' : World} {a : IV} {z : Int} (h : IntR w a z) (hk : Kp C w w') (hC : ∀ x, ¬ C (.int .u32 x)) : IntR w' a z := by
  obtain ⟨m, ⟨xs, h1, h2, h3, h4, h5⟩, h6, h7⟩ := h
  exact ⟨m, ⟨xs, h1, h2, h3.kp hk hC, h4, h5⟩, h6, h7⟩
theorem RatR.kp {C : Value → Prop} {w w' : World} {a : QV} {q : Rat} (h : RatR w a q) (hk : Kp C w w') (hC : ∀ x, ¬ C (.int .u32 x)) : RatR w' a q := by
  obtain ⟨e, h1, h2, h3⟩ := h
  exact ⟨e, h1.kp hk hC, h2.kp hk hC, h3⟩
theorem RowQ.kp {C : Value → Prop} {w w' : World} {A : Option Addr} {n : Nat} {f : Nat → Rat} (h : RowQ w A n f) (hk : Kp C w w') (hC : ∀ x, ¬ C (.int .u32 x)) (hb : ∀ b, ¬ C (.bool b)) (hs : ∀ A n c, ¬ C (.slice A n c)) : RowQ w' A n f := fun h0 => by
  obtain ⟨b, o, e, g⟩ := h h0
  refine ⟨b, o, e, fun j hj => ?_⟩
  obtain ⟨a, h1, h2, h3, h4, h5⟩ := g j hj
  exact ⟨a, hk _ _ h1 (hb _), hk _ _ h2 (hs _ _ _), hk _ _ h3 (hb _), hk _ _ h4 (hs _ _ _), h5.kp hk hC⟩
theorem SlQ.ki {w w' : World} {v : Value} {n : Nat} {f : Nat → Rat} (h : SlQ w v n f) (hk : Kp IsI64 w w') : SlQ w' v n f := by
  obtain ⟨A, c, h1, h2, h3, h4⟩ := h
  exact ⟨A, c, h1, h2, h3, h4.kp hk ni64_u32 ni64_bool ni64_sl⟩
/-- A store into a block of slices, or whatever leaves all other blocks as they are, leaves rows as they are. -/
theorem SlQ.ks {w w' : World} {v : Value} {n : Nat} {f : Nat → Rat} (h : SlQ w v n f) {g : Nat} {e : TypeId} {cs : List Value} (hg : Blk w g e cs) (hs : ∀ u ∈ cs, IsSl u) (hk : ∀ p : Addr, p.block ≠ g → w'.cell? p = w.cell? p) : SlQ w' v n f := by
  have hkp : Kp IsSl w w' := by
    intro p u hp hu
    by_cases e : p.block = g
    · exfalso
      apply hu
      unfold World.cell? at hp
      unfold Blk at hg
      rw [e] at hp
      simp only [hg] at hp
      simp at hp
      exact hs u (List.mem_of_getElem? hp.2)
    · rw [hk p e]; exact hp
  obtain ⟨A, c, h1, h2, h3, h4⟩ := h
  refine ⟨A, c, h1, h2, h3, fun h0 => ?_⟩
  obtain ⟨b, o, e, gg⟩ := h4 h0
  refine ⟨b, o, e, fun j hj => ?_⟩
  obtain ⟨a, k1, k2, k3, k4, k5⟩ := gg j hj
  have hb : b ≠ g := by
    intro e
    subst e
    unfold World.cell? at k1
    unfold Blk at hg
    simp only [hg] at k1
    simp at k1
    exact nisl_bool _ (hs _ (List.mem_of_getElem? k1))
  refine ⟨a, ?_, ?_, ?_, ?_, k5.kp hkp (nisl_int _)⟩
  · rw [hk _ hb]; exact k1
  · rw [hk _ hb]; exact k2
  · rw [hk _ hb]; exact k3
  · rw [hk _ hb]; exact k4
theorem RowQ.all {w w' : World} {A : Option Addr} {n : Nat} {f : Nat → Rat} (h : RowQ w A n f) (hk : ∀ p u, w.cell? p = some u → w'.cell? p = some u) : RowQ w' A n f :=
  h.kp (C := fun _ => False) (fun p u hp _ => hk p u hp) (fun _ h => h) (fun _ h => h) (fun _ _ _ h => h)
/-- An append to a row of slices leaves rows as they are. -/
theorem SlQ.kApp {w w' : World} {base : Nat} {e : TypeId} {n c : Nat} {u v : Value} {xs : List Value} {f : Nat → Rat} (h : SlQ w u c f) (ho : OwnC IsSl w base e 1 v n xs) (hk : ∀ b, b < w.heap.size → v.ownBlock ≠ some b → w'.heap[b]? = w.heap[b]?) : SlQ w' u c f := by
  have hkp := ho.kp hk
  obtain ⟨A, d, h1, h2, h3, h4⟩ := h
  refine ⟨A, d, h1, h2, h3, fun h0 => ?_⟩
  obtain ⟨b, o, e, gg⟩ := h4 h0
  refine ⟨b, o, e, fun j hj => ?_⟩
  obtain ⟨a, k1, k2, k3, k4, k5⟩ := gg j hj
  have hb : v.ownBlock ≠ some b := by
    intro hb
    obtain ⟨cs, hB, hC⟩ := ho.2 b hb
    unfold World.cell? at k1
    unfold Blk at hB
    simp only [hB] at k1
    simp at k1
    exact nisl_bool _ (hC _ (List.mem_of_getElem? k1))
  have hbl : b < w.heap.size := World.block_lt_of_cell? _ _ k1
  have hs := hk b hbl hb
  refine ⟨a, ?_, ?_, ?_, ?_, k5.kp hkp (nisl_int _)⟩
  · rw [cell_kept hs]; exact k1
  · rw [cell_kept hs]; exact k2
  · rw [cell_kept hs]; exact k3
  · rw [cell_kept hs]; exact k4
theorem SlF.kApp {w w' : World} {base : Nat} {e : TypeId} {n c : Nat} {u v : Value} {xs : List Value} {f : Nat → Rat} (h : SlF w u c f) (ho : OwnC IsSl w base e 1 v n xs) (hk : ∀ b, b < w.heap.size → v.ownBlock ≠ some b → w'.heap[b]? = w.heap[b]?) : SlF w' u c f := by
  have hkp := ho.kp hk
  obtain ⟨A, d, h1, h2, h3, h4⟩ := h
  refine ⟨A, d, h1, h2, h3, fun h0 => ?_⟩
  obtain ⟨b, o, e, gg⟩ := h4 h0
  refine ⟨b, o, e, fun j hj => ?_⟩
  obtain ⟨a, k1, k2, k3⟩ := gg j hj
  exact ⟨a, hkp _ _ k1 (nisl_str _), hkp _ _ k2 (nisl_str _), k3⟩
end Go.Proofs.YtdgeodnfacnnmaaGreatDoor

/- Package matrix, second part: copies of rows and of tables. -/
set_option linter.unusedVariables false
set_option linter.unusedSimpArgs false
namespace Go.Proofs.YtdgeodnfacnnmaaGreatDoor
open Go.RowKit
open DDig

theorem list_of {α : Type} {P : Nat → α → Prop} : ∀ n : Nat, (∀ j, j < n → ∃ a, P j a) → ∃ l : List α, l.length = n ∧ ∀ j a, l[j]? = some a → P j a
  | 0, _ => ⟨[], rfl, by simp⟩
  | n + 1, h => by
    obtain ⟨l, h1, h2⟩ := list_of n (fun j hj => h j (by omega))
    obtain ⟨a, ha⟩ := h n (by omega)
    refine ⟨l ++ [a], by simp [h1], fun j b hb => ?_⟩
    rcases Nat.lt_or_ge j n with hj | hj
    · rw [List.getElem?_append_left (by omega)] at hb; exact h2 j b hb
    · rw [List.getElem?_append_right (by omega), h1] at hb
      have : j = n := by
        have := (List.getElem?_eq_some_iff.1 hb).1
        simp at this; omega
      subst this
      simp at hb
      subst hb; exact ha

theorem flat_inv {α : Type} (c : α → List Value) (z : Nat) (hz : ∀ a, (c a).length = z) (hz0 : 0 < z) (xs : List α) {i : Nat} {v : Value} (h : (xs.flatMap c)[i]? = some v) : ∃ a, xs[i / z]? = some a ∧ (c a)[i % z]? = some v := by
  have hl := (List.getElem?_eq_some_iff.1 h).1
  rw [flat_len c z hz] at hl
  have hj : i / z < xs.length := Nat.div_lt_of_lt_mul (by rw [Nat.mul_comm]; exact hl)
  have ha : xs[i / z]? = some xs[i / z] := List.getElem?_eq_getElem hj
  refine ⟨xs[i / z], ha, ?_⟩
  rw [← flat_get c z hz xs (i / z) (i % z) _ ha (Nat.mod_lt _ hz0)]
  rw [show i / z * z + i % z = i by rw [Nat.mul_comm]; exact Nat.div_add_mod i z]
  exact h

theorem RowQ.list {w : World} {A : Option Addr} {n : Nat} {f : Nat → Rat} (h : RowQ w A n f) :
    ∃ qs : List QV, qs.length = n ∧ (∀ j a, qs[j]? = some a → RatR w a (f j)) ∧ ∀ b o, A = some ⟨b, o, none⟩ → ∀ i v, (qcs qs)[i]? = some v → w.cell? ⟨b, o + i, none⟩ = some v := by
  by_cases h0 : 0 < n
  · obtain ⟨b, o, rfl, g⟩ := h h0
    obtain ⟨qs, h1, h2⟩ := list_of n g
    refine ⟨qs, h1, fun j a ha => (h2 j a ha).2.2.2.2, fun b' o' e i v hv => ?_⟩
    injection e with e; injection e with e1 e2
    subst e1 e2
    obtain ⟨a, ha, hc⟩ := flat_inv qvc 4 (fun _ => rfl) (by omega) qs hv
    obtain ⟨c0, c1, c2, c3, -⟩ := h2 _ a ha
    have hlt : i % 4 < 4 := Nat.mod_lt _ (by omega)
    have hi : i = i / 4 * 4 + i % 4 := by omega
    rw [hi]
    obtain ⟨r, hr⟩ : ∃ r, r = i % 4 := ⟨_, rfl⟩
    rw [← hr] at hc hlt ⊢
    match r, hlt with
    | 0, _ => injection hc with hc; subst hc; simpa using c0
    | 1, _ => injection hc with hc; subst hc; simpa [Nat.add_assoc] using c1
    | 2, _ => injection hc with hc; subst hc; simpa [Nat.add_assoc] using c2
    | 3, _ => injection hc with hc; subst hc; simpa [Nat.add_assoc] using c3
  · obtain rfl : n = 0 := by omega
    exact ⟨[], rfl, by simp, by simp⟩

theorem add_off (b o i : Nat) : (⟨b, o, none⟩ : Addr).add i = ⟨b, o + i, none⟩ := by unfold Addr.add; split <;> simp_all

theorem qcs_one (qs : List QV) : ∀ u ∈ qcs qs, u.oneCell' = true := by
  intro u hu
  simp only [qcs, List.mem_flatMap] at hu
  obtain ⟨a, _, ha⟩ := hu
  simp [qvc] at ha
  rcases ha with rfl | rfl | rfl | rfl <;> rfl

set_option maxRecDepth 100000 in
set_option maxHeartbeats 1000000 in
theorem clone_q (w : World) (v : Value) (n : Nat) (f : Nat → Rat) (h : SlQ w v n f) (hn : n ≤ 1000000) :
    Calls Tryz.prog 22 #[v] w (Ret w fun w' v' => ∃ qs : List QV, qs.length = n ∧ w'.ownsRow w.heap.size 51 4 v' n (qcs qs) ∧ ∀ j a, qs[j]? = some a → RatR w' a (f j)) := by
  obtain ⟨A, c, rfl, h1, h2, h3⟩ := h
  cases A with
  | none =>
    obtain ⟨rfl, rfl⟩ := h2 rfl
    clear h1 h2 h3
    have heq := fun (w : World) (n c : Nat) => Lib.run_eql_slice_nil (P := Tryz.prog) w 64 51 none n c 0 0 Tryz.underlying64
    go_enter Tryz.func22, Tryz.ntmps22
    go_wp2
    go_ret
    exact ⟨⟨_, rfl, [], rfl, World.ownsRow_nil _ _ _ _, by simp⟩, X.refl w⟩
  | some ad =>
    obtain ⟨qs, hl, hq, hc⟩ := h3.list
    have HQ := Hid.mk hq
    have hnews : Hid (∀ j u, (qcs qs)[j]? = some u → w.cell? (ad.add j) = some u) := by
      intro j u hu
      by_cases h0 : 0 < n
      · obtain ⟨b, o, e, -⟩ := h3 h0
        injection e with e
        subst e
        rw [add_off]
        exact hc b o rfl j u hu
      · have : qs = [] := List.eq_nil_of_length_eq_zero (by omega)
        subst this
        simp [qcs] at hu
    have hql : (qcs qs).length = n * 4 := by rw [qcs, flat_len qvc 4 (fun _ => rfl), hl]
    clear h1 h2 h3 hq hc
    have heq := fun (w : World) (n c : Nat) => Lib.run_eql_slice_nil (P := Tryz.prog) w 64 51 (some ad) n c 0 0 Tryz.underlying64
    go_enter Tryz.func22, Tryz.ntmps22
    go_wp2_with (at_builtin; refine append_own _ rfl _ _ 64 rfl w.heap.size 51 (.agg #[.bool false, .slice none 0 0, .bool false, .slice none 0 0]) 4 64 Tryz.underlying64 info_Q rfl (by omega) (.slice (some ⟨w.heap.size, 0, none⟩) 0 0) 0 [] rfl (World.ownsRow_made w #[] 0 (Nat.le_refl _) (by simp) rfl) ad n c (qcs qs) rfl hql (fun j u hu => by exact ((X.refl w).alloc _).cell (hnews.out j u hu)) (qcs_one qs) (by omega) (by omega) (by simp) ?_; intro v1 w1 ho1 hg1; have HO := Hid.mk ho1; have HX := Hid.mk (((X.refl w).alloc _).grown hg1 (fun k hk => by injection hk with hk; subst hk; exact Nat.le_refl _)); clear ho1 hg1)
    go_ret
    have ho := HO.out
    rw [Nat.zero_add, List.nil_append] at ho
    exact ⟨⟨_, rfl, qs, hl, ho, fun j a ha => (HQ.out j a ha).x HX.out⟩, HX.out⟩

theorem RowM.list {S : World → Value → Nat → (Nat → Rat) → Prop} {w : World} {A : Option Addr} {m c : Nat} {M : Nat → Nat → Rat} (h : RowM S w A m c M) :
    ∃ us : List Value, us.length = m ∧ (∀ j u, us[j]? = some u → S w u c (M j)) ∧ ∀ b o, A = some ⟨b, o, none⟩ → ∀ i v, us[i]? = some v → w.cell? ⟨b, o + i, none⟩ = some v := by
  by_cases h0 : 0 < m
  · obtain ⟨b, o, rfl, g⟩ := h h0
    obtain ⟨us, h1, h2⟩ := list_of m g
    refine ⟨us, h1, fun j a ha => (h2 j a ha).2, fun b' o' e i v hv => ?_⟩
    injection e with e; injection e with e1 e2
    subst e1 e2
    exact (h2 i v hv).1
  · obtain rfl : m = 0 := by omega
    exact ⟨[], rfl, by simp, by simp⟩

theorem SlQ.cell1 {w : World} {v : Value} {n : Nat} {f : Nat → Rat} (h : SlQ w v n f) : v.oneCell' = true := by
  obtain ⟨A, c, rfl, -⟩ := h; rfl
theorem SlF.cell1 {w : World} {v : Value} {n : Nat} {f : Nat → Rat} (h : SlF w v n f) : v.oneCell' = true := by
  obtain ⟨A, c, rfl, -⟩ := h; rfl

set_option maxRecDepth 100000 in
set_option maxHeartbeats 1000000 in
theorem clone_m (w0 w : World) (v : Value) (m c : Nat) (M : Nat → Nat → Rat) (h : MatQ w0 v m c M) (hx0 : X w0 w) (hn : m ≤ 1000000) :
    Calls Tryz.prog 43 #[v] w (Ret w fun w' v' => ∃ us : List Value, us.length = m ∧ OwnC IsSl w' w.heap.size 64 1 v' m us ∧ ∀ j u, us[j]? = some u → SlQ w0 u c (M j)) := by
  obtain ⟨A, d, rfl, h1, h2, h3⟩ := h
  cases A with
  | none =>
    obtain ⟨rfl, rfl⟩ := h2 rfl
    clear h1 h2 h3
    have heq := fun (w : World) (n c : Nat) => Lib.run_eql_slice_nil (P := Tryz.prog) w 29 64 none n c 0 0 Tryz.underlying29
    go_enter Tryz.func43, Tryz.ntmps43
    go_wp2
    go_ret
    exact ⟨⟨_, rfl, [], rfl, OwnC.nil _ _ _ _ _, by simp⟩, X.refl w⟩
  | some ad =>
    obtain ⟨us, hl, hq, hc⟩ := h3.list
    have HQ := Hid.mk hq
    have hone : ∀ u ∈ us, u.oneCell' = true := by
      intro u hu
      obtain ⟨i, hi, e⟩ := List.getElem_of_mem hu
      exact (hq i u (by rw [List.getElem?_eq_getElem hi, e])).cell1
    have HONE := Hid.mk hone
    have hsl : Hid (∀ u ∈ us, IsSl u) := by
      intro u hu
      obtain ⟨i, hi, e⟩ := List.getElem_of_mem hu
      obtain ⟨B, d', e', -⟩ := hq i u (by rw [List.getElem?_eq_getElem hi, e])
      exact ⟨B, c, d', e'⟩
    have hnews : Hid (∀ j u, us[j]? = some u → w.cell? (ad.add j) = some u) := by
      intro j u hu
      by_cases h0 : 0 < m
      · obtain ⟨b, o, e, -⟩ := h3 h0
        injection e with e
        subst e
        rw [add_off]
        exact hx0.cell (hc b o rfl j u hu)
      · have : us = [] := List.eq_nil_of_length_eq_zero (by omega)
        subst this
        simp at hu
    have hql : us.length = m * 1 := by omega
    clear h1 h2 h3 hq hc hone
    have heq := fun (w : World) (n c : Nat) => Lib.run_eql_slice_nil (P := Tryz.prog) w 29 64 (some ad) n c 0 0 Tryz.underlying29
    go_enter Tryz.func43, Tryz.ntmps43
    go_wp2_with (at_builtin; refine append_C IsSl w _ rfl _ _ 29 rfl 64 (.slice none 0 0) 1 24 Tryz.underlying29 info_sQ rfl (by omega) (fun u hu => ⟨none, 0, 0, by simpa [Value.cells] using hu⟩) (.slice (some ⟨w.heap.size, 0, none⟩) 0 0) 0 [] rfl (OwnC.empty IsSl w _ 1) ad m d us rfl hql (fun j u hu => by exact ((X.refl w).alloc _).cell (hnews.out j u hu)) HONE.out hsl.out (by omega) (by omega) ((X.refl w).alloc _) ?_; intro v1 w1 ho1 hx1 _; have HO := Hid.mk ho1; have HX := Hid.mk hx1; clear ho1 hx1)
    go_ret
    have ho := HO.out
    rw [Nat.zero_add, List.nil_append] at ho
    exact ⟨⟨_, rfl, us, hl, ho, HQ.out⟩, HX.out⟩
end Go.Proofs.YtdgeodnfacnnmaaGreatDoor

/- Package matrix, third part: the closures of over and less. -/
set_option linter.unusedVariables false
set_option linter.unusedSimpArgs false
namespace Go.Proofs.YtdgeodnfacnnmaaGreatDoor
open Go.RowKit
open DDig

theorem RSz.of_divInt {a b : Int} {k : Nat} (hb : b ≠ 0) (h1 : (a.natAbs : Int) < pw B32 k) (h2 : (b.natAbs : Int) < pw B32 k) : RSz (Rat.divInt a b) k := by
  have key : ∀ {a b : Int}, 0 < b → (a.natAbs : Int) < pw B32 k → (b.natAbs : Int) < pw B32 k → RSz (Rat.divInt a b) k := by
    intro a b hb h1 h2
    obtain ⟨e1, e2⟩ := divInt_parts (x := a) hb
    have hg : 0 < (Int.gcd a b : Int) := by
      have : 0 < Int.gcd a b := Int.gcd_pos_of_ne_zero_right _ (by omega)
      omega
    constructor
    · rw [e1]
      have := Int.natAbs_ediv_le_natAbs a (Int.gcd a b : Int)
      omega
    · rw [e2]
      have := Int.natAbs_ediv_le_natAbs b (Int.gcd a b : Int)
      have h3 : 0 ≤ b / (Int.gcd a b : Int) := Int.ediv_nonneg (by omega) (by omega)
      omega
  by_cases h : 0 < b
  · exact key h h1 h2
  · rw [← Rat.neg_divInt_neg]
    exact key (by omega) (by rw [Int.natAbs_neg]; exact h1) (by rw [Int.natAbs_neg]; exact h2)
theorem RSz.mul {x y : Rat} {k l : Nat} (h : RSz x k) (g : RSz y l) : RSz (x * y) (k + l) := by
  have e0 : x * y = Rat.divInt (x.num * y.num) (x.den * y.den) := by
    rw [Rat.mul_def', ← Rat.divInt_ofNat, Int.natCast_mul]
  have := x.den_pos
  have := y.den_pos
  rw [e0]
  exact RSz.of_divInt (Int.mul_ne_zero (by omega) (by omega)) (natAbs_lt_pw h.1 g.1) (natAbs_lt_pw (by rw [Int.natAbs_natCast]; exact h.2) (by rw [Int.natAbs_natCast]; exact g.2))
theorem RSz.add {x y : Rat} {k l : Nat} (h : RSz x k) (g : RSz y l) : RSz (x + y) (k + l + 1) := by
  have := x.den_pos
  have := y.den_pos
  rw [← add_divInt]
  have h1 := natAbs_lt_pw h.1 (b := y.den) (l := l) (by rw [Int.natAbs_natCast]; exact g.2)
  have h2 := natAbs_lt_pw g.1 (b := x.den) (l := k) (by rw [Int.natAbs_natCast]; exact h.2)
  rw [Nat.add_comm] at h2
  have h3 := natAbs_lt_pw (a := x.den) (b := y.den) (k := k) (l := l) (by rw [Int.natAbs_natCast]; exact h.2) (by rw [Int.natAbs_natCast]; exact g.2)
  exact RSz.of_divInt (Int.mul_ne_zero (by omega) (by omega)) (add_lt_pw h1 h2) (Int.lt_of_lt_of_le h3 (pw_mono B32_one (by omega)))
theorem RSz.sub {x y : Rat} {k l : Nat} (h : RSz x k) (g : RSz y l) : RSz (x - y) (k + l + 1) := by
  rw [Rat.sub_eq_add_neg]; exact h.add g.neg
theorem RSz.div {x y : Rat} {k l : Nat} (h : RSz x k) (g : RSz y l) (hy : y ≠ 0) : RSz (x / y) (k + l) := by
  have := x.den_pos
  have hyn : y.num ≠ 0 := fun h => hy (rat_num_zero.1 h)
  rw [← div_divInt]
  exact RSz.of_divInt (Int.mul_ne_zero (by omega) hyn) (natAbs_lt_pw h.1 (by rw [Int.natAbs_natCast]; exact g.2)) (natAbs_lt_pw (by rw [Int.natAbs_natCast]; exact h.2) g.1)

/-- A rational that lies in a cell. -/
def CellQ (w : World) (g : Nat) (x : Rat) : Prop := ∃ a : QV, w.cell? ⟨g, 0, none⟩ = some (.bool a.s) ∧ w.cell? ⟨g, 1, none⟩ = some (.slice a.A a.n a.c) ∧ w.cell? ⟨g, 2, none⟩ = some (.bool a.t) ∧ w.cell? ⟨g, 3, none⟩ = some (.slice a.B a.m a.d) ∧ RatR w a x
theorem CellQ.x {w w' : World} {g : Nat} {q : Rat} (h : CellQ w g q) (hx : X w w') : CellQ w' g q := by
  obtain ⟨a, h1, h2, h3, h4, h5⟩ := h
  exact ⟨a, hx.cell h1, hx.cell h2, hx.cell h3, hx.cell h4, h5.x hx⟩
theorem Blk.cellQ {w : World} {g : Nat} {e : TypeId} {a : QV} {x : Rat} (h : Blk w g e (qvc a)) (hr : RatR w a x) : CellQ w g x :=
  ⟨a, h.cell rfl, h.cell rfl, h.cell rfl, h.cell rfl, hr⟩

theorem Blk.q4o {w : World} {g k : Nat} {e : TypeId} {cs : List Value} (hb : Blk w g e cs) (hk : k ≠ g) (r : QV) : Blk (Go.Proofs.YtdgeodnfacnnmaaGreatDoor.put4 w k r) g e cs :=
  (((hb.other (p := ⟨k, 0, none⟩) hk _).other (p := ⟨k, 1, none⟩) hk _).other (p := ⟨k, 2, none⟩) hk _).other (p := ⟨k, 3, none⟩) hk _
/-- A result that is stored into a block of its own. -/
theorem store4 {w w1 : World} {r : QV} {x : Rat} {t : TypeId} (hX : X w w1) (hr : RatR w1 r x) :
    ∃ W, w1.alloc (.cells #[.bool r.s, .slice r.A r.n r.c, .bool r.t, .slice r.B r.m r.d] t) = W ∧ X w1 W ∧ X w W ∧ Blk W w1.heap.size t (qvc r) ∧ RatR W r x := by
  have hXa := (X.refl w1).alloc (.cells #[.bool r.s, .slice r.A r.n r.c, .bool r.t, .slice r.B r.m r.d] t)
  exact ⟨_, rfl, hXa, hX.trans hXa, Blk.new w1 _ t, hr.x hXa⟩

set_option maxRecDepth 100000 in
set_option maxHeartbeats 4000000 in
theorem over_fn (w : World) (g : Nat) (a b : QV) (x z : Rat) (hg : CellQ w g z) (ha : RatR w a x) (k l : Nat) (hx : RSz x k) (hy : RSz z l) (hkl : k + l ≤ 549755813888) (hz0 : z ≠ 0) :
    Calls Tryz.prog 70 #[a.v, b.v, .pointer (some ⟨g, 0, none⟩)] w (Ret w fun w' v => ∃ r : QV, v = r.v ∧ RatR w' r (x / z)) := by
  obtain ⟨c, d0, d1, d2, d3, hc⟩ := hg
  have hgl := World.block_lt_of_cell? _ _ d0
  have HA := Hid.mk ha
  have HC := Hid.mk hc
  clear ha hc
  go_enter Tryz.func70, Tryz.ntmps70
  go_upto_region 1 with (fail)
  obtain ⟨W, hW, hX, b0, b1, b2⟩ := setup3 w #[.bool a.s, .slice a.A a.n a.c, .bool a.t, .slice a.B a.m a.d] #[.bool b.s, .slice b.A b.n b.c, .bool b.t, .slice b.B b.m b.d] #[.bool false, .slice none 0 0, .bool false, .slice none 0 0] 51 51 51
  rw [hW]
  clear hW
  have e0 := hX.cell d0
  have e1 := hX.cell d1
  have e2 := hX.cell d2
  have e3 := hX.cell d3
  have c0 := b0.cell (j := 0) rfl
  have c1 := b0.cell (j := 1) rfl
  have c2 := b0.cell (j := 2) rfl
  have c3 := b0.cell (j := 3) rfl
  go_wp2_with fail
  refine (rat_div _ a c x z (HA.out.x hX) (HC.out.x hX) k l hx hy hkl).mono ?_
  rintro e w1 ⟨⟨v, rfl, r, rfl, hr⟩, hx1⟩
  rw [if_neg hz0] at hr ⊢
  replace b2 := b2.x hx1
  replace hX := hX.trans hx1
  clear b0 b1 c0 c1 c2 c3 e0 e1 e2 e3 d0 d1 d2 d3 hx1
  have hg3 : w.heap.size + 1 + 1 < w1.heap.size := b2.lt
  go_upto_region 2 with (fail)
  obtain ⟨W3, hW3, hX13, hX3, p3, hr3⟩ := store4 (t := 51) hX hr
  have p2 := b2.x hX13
  rw [hW3]
  clear hW3 b2 hX hr
  have c0 := p3.cell (j := 0) rfl; have c1 := p3.cell (j := 1) rfl; have c2 := p3.cell (j := 2) rfl; have c3 := p3.cell (j := 3) rfl
  have k0 := p2.cell (j := 0) rfl; have k1 := p2.cell (j := 1) rfl; have k2 := p2.cell (j := 2) rfl; have k3 := p2.cell (j := 3) rfl; have f0 := p2.frozen 0; have f1 := p2.frozen 1; have f2 := p2.frozen 2; have f3 := p2.frozen 3
  have K := four_cells p2 (.bool r.s) (.slice r.A r.n r.c) (.bool r.t) (.slice r.B r.m r.d)
  have HR := Hid.mk (hr3.put4 p2 r)
  have HX := Hid.mk (hX3.put4 (g := w.heap.size + 1 + 1) (by omega) r)
  clear hr3 hX3 hX13 p2 p3
  go_wp2
  exact bodyPost_ret (v := r.v) (by simp [results, Tryz.results70, go_sem, K.1, K.2.1, K.2.2.1, K.2.2.2]) rfl ⟨⟨_, rfl, r, rfl, HR.out⟩, HX.out⟩

set_option maxRecDepth 100000 in
set_option maxHeartbeats 4000000 in
theorem less_fn (w : World) (g : Nat) (a b : QV) (x y z : Rat) (hg : CellQ w g z) (ha : RatR w a x) (hb : RatR w b y) (k l j : Nat) (hx : RSz x k) (hy : RSz y l) (hzs : RSz z j) (hkl : k + (j + l) + 1 ≤ 549755813888) :
    Calls Tryz.prog 72 #[a.v, b.v, .pointer (some ⟨g, 0, none⟩)] w (Ret w fun w' v => ∃ r : QV, v = r.v ∧ RatR w' r (x - z * y)) := by
  obtain ⟨c, d0, d1, d2, d3, hc⟩ := hg
  have hgl := World.block_lt_of_cell? _ _ d0
  have HA := Hid.mk ha
  have HB := Hid.mk hb
  have HC := Hid.mk hc
  have HSX := Hid.mk hx
  have HSM := Hid.mk (hzs.mul hy)
  have HSZ := Hid.mk hzs
  have HSY := Hid.mk hy
  clear ha hb hc hx hy hzs
  go_enter Tryz.func72, Tryz.ntmps72
  go_upto_region 1 with (fail)
  obtain ⟨W, hW, hX, b0, b1, b2⟩ := setup3 w #[.bool a.s, .slice a.A a.n a.c, .bool a.t, .slice a.B a.m a.d] #[.bool b.s, .slice b.A b.n b.c, .bool b.t, .slice b.B b.m b.d] #[.bool false, .slice none 0 0, .bool false, .slice none 0 0] 51 51 51
  rw [hW]
  clear hW
  have HCC := Hid.mk (fun w' (h : X W w') => (⟨(b0.x h).cell (j := 0) rfl, (b0.x h).cell (j := 1) rfl, (b0.x h).cell (j := 2) rfl, (b0.x h).cell (j := 3) rfl, (b1.x h).cell (j := 0) rfl, (b1.x h).cell (j := 1) rfl, (b1.x h).cell (j := 2) rfl, (b1.x h).cell (j := 3) rfl, h.cell (hX.cell d0), h.cell (hX.cell d1), h.cell (hX.cell d2), h.cell (hX.cell d3)⟩ : w'.cell? ⟨w.heap.size, 0, none⟩ = some (.bool a.s) ∧ w'.cell? ⟨w.heap.size, 1, none⟩ = some (.slice a.A a.n a.c) ∧ w'.cell? ⟨w.heap.size, 2, none⟩ = some (.bool a.t) ∧ w'.cell? ⟨w.heap.size, 3, none⟩ = some (.slice a.B a.m a.d) ∧ w'.cell? ⟨w.heap.size + 1, 0, none⟩ = some (.bool b.s) ∧ w'.cell? ⟨w.heap.size + 1, 1, none⟩ = some (.slice b.A b.n b.c) ∧ w'.cell? ⟨w.heap.size + 1, 2, none⟩ = some (.bool b.t) ∧ w'.cell? ⟨w.heap.size + 1, 3, none⟩ = some (.slice b.B b.m b.d) ∧ w'.cell? ⟨g, 0, none⟩ = some (.bool c.s) ∧ w'.cell? ⟨g, 1, none⟩ = some (.slice c.A c.n c.c) ∧ w'.cell? ⟨g, 2, none⟩ = some (.bool c.t) ∧ w'.cell? ⟨g, 3, none⟩ = some (.slice c.B c.m c.d)))
  have hS := HCC.out W (X.refl W)
  obtain ⟨s, hs⟩ : ∃ s, Int.sign y.num = s := ⟨_, rfl⟩
  go_wp2_with fail
  refine (rat_sign_at _ b y s (HB.out.x hX) hs).mono ?_
  rintro e W1 ⟨⟨v, rfl, rfl⟩, hy1⟩
  clear d0 d1 d2 d3
  by_cases hy0 : y = 0
  · obtain rfl : s = 0 := by rw [← hs, hy0]; rfl
    have hS1 := HCC.out W1 hy1
    have p2 := b2.x hy1
    have k0 := p2.cell (j := 0) rfl; have k1 := p2.cell (j := 1) rfl; have k2 := p2.cell (j := 2) rfl; have k3 := p2.cell (j := 3) rfl; have f0 := p2.frozen 0; have f1 := p2.frozen 1; have f2 := p2.frozen 2; have f3 := p2.frozen 3
    have K := four_cells p2 (.bool a.s) (.slice a.A a.n a.c) (.bool a.t) (.slice a.B a.m a.d)
    have HR : Hid (RatR (Go.Proofs.YtdgeodnfacnnmaaGreatDoor.put4 W1 (w.heap.size + 1 + 1) a) a (x - z * y)) := by
      have e : x - z * y = x := by rw [hy0, Rat.mul_zero, Rat.sub_eq_add_neg, Rat.neg_zero, Rat.add_zero]
      rw [e]
      exact (HA.out.x (hX.trans hy1)).put4 p2 a
    have HX := Hid.mk ((hX.trans hy1).put4 (g := w.heap.size + 1 + 1) (by omega) a)
    clear b0 b1 b2 p2 hX HCC hy1 hs
    go_wp2
    exact bodyPost_ret (v := a.v) (by simp [results, Tryz.results72, go_sem, K.1, K.2.1, K.2.2.1, K.2.2.2]) rfl ⟨⟨_, rfl, a, rfl, HR.out⟩, HX.out⟩
  · have hsn : ¬ s = 0 := by
      rw [← hs, Int.sign_eq_zero_iff_zero]; exact fun h => hy0 (rat_num_zero.1 h)
    replace b2 := b2.x hy1
    have HCD := Hid.mk (fun w' (h : X W1 w') => HCC.out w' (hy1.trans h))
    have hX1 := hX.trans hy1
    clear b0 b1 hX hs hS
    have n1 : ¬ w.heap.size + 1 + 1 = w.heap.size := by omega
    have n2 : ¬ w.heap.size + 1 + 1 = w.heap.size + 1 := by omega
    have n3 : ¬ w.heap.size + 1 + 1 = g := by omega
    clear hy1 HCC
    go_wp2_with fail
    have hz0 : X W1 W1.drew := ⟨rfl, rfl, rfl, Nat.le_refl _, fun _ _ => rfl⟩
    have hS0 := HCD.out W1 (X.refl _)
    go_region_held3 (fun w' => w'.cell? ⟨w.heap.size, 0, none⟩ = some (.bool a.s) ∧ w'.cell? ⟨w.heap.size, 1, none⟩ = some (.slice a.A a.n a.c) ∧ w'.cell? ⟨w.heap.size, 2, none⟩ = some (.bool a.t) ∧ w'.cell? ⟨w.heap.size, 3, none⟩ = some (.slice a.B a.m a.d) ∧ w'.cell? ⟨w.heap.size + 1, 0, none⟩ = some (.bool b.s) ∧ w'.cell? ⟨w.heap.size + 1, 1, none⟩ = some (.slice b.A b.n b.c) ∧ w'.cell? ⟨w.heap.size + 1, 2, none⟩ = some (.bool b.t) ∧ w'.cell? ⟨w.heap.size + 1, 3, none⟩ = some (.slice b.B b.m b.d) ∧ w'.cell? ⟨g, 0, none⟩ = some (.bool c.s) ∧ w'.cell? ⟨g, 1, none⟩ = some (.slice c.A c.n c.c) ∧ w'.cell? ⟨g, 2, none⟩ = some (.bool c.t) ∧ w'.cell? ⟨g, 3, none⟩ = some (.slice c.B c.m c.d))
      (go_keep)
      (first
        | (have hguard := hz1; go_at_call 73; refine (rat_sub _ a r1 x (z * y) (by exact HA.out.x (hX1.trans hz1)) hr1 k (j + l) HSX.out HSM.out (by omega)).mono ?_; rintro e w2 ⟨⟨v2, rfl, r2, rfl, hr2⟩, hx2⟩; have hz2 : X W1 w2 := hz1.trans hx2; have hr1 := hr1.x hx2; have hS2 := HCD.out w2 hz2; have p2 := b2.x hz2; have k0 := p2.cell (j := 0) rfl; have k1 := p2.cell (j := 1) rfl; have k2 := p2.cell (j := 2) rfl; have k3 := p2.cell (j := 3) rfl; have f0 := p2.frozen 0; have f1 := p2.frozen 1; have f2 := p2.frozen 2; have f3 := p2.frozen 3)
        | (have hguard := hz0; go_at_call 45; refine (rat_mul _ c b z y (by exact HC.out.x (hX1.trans hz0)) (by exact HB.out.x (hX1.trans hz0)) j l HSZ.out HSY.out (by omega)).mono ?_; rintro e w1 ⟨⟨v1, rfl, r1, rfl, hr1⟩, hx1⟩; have hz1 : X W1 w1 := hz0.trans hx1; have hS1 := HCD.out w1 hz1))
    have K := four_cells p2 (.bool r2.s) (.slice r2.A r2.n r2.c) (.bool r2.t) (.slice r2.B r2.m r2.d)
    have HR := Hid.mk (hr2.put4 p2 r2)
    have HX := Hid.mk ((hX1.trans hz2).put4 (g := w.heap.size + 1 + 1) (by omega) r2)
    clear b2 hX1 HCD p2 hr2 hz0 hz1 hz2
    go_wp2
    exact bodyPost_ret (v := r2.v) (by simp [results, Tryz.results72, go_sem, K.1, K.2.1, K.2.2.1, K.2.2.2]) rfl ⟨⟨_, rfl, r2, rfl, HR.out⟩, HX.out⟩
end Go.Proofs.YtdgeodnfacnnmaaGreatDoor

/- Package matrix, fourth part: each, over, less. -/
set_option linter.unusedVariables false
set_option linter.unusedSimpArgs false
namespace Go.Proofs.YtdgeodnfacnnmaaGreatDoor
open Go.RowKit
open DDig

theorem madeCells_at (zc : Array Value) (n k : Nat) (hk : k < n) (hz : 0 < zc.size) : (madeCells zc n).toList[k]? = zc[k % zc.size]? := by
  have hm := Nat.mod_lt k hz
  rw [Array.getElem?_toList, Array.getElem?_eq_getElem (by simpa [madeCells] using hk), Array.getElem?_eq_getElem hm]
  simp [madeCells, hm]
theorem madeCells_get (zc : Array Value) (n j i : Nat) (hj : j < n) (hi : i < zc.size) : (madeCells zc (n * zc.size)).toList[j * zc.size + i]? = zc[i]? := by
  have h1 : j * zc.size + i < n * zc.size := by
    have : (j + 1) * zc.size ≤ n * zc.size := Nat.mul_le_mul_right _ (by omega)
    rw [Nat.succ_mul] at this
    omega
  have h2 : (j * zc.size + i) % zc.size = i := by
    rw [Nat.add_comm, Nat.add_mul_mod_self_right, Nat.mod_eq_of_lt hi]
  rw [madeCells_at _ _ _ h1 (by omega), h2]
theorem madeCells_len (zc : Array Value) (n : Nat) : (madeCells zc n).toList.length = n := by simp [madeCells]

/-- 'make([]T, n)'. -/
theorem make_blkz {P : Program} (w : World) {ops : Array Oper} {rest : List Oper} {o : Oper} {a : Act} {Q : Exit → Act → World → Prop}
    (hg : o.guard = none) (l c : Operand) (t : TypeId) (hop : o.op = Op.makeSlice t l c)
    (e : TypeId) (z : Value) (size bytes : Nat) (h1 : P.underlying t = some (.slice e)) (h2 : (P.info? e).map (fun i => (i.zero, i.size, i.bytes)) = some (some z, size, bytes)) (hz : z.cells.size = size)
    (kl kc : IntKind) (L C : Int) (n : Nat) (hl : a.eval l = .int kl L) (hc : a.eval c = .int kc C) (hL : L = (n : Int)) (hC : C = (n : Int)) (b2 : bytes * n ≤ 281474976710656) (b3 : n ≤ 9223372036854775807)
    (hK : ∀ w' cs, Blk w' w.heap.size e cs → cs.length = n * size → (∀ j i, j < n → i < size → cs[j * size + i]? = z.cells[i]?) → (∀ v ∈ cs, v ∈ z.cells.toList) → X w w' → wpList P ops Q rest (a.put o.dst (.slice (some ⟨w.heap.size, 0, none⟩) n n)) w') :
    wpList P ops Q (o :: rest) a w := by
  refine wpList_plain hg fun K hK' => ?_
  obtain ⟨i, hi, e1, e2, e3⟩ := info_parts h2
  subst hL
  subst hC
  have hb : ((bytes * n : Nat) : Int) ≤ 281474976710656 := by omega
  rw [Int.natCast_mul] at hb
  have hrun := run_make (P := P) w t e i z h1 hi e1 kl kc (n : Int) (n : Int) (by omega) (Int.le_refl _) (by rw [e3]; exact hb) (by omega)
  simp only [Int.toNat_natCast] at hrun
  unfold Oper.wp
  simp [execOp, hop, hl, hc, hrun, Result.andThen]
  rw [e2, ← hz]
  have hzp : ∀ k, k < n * z.cells.size → 0 < z.cells.size := fun k hk => by
    apply Nat.pos_of_ne_zero
    intro h
    rw [h] at hk
    omega
  refine hK' _ _ (hK _ (madeCells z.cells (n * z.cells.size)).toList ?_ ?_ ?_ ?_ ((X.refl w).alloc _))
  · show (w.heap.push _)[w.heap.size]? = _
    simp
  · rw [madeCells_len, hz]
  · intro j i hj hi
    rw [← hz] at hi ⊢
    exact madeCells_get _ n j i hj hi
  · intro v hv
    obtain ⟨k, hk, rfl⟩ := List.getElem_of_mem hv
    have hk' := hk
    rw [madeCells_len] at hk'
    have h0 := hzp k hk'
    have h3 := madeCells_at z.cells _ k hk' h0
    rw [List.getElem?_eq_getElem hk, Array.getElem?_eq_getElem (Nat.mod_lt k h0)] at h3
    injection h3 with h3
    rw [h3]
    simp

/-- A row of the call's own that is being filled: its cells. -/
def Fil (w : World) (g : Nat) (n k : Nat) (f : Nat → Rat) : Prop :=
  ∃ cs : List Value, Blk w g 51 cs ∧ cs.length = n * 4 ∧ NoInt cs ∧ ∀ j, j < k → ∃ a : QV, cs[j * 4]? = some (.bool a.s) ∧ cs[j * 4 + 1]? = some (.slice a.A a.n a.c) ∧ cs[j * 4 + 2]? = some (.bool a.t) ∧ cs[j * 4 + 3]? = some (.slice a.B a.m a.d) ∧ RatR w a (f j)
theorem Fil.x {w w' : World} {g n k : Nat} {f : Nat → Rat} (h : Fil w g n k f) (hx : X w w') : Fil w' g n k f := by
  obtain ⟨cs, h1, h2, h3, h4⟩ := h
  refine ⟨cs, h1.x hx, h2, h3, fun j hj => ?_⟩
  obtain ⟨a, g0, g1, g2, g3, g4⟩ := h4 j hj
  exact ⟨a, g0, g1, g2, g3, g4.x hx⟩
theorem Fil.row {w : World} {g n : Nat} {f : Nat → Rat} (h : Fil w g n n f) : RowQ w (some ⟨g, 0, none⟩) n f := fun h0 => by
  obtain ⟨cs, h1, h2, h3, h4⟩ := h
  refine ⟨g, 0, rfl, fun j hj => ?_⟩
  obtain ⟨a, g0, g1, g2, g3, g4⟩ := h4 j hj
  simp only [Nat.zero_add]
  exact ⟨a, h1.cell g0, h1.cell g1, h1.cell g2, h1.cell g3, g4⟩
/-- The four stores at a place of a row. -/
abbrev put4at (w : World) (g o : Nat) (r : QV) : World := (((w.setCell ⟨g, o, none⟩ (.bool r.s)).setCell ⟨g, o + 1, none⟩ (.slice r.A r.n r.c)).setCell ⟨g, o + 2, none⟩ (.bool r.t)).setCell ⟨g, o + 3, none⟩ (.slice r.B r.m r.d)
theorem Fil.put {w : World} {g n k : Nat} {f : Nat → Rat} (h : Fil w g n k f) (hk : k < n) {r : QV} (hr : RatR w r (f k)) : Fil (put4at w g (k * 4) r) g n (k + 1) f := by
  obtain ⟨cs, h1, h2, h3, h4⟩ := h
  have q1 := h1.set (k * 4) (.bool r.s)
  have q2 := q1.set (k * 4 + 1) (.slice r.A r.n r.c)
  have q3 := q2.set (k * 4 + 2) (.bool r.t)
  have q4 := q3.set (k * 4 + 3) (.slice r.B r.m r.d)
  have n1 := h3.set (k * 4) (v := .bool r.s) (by simp)
  have n2 := n1.set (k * 4 + 1) (v := .slice r.A r.n r.c) (by simp)
  have n3 := n2.set (k * 4 + 2) (v := .bool r.t) (by simp)
  have n4 := n3.set (k * 4 + 3) (v := .slice r.B r.m r.d) (by simp)
  have rr : ∀ {a : QV} {x : Rat}, RatR w a x → RatR (put4at w g (k * 4) r) a x := fun h => (((h.put h1 h3 _ _).put q1 n1 _ _).put q2 n2 _ _).put q3 n3 _ _
  refine ⟨_, q4, by simpa using h2, n4, fun j hj => ?_⟩
  by_cases e : j = k
  · subst e
    refine ⟨r, ?_, ?_, ?_, ?_, rr hr⟩
    · rw [List.getElem?_set_ne (by omega), List.getElem?_set_ne (by omega), List.getElem?_set_ne (by omega), List.getElem?_set_self (by omega)]
    · rw [List.getElem?_set_ne (by omega), List.getElem?_set_ne (by omega), List.getElem?_set_self (by simp; omega)]
    · rw [List.getElem?_set_ne (by omega), List.getElem?_set_self (by simp; omega)]
    · rw [List.getElem?_set_self (by simp; omega)]
  · obtain ⟨a, g0, g1, g2, g3, g4⟩ := h4 j (by omega)
    refine ⟨a, ?_, ?_, ?_, ?_, rr g4⟩
    · rw [List.getElem?_set_ne (by omega), List.getElem?_set_ne (by omega), List.getElem?_set_ne (by omega), List.getElem?_set_ne (by omega)]; exact g0
    · rw [List.getElem?_set_ne (by omega), List.getElem?_set_ne (by omega), List.getElem?_set_ne (by omega), List.getElem?_set_ne (by omega)]; exact g1
    · rw [List.getElem?_set_ne (by omega), List.getElem?_set_ne (by omega), List.getElem?_set_ne (by omega), List.getElem?_set_ne (by omega)]; exact g2
    · rw [List.getElem?_set_ne (by omega), List.getElem?_set_ne (by omega), List.getElem?_set_ne (by omega), List.getElem?_set_ne (by omega)]; exact g3
theorem Fil.cells {w : World} {g n k : Nat} {f : Nat → Rat} (h : Fil w g n k f) {j : Nat} (hj : j < n) :
    ∃ v0 v1 v2 v3, w.cell? ⟨g, j * 4, none⟩ = some v0 ∧ w.cell? ⟨g, j * 4 + 1, none⟩ = some v1 ∧ w.cell? ⟨g, j * 4 + 2, none⟩ = some v2 ∧ w.cell? ⟨g, j * 4 + 3, none⟩ = some v3 ∧ w.frozen? ⟨g, j * 4, none⟩ = false ∧ w.frozen? ⟨g, j * 4 + 1, none⟩ = false ∧ w.frozen? ⟨g, j * 4 + 2, none⟩ = false ∧ w.frozen? ⟨g, j * 4 + 3, none⟩ = false := by
  obtain ⟨cs, h1, h2, h3, h4⟩ := h
  exact ⟨_, _, _, _, h1.cell (List.getElem?_eq_getElem (by omega)), h1.cell (List.getElem?_eq_getElem (by omega)), h1.cell (List.getElem?_eq_getElem (by omega)), h1.cell (List.getElem?_eq_getElem (by omega)), h1.frozen _, h1.frozen _, h1.frozen _, h1.frozen _⟩
theorem X.put4at {w w' : World} (h : X w w') {g : Nat} (hg : w.heap.size ≤ g) (o : Nat) (r : QV) : X w (Go.Proofs.YtdgeodnfacnnmaaGreatDoor.put4at w' g o r) :=
  (((h.set (p := ⟨g, o, none⟩) hg _).set (p := ⟨g, o + 1, none⟩) hg _).set (p := ⟨g, o + 2, none⟩) hg _).set (p := ⟨g, o + 3, none⟩) hg _
theorem Fil.start {w : World} {g n : Nat} {cs : List Value} (f : Nat → Rat) (h : Blk w g 51 cs) (hl : cs.length = n * 4) (hz : ∀ v ∈ cs, v ∈ (Value.agg #[.bool false, .slice none 0 0, .bool false, .slice none 0 0]).cells.toList) : Fil w g n 0 f := by
  refine ⟨cs, h, hl, fun v hv k x => ?_, fun j hj => by omega⟩
  have : v = .bool false ∨ v = .slice none 0 0 ∨ v = .bool false ∨ v = .slice none 0 0 := by
    have h1 := hz v hv
    have h2 : (Value.agg #[.bool false, .slice none 0 0, .bool false, .slice none 0 0]).cells.toList = [.bool false, .slice none 0 0, .bool false, .slice none 0 0] := by rfl
    rw [h2] at h1
    simpa using h1
  rcases this with rfl | rfl | rfl | rfl <;> simp
end Go.Proofs.YtdgeodnfacnnmaaGreatDoor

/- Package matrix, fifth part: each by the closure of over; over. -/
set_option linter.unusedVariables false
set_option linter.unusedSimpArgs false
namespace Go.Proofs.YtdgeodnfacnnmaaGreatDoor
open Go.RowKit
open DDig

set_option maxRecDepth 100000 in
set_option maxHeartbeats 4000000 in
theorem each_over (w : World) (v : Value) (n : Nat) (f : Nat → Rat) (g : Nat) (z : Rat) (h : SlQ w v n f) (hg : CellQ w g z) (hn : n ≤ 1000000) (hz : z ≠ 0) (k l : Nat) (hs : ∀ j, j < n → RSz (f j) k) (hzs : RSz z l) (hkl : k + l ≤ 549755813888) :
    Calls Tryz.prog 69 #[v, v, .func (.func 70) #[] #[.pointer (some ⟨g, 0, none⟩)]] w (Ret w fun w' v' => SlQ w' v' n (fun j => f j / z) ∧ Fresh w.heap.size v') := by
  obtain ⟨A, c, rfl, h1, h2, h3⟩ := h
  have HA := Hid.mk h3
  have HG := Hid.mk hg
  have HS := Hid.mk hs
  clear h1 h2 h3 hg hs
  go_enter Tryz.func69, Tryz.ntmps69
  go_wp2_with (at_make; refine make_blkz _ rfl _ _ 64 rfl 51 (.agg #[.bool false, .slice none 0 0, .bool false, .slice none 0 0]) 4 64 Tryz.underlying64 info_Q rfl .i64 .i64 _ _ n rfl rfl rfl rfl (by omega) (by omega) ?_; intro w1 cs hb1 hb2 hb3 hb4 hx1; have HF := Hid.mk (Fil.start (fun j => f j / z) hb1 hb2 hb4); have HX := Hid.mk hx1; clear hb1 hb2 hb3 hb4 hx1)
  obtain ⟨go, hgo⟩ : ∃ go, go = w.heap.size := ⟨_, rfl⟩
  rw [← hgo] at HF ⊢
  have HGO : Hid (w.heap.size ≤ go) := Nat.le_of_eq hgo.symm
  clear hgo
  go_loopw [8, 14] (fun t8 t14 wr => ∃ k : Nat, k ≤ n ∧ t14 = .int .i64 k ∧ Fil wr go n k (fun j => f j / z) ∧ X w wr) (fun _ t _ => n - (intOf t).toNat)
  case atStart => exact ⟨0, Nat.zero_le _, rfl, HF.out, HX.out⟩
  case round =>
    obtain ⟨i, hi, rfl, hf, hx⟩ := hrel
    replace HF := Hid.mk hf
    replace HX := Hid.mk hx
    clear hf hx
    by_cases hin : i < n
    · have hin' : (i : Int) < (n : Int) := by omega
      obtain ⟨b, o, rfl, gg⟩ := HA.out (by omega)
      obtain ⟨a, c0, c1, c2, c3, ha⟩ := gg i hin
      have HR := Hid.mk ha
      have hsz := HS.out i hin
      obtain ⟨x, hxx⟩ : ∃ x, x = f i := ⟨_, rfl⟩
      rw [← hxx] at HR hsz
      have HXX := Hid.mk hxx
      have HC := Hid.mk (fun w' (h : X w w') => (⟨h.cell c0, h.cell c1, h.cell c2, h.cell c3⟩ : w'.cell? ⟨b, o + i * 4, none⟩ = some (.bool a.s) ∧ w'.cell? ⟨b, o + i * 4 + 1, none⟩ = some (.slice a.A a.n a.c) ∧ w'.cell? ⟨b, o + i * 4 + 2, none⟩ = some (.bool a.t) ∧ w'.cell? ⟨b, o + i * 4 + 3, none⟩ = some (.slice a.B a.m a.d)))
      have HCR := Hid.mk (fun w' (h : X wr w') => HC.out w' (HX.out.trans h))
      have hne : ¬ go = b := by
        have : b < w.heap.size := World.block_lt_of_cell? _ _ c0
        have := HGO.out
        omega
      clear gg ha hxx c0 c1 c2 c3 HC
      go_wp2_with fail
      have hz0 : X wr wr.drew := ⟨rfl, rfl, rfl, Nat.le_refl _, fun _ _ => rfl⟩
      have hS0 := HCR.out wr (X.refl _)
      go_region_held3 (fun w' => w'.cell? ⟨b, o + i * 4, none⟩ = some (.bool a.s) ∧ w'.cell? ⟨b, o + i * 4 + 1, none⟩ = some (.slice a.A a.n a.c) ∧ w'.cell? ⟨b, o + i * 4 + 2, none⟩ = some (.bool a.t) ∧ w'.cell? ⟨b, o + i * 4 + 3, none⟩ = some (.slice a.B a.m a.d))
        (go_keep)
        (first
          | (have hguard := hz0; go_at_call 70; refine (over_fn _ g a a x z (by exact HG.out.x (HX.out.trans hz0)) (by exact HR.out.x (HX.out.trans hz0)) k l hsz hzs hkl hz).mono ?_; rintro e w1 ⟨⟨v1, rfl, r1, rfl, hr1⟩, hx1⟩; have hz1 : X wr w1 := hz0.trans hx1; have hS1 := HCR.out w1 hz1; have F1 := HF.out.x hz1; obtain ⟨v0, v1, v2, v3, k0, k1, k2, k3, f0, f1, f2, f3⟩ := F1.cells hin))
      have F2 := Hid.mk (F1.put hin (r := r1) (by show RatR w1 r1 (f i / z); rw [← HXX.out]; exact hr1))
      have HX2 := Hid.mk ((HX.out.trans hz1).put4at HGO.out (i * 4) r1)
      clear F1 k0 k1 k2 k3 f0 f1 f2 f3 hz0 hz1 hx1 hS0 hS1 hr1 HCR
      go_wp2
      go_roundw
      case rel => exact ⟨i + 1, by omega, by go_num, F2.out, HX2.out⟩
      case measure => simp [intOf]; omega
    · obtain rfl : i = n := by omega
      have HRow := Hid.mk HF.out.row
      go_wp2
      go_ret
      exact ⟨⟨_, rfl, ⟨some ⟨go, 0, none⟩, i, rfl, Nat.le_refl _, by simp, HRow.out⟩, fun ad n c e => by injection e with e; injection e with e; subst e; exact HGO.out⟩, HX.out⟩
set_option maxRecDepth 100000 in
set_option maxHeartbeats 4000000 in
theorem each_less (w : World) (v u : Value) (n : Nat) (f e : Nat → Rat) (g : Nat) (z : Rat) (h : SlQ w v n f) (h' : SlQ w u n e) (hg : CellQ w g z) (hn : n ≤ 1000000) (k l j : Nat) (hs : ∀ i, i < n → RSz (f i) k) (hs' : ∀ i, i < n → RSz (e i) l) (hzs : RSz z j) (hkl : k + (j + l) + 1 ≤ 549755813888) :
    Calls Tryz.prog 69 #[v, u, .func (.func 72) #[] #[.pointer (some ⟨g, 0, none⟩)]] w (Ret w fun w' v' => SlQ w' v' n (fun j => f j - z * e j) ∧ Fresh w.heap.size v') := by
  obtain ⟨A, c, rfl, h1, h2, h3⟩ := h
  obtain ⟨B, d, rfl, h1', h2', h3'⟩ := h'
  have HA := Hid.mk h3
  have HB := Hid.mk h3'
  have HS' := Hid.mk hs'
  have HG := Hid.mk hg
  have HS := Hid.mk hs
  clear h1 h2 h3 hg hs h1' h2' h3' hs'
  go_enter Tryz.func69, Tryz.ntmps69
  go_wp2_with (at_make; refine make_blkz _ rfl _ _ 64 rfl 51 (.agg #[.bool false, .slice none 0 0, .bool false, .slice none 0 0]) 4 64 Tryz.underlying64 info_Q rfl .i64 .i64 _ _ n rfl rfl rfl rfl (by omega) (by omega) ?_; intro w1 cs hb1 hb2 hb3 hb4 hx1; have HF := Hid.mk (Fil.start (fun j => f j - z * e j) hb1 hb2 hb4); have HX := Hid.mk hx1; clear hb1 hb2 hb3 hb4 hx1)
  obtain ⟨go, hgo⟩ : ∃ go, go = w.heap.size := ⟨_, rfl⟩
  rw [← hgo] at HF ⊢
  have HGO : Hid (w.heap.size ≤ go) := Nat.le_of_eq hgo.symm
  clear hgo
  go_loopw [8, 14] (fun t8 t14 wr => ∃ k : Nat, k ≤ n ∧ t14 = .int .i64 k ∧ Fil wr go n k (fun j => f j - z * e j) ∧ X w wr) (fun _ t _ => n - (intOf t).toNat)
  case atStart => exact ⟨0, Nat.zero_le _, rfl, HF.out, HX.out⟩
  case round =>
    obtain ⟨i, hi, rfl, hf, hx⟩ := hrel
    replace HF := Hid.mk hf
    replace HX := Hid.mk hx
    clear hf hx
    by_cases hin : i < n
    · have hin' : (i : Int) < (n : Int) := by omega
      obtain ⟨b, o, rfl, gg⟩ := HA.out (by omega)
      obtain ⟨a, c0, c1, c2, c3, ha⟩ := gg i hin
      obtain ⟨b', o', rfl, gg'⟩ := HB.out (by omega)
      obtain ⟨a', c0', c1', c2', c3', ha'⟩ := gg' i hin
      have HR' := Hid.mk ha'
      have hsz' := HS'.out i hin
      obtain ⟨y, hyy⟩ : ∃ y, y = e i := ⟨_, rfl⟩
      rw [← hyy] at HR' hsz'
      have HYY := Hid.mk hyy
      have HR := Hid.mk ha
      have hsz := HS.out i hin
      obtain ⟨x, hxx⟩ : ∃ x, x = f i := ⟨_, rfl⟩
      rw [← hxx] at HR hsz
      have HXX := Hid.mk hxx
      have HC := Hid.mk (fun w' (h : X w w') => (⟨h.cell c0, h.cell c1, h.cell c2, h.cell c3, h.cell c0', h.cell c1', h.cell c2', h.cell c3'⟩ : w'.cell? ⟨b, o + i * 4, none⟩ = some (.bool a.s) ∧ w'.cell? ⟨b, o + i * 4 + 1, none⟩ = some (.slice a.A a.n a.c) ∧ w'.cell? ⟨b, o + i * 4 + 2, none⟩ = some (.bool a.t) ∧ w'.cell? ⟨b, o + i * 4 + 3, none⟩ = some (.slice a.B a.m a.d) ∧ w'.cell? ⟨b', o' + i * 4, none⟩ = some (.bool a'.s) ∧ w'.cell? ⟨b', o' + i * 4 + 1, none⟩ = some (.slice a'.A a'.n a'.c) ∧ w'.cell? ⟨b', o' + i * 4 + 2, none⟩ = some (.bool a'.t) ∧ w'.cell? ⟨b', o' + i * 4 + 3, none⟩ = some (.slice a'.B a'.m a'.d)))
      have HCR := Hid.mk (fun w' (h : X wr w') => HC.out w' (HX.out.trans h))
      have hne : ¬ go = b := by
        have : b < w.heap.size := World.block_lt_of_cell? _ _ c0
        have := HGO.out
        omega
      have hne' : ¬ go = b' := by
        have : b' < w.heap.size := World.block_lt_of_cell? _ _ c0'
        have := HGO.out
        omega
      clear gg ha hxx c0 c1 c2 c3 HC gg' ha' hyy c0' c1' c2' c3'
      go_wp2_with fail
      have hz0 : X wr wr.drew := ⟨rfl, rfl, rfl, Nat.le_refl _, fun _ _ => rfl⟩
      have hS0 := HCR.out wr (X.refl _)
      go_region_held3 (fun w' => w'.cell? ⟨b, o + i * 4, none⟩ = some (.bool a.s) ∧ w'.cell? ⟨b, o + i * 4 + 1, none⟩ = some (.slice a.A a.n a.c) ∧ w'.cell? ⟨b, o + i * 4 + 2, none⟩ = some (.bool a.t) ∧ w'.cell? ⟨b, o + i * 4 + 3, none⟩ = some (.slice a.B a.m a.d) ∧ w'.cell? ⟨b', o' + i * 4, none⟩ = some (.bool a'.s) ∧ w'.cell? ⟨b', o' + i * 4 + 1, none⟩ = some (.slice a'.A a'.n a'.c) ∧ w'.cell? ⟨b', o' + i * 4 + 2, none⟩ = some (.bool a'.t) ∧ w'.cell? ⟨b', o' + i * 4 + 3, none⟩ = some (.slice a'.B a'.m a'.d))
        (go_keep)
        (first
          | (have hguard := hz0; go_at_call 72; refine (less_fn _ g a a' x y z (by exact HG.out.x (HX.out.trans hz0)) (by exact HR.out.x (HX.out.trans hz0)) (by exact HR'.out.x (HX.out.trans hz0)) k l j hsz hsz' hzs hkl).mono ?_; rintro e w1 ⟨⟨v1, rfl, r1, rfl, hr1⟩, hx1⟩; have hz1 : X wr w1 := hz0.trans hx1; have hS1 := HCR.out w1 hz1; have F1 := HF.out.x hz1; obtain ⟨v0, v1, v2, v3, k0, k1, k2, k3, f0, f1, f2, f3⟩ := F1.cells hin))
      have F2 := Hid.mk (F1.put hin (r := r1) (by show RatR w1 r1 (f i - z * e i); rw [← HXX.out, ← HYY.out]; exact hr1))
      have HX2 := Hid.mk ((HX.out.trans hz1).put4at HGO.out (i * 4) r1)
      clear F1 k0 k1 k2 k3 f0 f1 f2 f3 hz0 hz1 hx1 hS0 hS1 hr1 HCR
      go_wp2
      go_roundw
      case rel => exact ⟨i + 1, by omega, by go_num, F2.out, HX2.out⟩
      case measure => simp [intOf]; omega
    · obtain rfl : i = n := by omega
      have HRow := Hid.mk HF.out.row
      go_wp2
      go_ret
      exact ⟨⟨_, rfl, ⟨some ⟨go, 0, none⟩, i, rfl, Nat.le_refl _, by simp, HRow.out⟩, fun ad n c e => by injection e with e; injection e with e; subst e; exact HGO.out⟩, HX.out⟩

set_option maxRecDepth 100000 in
theorem mat_over (w : World) (v : Value) (n : Nat) (f : Nat → Rat) (a : QV) (z : Rat) (h : SlQ w v n f) (ha : RatR w a z) (hn : n ≤ 1000000) (hz : z ≠ 0) (k l : Nat) (hs : ∀ j, j < n → RSz (f j) k) (hzs : RSz z l) (hkl : k + l ≤ 549755813888) :
    Calls Tryz.prog 46 #[v, a.v] w (Ret w fun w' v' => SlQ w' v' n (fun j => f j / z) ∧ Fresh w.heap.size v') := by
  have H := Hid.mk h
  have HA := Hid.mk ha
  have HS := Hid.mk hs
  have HE := Hid.mk (fun w' (hw : X w w') (hg : CellQ w' w.heap.size z) => each_over w' v n f w.heap.size z (h.x hw) hg hn hz k l hs hzs hkl)
  clear h ha hs
  go_enter Tryz.func46, Tryz.ntmps46
  go_wp2_with fail
  obtain ⟨W, hW, hX, b0, hWs⟩ := setup1 w #[.bool a.s, .slice a.A a.n a.c, .bool a.t, .slice a.B a.m a.d] 51
  rw [hW]
  clear hW
  have hg : CellQ W w.heap.size z := Blk.cellQ (a := a) b0 (HA.out.x hX)
  refine (HE.out W hX hg).mono ?_
  rintro e w1 ⟨⟨v', rfl, hr, hf⟩, hx1⟩
  have HR := Hid.mk hr
  have HF : Hid (Fresh w.heap.size v') := fun ad n c e => Nat.le_trans (by omega) (hf ad n c e)
  have HX := Hid.mk (hX.trans hx1)
  clear hr hf hx1 hX b0 hg
  go_wp2
  go_ret
  exact ⟨⟨_, rfl, HR.out, HF.out⟩, HX.out⟩

set_option maxRecDepth 100000 in
theorem mat_less (w : World) (v u : Value) (n : Nat) (f e : Nat → Rat) (a : QV) (z : Rat) (h : SlQ w v n f) (h' : SlQ w u n e) (ha : RatR w a z) (hn : n ≤ 1000000) (k l j : Nat) (hs : ∀ i, i < n → RSz (f i) k) (hs' : ∀ i, i < n → RSz (e i) l) (hzs : RSz z j) (hkl : k + (j + l) + 1 ≤ 549755813888) :
    Calls Tryz.prog 47 #[v, u, a.v] w (Ret w fun w' v' => SlQ w' v' n (fun i => f i - z * e i) ∧ Fresh w.heap.size v') := by
  have HA := Hid.mk ha
  have HE := Hid.mk (fun w' (hw : X w w') (hg : CellQ w' w.heap.size z) => each_less w' v u n f e w.heap.size z (h.x hw) (h'.x hw) hg hn k l j hs hs' hzs hkl)
  clear h h' ha hs hs'
  go_enter Tryz.func47, Tryz.ntmps47
  go_wp2_with fail
  obtain ⟨W, hW, hX, b0, hWs⟩ := setup1 w #[.bool a.s, .slice a.A a.n a.c, .bool a.t, .slice a.B a.m a.d] 51
  rw [hW]
  clear hW
  have hg : CellQ W w.heap.size z := Blk.cellQ (a := a) b0 (HA.out.x hX)
  refine (HE.out W hX hg).mono ?_
  rintro e w1 ⟨⟨v', rfl, hr, hf⟩, hx1⟩
  have HR := Hid.mk hr
  have HF : Hid (Fresh w.heap.size v') := fun ad n c e => Nat.le_trans (by omega) (hf ad n c e)
  have HX := Hid.mk (hX.trans hx1)
  clear hr hf hx1 hX b0 hg
  go_wp2
  go_ret
  exact ⟨⟨_, rfl, HR.out, HF.out⟩, HX.out⟩
end Go.Proofs.YtdgeodnfacnnmaaGreatDoor
