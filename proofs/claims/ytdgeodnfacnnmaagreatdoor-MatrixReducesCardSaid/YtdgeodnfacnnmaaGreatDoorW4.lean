/- Lemmas for the proof, part 4: R4, T2, T3, G, P2, Sh3, N1, N2, N3, N4. -/
import Derived.Test.YtdgeodnfacnnmaaGreatDoorW3
import Derived.Laws.IdiomCopy
import Derived.WalkSmall
import Derived.FnData
import Derived.Shelf.Strings.Builder1
import Derived.Shelf.Strings.Builder2
import Derived.Shelf.Strings.OnBuilder
import Derived.Shelf.Strings.Trim
import Derived.Shelf.Small.Utf8
import Derived.Shelf.Small.Bits
import Derived.Shelf.Small.Strs
import Derived.Shelf.Small.Wraps
import Derived.Shelf.Strings.BuilderF
import Derived.Shelf.Strconv.Itoa0
import Derived.Shelf.Strconv.Itoa1
import Derived.Shelf.LaysM
import Derived.Shelf.Strconv.Itoa2
import Derived.Shelf.Strconv.Itoa3
import Derived.Ground.MpProg
import Derived.Shelf.Pu.ParseUintPublic10
import Derived.Shelf.Strings.Search1
import Derived.Shelf.Strings.Search2
import Derived.Shelf.Strings.Cut
import Derived.Shelf.Strings.Shaped
import Derived.Shelf.GgClosure.StringsIndexFunc
import Derived.Ground.GgwProg
import Derived.Shelf.GgClosure.StringsIndexFuncTop
import Derived.Shelf.Strings.Prefix
import Derived.Shelf.Strings.Runes
import Derived.Shelf.Strings.AsciiSet
import Derived.Shelf.Bits.Mul64
import Derived.Shelf.Strings.Repeat
import Derived.Shelf.Unicode.DecodeSlow
import Derived.Shelf.Unicode.DecodeAny
import Derived.Shelf.Unicode.DecodeLast
import Derived.Shelf.Strings.FuncGrows
import Derived.Shelf.Slices.Turned
import Derived.Ground.Names2Prog
import Derived.Shelf.Slices.ReverseS
import Derived.Shelf.Slices.Cells
import Derived.Test.YtdgeodnfacnnmaaGreatDoorProg
import Derived.Shelf.Strings.SlTrimAscii
import Derived.Laws.RangeString
/- Package rational, fourth part: Add, Sub, Div, Compare, Min, Max. -/
set_option linter.unusedVariables false
set_option linter.unusedSimpArgs false
namespace Go.Proofs.YtdgeodnfacnnmaaGreatDoor
open Go.RowKit
open DDig

theorem add_lt_pw {a b : Int} {n : Nat} (h : (a.natAbs : Int) < pw B32 n) (h' : (b.natAbs : Int) < pw B32 n) : ((a + b).natAbs : Int) < pw B32 (n + 1) := by
  rw [pw_succ]
  have : B32 * pw B32 n = 4294967296 * pw B32 n := rfl
  omega
theorem RSz.neg {x : Rat} {k : Nat} (h : RSz x k) : RSz (-x) k := by
  refine ⟨?_, h.2⟩
  rw [Rat.neg_num, Int.natAbs_neg]; exact h.1
theorem add_divInt (x y : Rat) : Rat.divInt (x.num * y.den + y.num * x.den) (x.den * y.den) = x + y := by
  rw [Rat.add_def', ← Rat.divInt_ofNat, Int.natCast_mul]

set_option maxRecDepth 100000 in
set_option maxHeartbeats 4000000 in
theorem rat_add (w : World) (a b : QV) (x y : Rat) (ha : RatR w a x) (hb : RatR w b y) (k l : Nat) (hx : RSz x k) (hy : RSz y l) (hkl : k + l + 1 ≤ 549755813888) :
    Calls Tryz.prog 95 #[a.v, b.v] w (Ret w fun w' v => ∃ r : QV, v = r.v ∧ RatR w' r (x + y)) := by
  have HA := Hid.mk ha
  have HB := Hid.mk hb
  have SX := Hid.mk hx
  have SY := Hid.mk hy
  clear hx hy
  clear ha hb
  go_enter Tryz.func95, Tryz.ntmps95
  go_upto_region 1 with (fail)
  obtain ⟨W, hW, hX, b0, b1, b2⟩ := setup3 w #[.bool a.s, .slice a.A a.n a.c, .bool a.t, .slice a.B a.m a.d] #[.bool b.s, .slice b.A b.n b.c, .bool b.t, .slice b.B b.m b.d] #[.bool false, .slice none 0 0, .bool false, .slice none 0 0] 51 51 51
  rw [hW]
  clear hW
  go_cut [10] (fun t10 wc => ∃ bb : Bool, t10 = .bool bb ∧ (bb = true → x.den = 1 ∧ y.den = 1) ∧ X W wc)
  case first =>
    have HC := Hid.mk (fun w' (h : X W w') => (⟨(b0.x h).cell (j := 0) rfl, (b0.x h).cell (j := 1) rfl, (b0.x h).cell (j := 2) rfl, (b0.x h).cell (j := 3) rfl, (b1.x h).cell (j := 0) rfl, (b1.x h).cell (j := 1) rfl, (b1.x h).cell (j := 2) rfl, (b1.x h).cell (j := 3) rfl⟩ : w'.cell? ⟨w.heap.size, 0, none⟩ = some (.bool a.s) ∧ w'.cell? ⟨w.heap.size, 1, none⟩ = some (.slice a.A a.n a.c) ∧ w'.cell? ⟨w.heap.size, 2, none⟩ = some (.bool a.t) ∧ w'.cell? ⟨w.heap.size, 3, none⟩ = some (.slice a.B a.m a.d) ∧ w'.cell? ⟨w.heap.size + 1, 0, none⟩ = some (.bool b.s) ∧ w'.cell? ⟨w.heap.size + 1, 1, none⟩ = some (.slice b.A b.n b.c) ∧ w'.cell? ⟨w.heap.size + 1, 2, none⟩ = some (.bool b.t) ∧ w'.cell? ⟨w.heap.size + 1, 3, none⟩ = some (.slice b.B b.m b.d)))
    have hS := HC.out W (X.refl W)
    by_cases hx1 : x.den = 1
    · go_wp2_with fail
      refine (rat_whole_at _ a x true (HA.out.x hX) (by simpa using hx1)).mono ?_
      rintro e w1 ⟨⟨v, rfl, rfl⟩, hz1⟩
      have hS1 := HC.out w1 hz1
      go_wp2_with fail
      refine (rat_whole_at _ b y (decide (y.den = 1)) (HB.out.x (hX.trans hz1)) rfl).mono ?_
      rintro e w2 ⟨⟨v, rfl, rfl⟩, hz2⟩
      go_wp2_with fail
      go_meet
      exact ⟨_, rfl, fun h => ⟨hx1, by simpa using h⟩, hz1.trans hz2⟩
    · go_wp2_with fail
      refine (rat_whole_at _ a x false (HA.out.x hX) (by simpa using hx1)).mono ?_
      rintro e w1 ⟨⟨v, rfl, rfl⟩, hz1⟩
      go_wp2_with fail
      go_meet
      exact ⟨false, rfl, by simp, hz1⟩
  case rest =>
    obtain ⟨bb, rfl, hbb, hx0⟩ := hcut
    replace hX := hX.trans hx0
    replace b0 := b0.x hx0
    replace b1 := b1.x hx0
    replace b2 := b2.x hx0
    clear hx0 W
    have HC := Hid.mk (fun w' (h : X wc w') => (⟨(b0.x h).cell (j := 0) rfl, (b0.x h).cell (j := 1) rfl, (b0.x h).cell (j := 2) rfl, (b0.x h).cell (j := 3) rfl, (b1.x h).cell (j := 0) rfl, (b1.x h).cell (j := 1) rfl, (b1.x h).cell (j := 2) rfl, (b1.x h).cell (j := 3) rfl⟩ : w'.cell? ⟨w.heap.size, 0, none⟩ = some (.bool a.s) ∧ w'.cell? ⟨w.heap.size, 1, none⟩ = some (.slice a.A a.n a.c) ∧ w'.cell? ⟨w.heap.size, 2, none⟩ = some (.bool a.t) ∧ w'.cell? ⟨w.heap.size, 3, none⟩ = some (.slice a.B a.m a.d) ∧ w'.cell? ⟨w.heap.size + 1, 0, none⟩ = some (.bool b.s) ∧ w'.cell? ⟨w.heap.size + 1, 1, none⟩ = some (.slice b.A b.n b.c) ∧ w'.cell? ⟨w.heap.size + 1, 2, none⟩ = some (.bool b.t) ∧ w'.cell? ⟨w.heap.size + 1, 3, none⟩ = some (.slice b.B b.m b.d)))
    cases bb with
    | true =>
      obtain ⟨hx1, hy1⟩ := hbb rfl
      have hS := HC.out wc (X.refl wc)
      go_wp2_with fail
      refine (int_add _ ⟨a.s, a.A, a.n, a.c⟩ ⟨b.s, b.A, b.n, b.c⟩ x.num y.num (HA.out.x hX).num (HB.out.x hX).num (by have := (HA.out.x hX).num.size SX.out.1; simp at this; show a.n ≤ _; omega) (by have := (HB.out.x hX).num.size SY.out.1; simp at this; show b.n ≤ _; omega)).mono ?_
      rintro e w1 ⟨⟨v, rfl, r1, rfl, hr1⟩, hx2⟩
      replace b2 := b2.x hx2
      replace hX := hX.trans hx2
      have hR : RatR w1 ⟨r1.neg, r1.A, r1.n, r1.c, false, none, 0, 0⟩ (x + y) := by
        have h := RatR.whole hr1
        rw [whole_add hx1 hy1] at h
        exact h
      have k0 := b2.cell (j := 0) rfl; have k1 := b2.cell (j := 1) rfl; have k2 := b2.cell (j := 2) rfl; have k3 := b2.cell (j := 3) rfl; have f0 := b2.frozen 0; have f1 := b2.frozen 1; have f2 := b2.frozen 2; have f3 := b2.frozen 3
      have K := four_cells b2 (.bool r1.neg) (.slice r1.A r1.n r1.c) (.bool false) (.slice none 0 0)
      have HR := Hid.mk (hR.put4 b2 ⟨r1.neg, r1.A, r1.n, r1.c, false, none, 0, 0⟩)
      have HX := Hid.mk (hX.put4 (g := w.heap.size + 1 + 1) (by omega) ⟨r1.neg, r1.A, r1.n, r1.c, false, none, 0, 0⟩)
      clear b0 b1 b2 hr1 hX hx2 HC hS hR
      go_wp2
      exact bodyPost_ret (v := .agg #[.bool r1.neg, .slice r1.A r1.n r1.c, .bool false, .slice none 0 0]) (by simp [results, Tryz.results95, go_sem, K.1, K.2.1, K.2.2.1, K.2.2.2]) rfl ⟨⟨_, rfl, ⟨r1.neg, r1.A, r1.n, r1.c, false, none, 0, 0⟩, rfl, HR.out⟩, HX.out⟩
    | false =>
      clear hbb
      have n1 : ¬ w.heap.size + 1 + 1 = w.heap.size := by omega
      have n2 : ¬ w.heap.size + 1 + 1 = w.heap.size + 1 := by omega
      have sn1 : a.n ≤ 549755813888 := by have := (HA.out.x hX).num.size SX.out.1; simp at this; omega
      have sn2 : b.n ≤ 549755813888 := by have := (HB.out.x hX).num.size SY.out.1; simp at this; omega
      have s1 : ∀ {w : World} {r : IV}, IntR w r x.den → r.n ≤ 549755813888 := fun h => by have := h.size (k := k) (by simpa using SX.out.2); omega
      have s2 : ∀ {w : World} {r : IV}, IntR w r y.den → r.n ≤ 549755813888 := fun h => by have := h.size (k := l) (by simpa using SY.out.2); omega
      have sp1 : ((x.num * y.den).natAbs : Int) < pw B32 (k + l) := natAbs_lt_pw SX.out.1 (by simpa using SY.out.2)
      have sp2 : ((y.num * x.den).natAbs : Int) < pw B32 (k + l) := by
        have := natAbs_lt_pw SY.out.1 (b := x.den) (l := k) (by simpa using SX.out.2)
        rw [Nat.add_comm] at this; exact this
      have sp := add_lt_pw sp1 sp2
      have sd := mul_lt_pw SX.out.2 SY.out.2
      have s3 : ∀ {w : World} {r : IV}, IntR w r (x.num * y.den) → r.n ≤ 549755813888 := fun h => by have := h.size sp1; omega
      have s4 : ∀ {w : World} {r : IV}, IntR w r (y.num * x.den) → r.n ≤ 549755813888 := fun h => by have := h.size sp2; omega
      have s5 : ∀ {w : World} {r : IV}, IntR w r (x.num * y.den + y.num * x.den) → r.n ≤ 549755813888 := fun h => by have := h.size sp; omega
      have s6 : ∀ {w : World} {r : IV}, IntR w r (x.den * y.den) → r.n ≤ 549755813888 := fun h => by have := h.size (k := k + l) (by rw [← Int.natCast_mul, Int.natAbs_natCast]; exact sd); omega
      have hd : (x.den : Int) * y.den ≠ 0 := by
        have := x.den_pos
        have := y.den_pos
        exact Int.mul_ne_zero (by omega) (by omega)
      clear sp1 sp2 sp sd
      go_wp2_with fail
      have hz0 : X wc wc.drew := ⟨rfl, rfl, rfl, Nat.le_refl _, fun _ _ => rfl⟩
      have hS0 := HC.out wc (X.refl _)
      go_region_held3 (fun w' => w'.cell? ⟨w.heap.size, 0, none⟩ = some (.bool a.s) ∧ w'.cell? ⟨w.heap.size, 1, none⟩ = some (.slice a.A a.n a.c) ∧ w'.cell? ⟨w.heap.size, 2, none⟩ = some (.bool a.t) ∧ w'.cell? ⟨w.heap.size, 3, none⟩ = some (.slice a.B a.m a.d) ∧ w'.cell? ⟨w.heap.size + 1, 0, none⟩ = some (.bool b.s) ∧ w'.cell? ⟨w.heap.size + 1, 1, none⟩ = some (.slice b.A b.n b.c) ∧ w'.cell? ⟨w.heap.size + 1, 2, none⟩ = some (.bool b.t) ∧ w'.cell? ⟨w.heap.size + 1, 3, none⟩ = some (.slice b.B b.m b.d))
        (go_keep)
        (first
          | (have hguard := hz8; go_at_call 68; refine (rat_reduced _ r5 r8 (x.num * y.den + y.num * x.den) (x.den * y.den) hr5 hr8 (s5 hr5) (s6 hr8) hd).mono ?_; rintro e w9 ⟨⟨v9, rfl, r9, rfl, hr9⟩, hx9⟩; have hz9 : X wc w9 := hz8.trans hx9; have hr1 := hr1.x hx9; have hr2 := hr2.x hx9; have hr3 := hr3.x hx9; have hr4 := hr4.x hx9; have hr5 := hr5.x hx9; have hr6 := hr6.x hx9; have hr7 := hr7.x hx9; have hr8 := hr8.x hx9; have hS9 := HC.out w9 hz9; have p2 := b2.x hz9; have k0 := p2.cell (j := 0) rfl; have k1 := p2.cell (j := 1) rfl; have k2 := p2.cell (j := 2) rfl; have k3 := p2.cell (j := 3) rfl; have f0 := p2.frozen 0; have f1 := p2.frozen 1; have f2 := p2.frozen 2; have f3 := p2.frozen 3)
          | (have hguard := hz7; go_at_call 58; refine (int_mul _ r6 r7 x.den y.den hr6 hr7 (by have := s1 hr6; omega) (by have := s2 hr7; omega)).mono ?_; rintro e w8 ⟨⟨v8, rfl, r8, rfl, hr8⟩, hx8⟩; have hz8 : X wc w8 := hz7.trans hx8; have hr1 := hr1.x hx8; have hr2 := hr2.x hx8; have hr3 := hr3.x hx8; have hr4 := hr4.x hx8; have hr5 := hr5.x hx8; have hr6 := hr6.x hx8; have hr7 := hr7.x hx8; have hS8 := HC.out w8 hz8)
          | (have hguard := hz6; go_at_call 59; refine (rat_den _ b y (HB.out.x (hX.trans hz6))).mono ?_; rintro e w7 ⟨⟨v7, rfl, r7, rfl, hr7⟩, hx7⟩; have hz7 : X wc w7 := hz6.trans hx7; have hr1 := hr1.x hx7; have hr2 := hr2.x hx7; have hr3 := hr3.x hx7; have hr4 := hr4.x hx7; have hr5 := hr5.x hx7; have hr6 := hr6.x hx7; have hS7 := HC.out w7 hz7)
          | (have hguard := hz5; go_at_call 59; refine (rat_den _ a x (HA.out.x (hX.trans hz5))).mono ?_; rintro e w6 ⟨⟨v6, rfl, r6, rfl, hr6⟩, hx6⟩; have hz6 : X wc w6 := hz5.trans hx6; have hr1 := hr1.x hx6; have hr2 := hr2.x hx6; have hr3 := hr3.x hx6; have hr4 := hr4.x hx6; have hr5 := hr5.x hx6; have hS6 := HC.out w6 hz6)
          | (have hguard := hz4; go_at_call 107; refine (int_add _ r2 r4 (x.num * y.den) (y.num * x.den) hr2 hr4 (by have := s3 hr2; omega) (by have := s4 hr4; omega)).mono ?_; rintro e w5 ⟨⟨v5, rfl, r5, rfl, hr5⟩, hx5⟩; have hz5 : X wc w5 := hz4.trans hx5; have hr1 := hr1.x hx5; have hr2 := hr2.x hx5; have hr3 := hr3.x hx5; have hr4 := hr4.x hx5; have hS5 := HC.out w5 hz5)
          | (have hguard := hz3; go_at_call 58; refine (int_mul _ ⟨b.s, b.A, b.n, b.c⟩ r3 y.num x.den (by exact (HB.out.x (hX.trans hz3)).num) hr3 (by show b.n ≤ _; omega) (by have := s1 hr3; omega)).mono ?_; rintro e w4 ⟨⟨v4, rfl, r4, rfl, hr4⟩, hx4⟩; have hz4 : X wc w4 := hz3.trans hx4; have hr1 := hr1.x hx4; have hr2 := hr2.x hx4; have hr3 := hr3.x hx4; have hS4 := HC.out w4 hz4)
          | (have hguard := hz2; go_at_call 59; refine (rat_den _ a x (HA.out.x (hX.trans hz2))).mono ?_; rintro e w3 ⟨⟨v3, rfl, r3, rfl, hr3⟩, hx3⟩; have hz3 : X wc w3 := hz2.trans hx3; have hr1 := hr1.x hx3; have hr2 := hr2.x hx3; have hS3 := HC.out w3 hz3)
          | (have hguard := hz1; go_at_call 58; refine (int_mul _ ⟨a.s, a.A, a.n, a.c⟩ r1 x.num y.den (by exact (HA.out.x (hX.trans hz1)).num) hr1 (by show a.n ≤ _; omega) (by have := s2 hr1; omega)).mono ?_; rintro e w2 ⟨⟨v2, rfl, r2, rfl, hr2⟩, hx2⟩; have hz2 : X wc w2 := hz1.trans hx2; have hr1 := hr1.x hx2; have hS2 := HC.out w2 hz2)
          | (have hguard := hz0; go_at_call 59; refine (rat_den _ b y (HB.out.x (hX.trans hz0))).mono ?_; rintro e w1 ⟨⟨v1, rfl, r1, rfl, hr1⟩, hx1⟩; have hz1 : X wc w1 := hz0.trans hx1; have hS1 := HC.out w1 hz1))
      rw [add_divInt] at hr9
      have K := four_cells p2 (.bool r9.s) (.slice r9.A r9.n r9.c) (.bool r9.t) (.slice r9.B r9.m r9.d)
      have HR := Hid.mk (hr9.put4 p2 r9)
      have HX := Hid.mk ((hX.trans hz9).put4 (g := w.heap.size + 1 + 1) (by omega) r9)
      clear b0 b1 b2 hX HC p2
      go_wp2
      exact bodyPost_ret (v := r9.v) (by simp [results, Tryz.results95, go_sem, K.1, K.2.1, K.2.2.1, K.2.2.2]) rfl ⟨⟨_, rfl, r9, rfl, HR.out⟩, HX.out⟩

set_option maxRecDepth 100000 in
set_option maxHeartbeats 4000000 in
theorem rat_sub (w : World) (a b : QV) (x y : Rat) (ha : RatR w a x) (hb : RatR w b y) (k l : Nat) (hx : RSz x k) (hy : RSz y l) (hkl : k + l + 1 ≤ 549755813888) :
    Calls Tryz.prog 73 #[a.v, b.v] w (Ret w fun w' v => ∃ r : QV, v = r.v ∧ RatR w' r (x - y)) := by
  have HA := Hid.mk ha
  have HB := Hid.mk hb
  clear ha hb
  go_enter Tryz.func73, Tryz.ntmps73
  go_upto_region 1 with (fail)
  obtain ⟨W, hW, hX, b0, b1, b2⟩ := setup3 w #[.bool a.s, .slice a.A a.n a.c, .bool a.t, .slice a.B a.m a.d] #[.bool b.s, .slice b.A b.n b.c, .bool b.t, .slice b.B b.m b.d] #[.bool false, .slice none 0 0, .bool false, .slice none 0 0] 51 51 51
  rw [hW]
  clear hW
  have HC := Hid.mk (fun w' (h : X W w') => (⟨(b0.x h).cell (j := 0) rfl, (b0.x h).cell (j := 1) rfl, (b0.x h).cell (j := 2) rfl, (b0.x h).cell (j := 3) rfl, (b1.x h).cell (j := 0) rfl, (b1.x h).cell (j := 1) rfl, (b1.x h).cell (j := 2) rfl, (b1.x h).cell (j := 3) rfl⟩ : w'.cell? ⟨w.heap.size, 0, none⟩ = some (.bool a.s) ∧ w'.cell? ⟨w.heap.size, 1, none⟩ = some (.slice a.A a.n a.c) ∧ w'.cell? ⟨w.heap.size, 2, none⟩ = some (.bool a.t) ∧ w'.cell? ⟨w.heap.size, 3, none⟩ = some (.slice a.B a.m a.d) ∧ w'.cell? ⟨w.heap.size + 1, 0, none⟩ = some (.bool b.s) ∧ w'.cell? ⟨w.heap.size + 1, 1, none⟩ = some (.slice b.A b.n b.c) ∧ w'.cell? ⟨w.heap.size + 1, 2, none⟩ = some (.bool b.t) ∧ w'.cell? ⟨w.heap.size + 1, 3, none⟩ = some (.slice b.B b.m b.d)))
  have n1 : ¬ w.heap.size + 1 + 1 = w.heap.size := by omega
  have n2 : ¬ w.heap.size + 1 + 1 = w.heap.size + 1 := by omega
  have hz0 : X W W.drew := ⟨rfl, rfl, rfl, Nat.le_refl _, fun _ _ => rfl⟩
  have hS0 := HC.out W (X.refl _)
  go_region_held3 (fun w' => w'.cell? ⟨w.heap.size, 0, none⟩ = some (.bool a.s) ∧ w'.cell? ⟨w.heap.size, 1, none⟩ = some (.slice a.A a.n a.c) ∧ w'.cell? ⟨w.heap.size, 2, none⟩ = some (.bool a.t) ∧ w'.cell? ⟨w.heap.size, 3, none⟩ = some (.slice a.B a.m a.d) ∧ w'.cell? ⟨w.heap.size + 1, 0, none⟩ = some (.bool b.s) ∧ w'.cell? ⟨w.heap.size + 1, 1, none⟩ = some (.slice b.A b.n b.c) ∧ w'.cell? ⟨w.heap.size + 1, 2, none⟩ = some (.bool b.t) ∧ w'.cell? ⟨w.heap.size + 1, 3, none⟩ = some (.slice b.B b.m b.d))
    (go_keep)
    (first
      | (have hguard := hz1; go_at_call 95; refine (rat_add _ a r1 x (-y) (HA.out.x (hX.trans hz1)) hr1 k l hx hy.neg hkl).mono ?_; rintro e w2 ⟨⟨v2, rfl, r2, rfl, hr2⟩, hx2⟩; have hz2 : X W w2 := hz1.trans hx2; have hr1 := hr1.x hx2; have hS2 := HC.out w2 hz2; have p2 := b2.x hz2; have k0 := p2.cell (j := 0) rfl; have k1 := p2.cell (j := 1) rfl; have k2 := p2.cell (j := 2) rfl; have k3 := p2.cell (j := 3) rfl; have f0 := p2.frozen 0; have f1 := p2.frozen 1; have f2 := p2.frozen 2; have f3 := p2.frozen 3)
      | (have hguard := hz0; go_at_call 32; refine (rat_neg _ b y (HB.out.x (hX.trans hz0))).mono ?_; rintro e w1 ⟨⟨v1, rfl, r1, rfl, hr1⟩, hx1⟩; have hz1 : X W w1 := hz0.trans hx1; have hS1 := HC.out w1 hz1))
  rw [← Rat.sub_eq_add_neg] at hr2
  have K := four_cells p2 (.bool r2.s) (.slice r2.A r2.n r2.c) (.bool r2.t) (.slice r2.B r2.m r2.d)
  have HR := Hid.mk (hr2.put4 p2 r2)
  have HX := Hid.mk ((hX.trans hz2).put4 (g := w.heap.size + 1 + 1) (by omega) r2)
  clear b0 b1 b2 hX HC p2
  go_wp2
  exact bodyPost_ret (v := r2.v) (by simp [results, Tryz.results73, go_sem, K.1, K.2.1, K.2.2.1, K.2.2.2]) rfl ⟨⟨_, rfl, r2, rfl, HR.out⟩, HX.out⟩
end Go.Proofs.YtdgeodnfacnnmaaGreatDoor

/- Reference 05 (fractions of texts), second part: Mul, Add, Div, Neg, Zero, Text. -/
set_option linter.unusedVariables false
set_option linter.unusedSimpArgs false
namespace Go.Proofs.YtdgeodnfacnnmaaGreatDoor
open Go.RowKit
open DDig

theorem b32_ten : ∀ k : Nat, pw B32 k ≤ pw 10 (10 * k)
  | 0 => by simp [pw]
  | k + 1 => by
    have h := b32_ten k
    have e : pw 10 (10 * (k + 1)) = pw 10 (10 * k) * pw 10 10 := by rw [Nat.mul_add, pw_add]
    have e2 : pw 10 10 = 10000000000 := by decide
    have h0 := pw_pos B32_pos k
    rw [pw_succ, e, e2]
    have : B32 * pw B32 k = 4294967296 * pw B32 k := rfl
    omega
theorem Txt.pw_le {s : ByteArray} {z : Int} (h : Txt s z) {k : Nat} (hz : (z.natAbs : Int) < pw B32 k) : s.size ≤ 10 * k + 1 :=
  h.le_size (Int.lt_of_lt_of_le hz (b32_ten k))
theorem FR.sizes {f : FV} {x : Rat} (h : FR f x) {k : Nat} (hx : RSz x k) : f.p.size ≤ 10 * k + 1 ∧ f.q.size ≤ 10 * k + 1 :=
  ⟨h.1.pw_le hx.1, h.2.pw_le (by rw [Int.natAbs_natCast]; exact hx.2)⟩

theorem RSz.den_abs {x : Rat} {k : Nat} (h : RSz x k) : ((x.den : Int).natAbs : Int) < pw B32 k := by rw [Int.natAbs_natCast]; exact h.2

theorem FR.eq_iff {f g : FV} {x y : Rat} (h : FR f x) (k : FR g y) : f = g ↔ x = y := by
  constructor
  · intro e; subst e
    have h1 := (h.1.eq_iff k.1).1 rfl
    have h2 := (h.2.eq_iff k.2).1 rfl
    exact Rat.ext h1 (by omega)
  · intro e; subst e
    have h1 := (h.1.eq_iff k.1).2 rfl
    have h2 := (h.2.eq_iff k.2).2 rfl
    cases f; cases g; simp_all

theorem setup2f (w : World) (c0 c1 : Array Value) (t0 t1 : TypeId) :
    ∃ W, (w.alloc (.cells c0 t0)).alloc (.cells c1 t1) = W ∧ X w W ∧ Blk W w.heap.size t0 c0.toList ∧ Blk W (w.heap.size + 1) t1 c1.toList :=
  ⟨_, rfl, ((X.refl w).alloc _).alloc _, (Blk.new _ _ _).x ((X.refl _).alloc _), Blk.new_at _ _ _ (by simp)⟩

theorem ref_zero (w : World) (f : FV) (x : Rat) (b : Bool) (h : FR f x) (hb : decide (x = 0) = b) : Calls Tryz.prog 24 #[f.v] w (Ret w fun w' v => v = .bool b) := by
  have hz : (f.p.toList == [48]) = b := by
    rw [← hb, Bool.eq_iff_iff, beq_iff_eq, decide_eq_true_iff, ByteArray.toList_eq, TxtL.zero h.1]
    exact Rat.num_eq_zero
  clear h hb
  go_enter Tryz.func24, Tryz.ntmps24
  have b0 := Blk.new w #[.string f.p, .string f.q] 69
  have hX := (X.refl w).alloc (.cells #[.string f.p, .string f.q] 69)
  have c0 := b0.cell (j := 0) rfl
  clear b0
  have HX := Hid.mk hX
  clear hX
  go_wp2
  go_ret
  exact ⟨⟨_, rfl, rfl⟩, HX.out⟩

set_option maxRecDepth 100000 in
set_option maxHeartbeats 2000000 in
theorem ref_fneg (w : World) (f : FV) (x : Rat) (h : FR f x) (k : Nat) (hk : RSz x k) (hkl : k ≤ 20000000000) :
    Calls Tryz.prog 26 #[f.v] w (Ret w fun w' v => ∃ r : FV, v = r.v ∧ FR r (-x)) := by
  have H := Hid.mk h
  have hsz := h.sizes hk
  clear h
  go_enter Tryz.func26, Tryz.ntmps26
  go_wp2_with fail
  obtain ⟨W, hW, hX, b0, b1⟩ := setup2f w #[.string f.p, .string f.q] #[.string ⟨#[]⟩, .string ⟨#[]⟩] 69 69
  rw [hW]
  clear hW
  have HC := Hid.mk (fun w' (h : X W w') => (⟨(b0.x h).cell (j := 0) rfl, (b0.x h).cell (j := 1) rfl⟩ : w'.cell? ⟨w.heap.size, 0, none⟩ = some (.string f.p) ∧ w'.cell? ⟨w.heap.size, 1, none⟩ = some (.string f.q)))
  have n1 : ¬ w.heap.size + 1 = w.heap.size := by omega
  have hz0 : X W W.drew := ⟨rfl, rfl, rfl, Nat.le_refl _, fun _ _ => rfl⟩
  have hS0 := HC.out W (X.refl _)
  go_region_held3 (fun w' => w'.cell? ⟨w.heap.size, 0, none⟩ = some (.string f.p) ∧ w'.cell? ⟨w.heap.size, 1, none⟩ = some (.string f.q))
    (go_keep)
    (first
      | (have hguard := hz0; go_at_call 51; refine (ref_neg _ f.p x.num (by exact H.out.1) (by omega)).mono ?_; rintro e w1 ⟨⟨v1, rfl, r1, rfl, hq1⟩, hx1⟩; have hz1 : X W w1 := hz0.trans hx1; have hS1 := HC.out w1 hz1; have p1 := b1.x hz1; have k0 := p1.cell (j := 0) rfl; have k1 := p1.cell (j := 1) rfl; have f0 := p1.frozen 0; have f1 := p1.frozen 1))
  have K := two_cells (.string r1) (.string f.q) k0 k1
  have HR : Hid (FR ⟨r1, f.q⟩ (-x)) := ⟨hq1, H.out.2⟩
  have HX := Hid.mk (((hX.trans hz1).set (p := ⟨w.heap.size + 1, 0, none⟩) (by show _ ≤ w.heap.size + 1; omega) (.string r1)).set (p := ⟨w.heap.size + 1, 1, none⟩) (by show _ ≤ w.heap.size + 1; omega) (.string f.q))
  clear b0 b1 p1 hq1 hX hx1 HC hz0 hz1
  go_wp2
  exact bodyPost_ret (v := .agg #[.string r1, .string f.q]) (by simp [results, Tryz.results26, go_sem, K.1, K.2]) rfl ⟨⟨_, rfl, ⟨r1, f.q⟩, rfl, HR.out⟩, HX.out⟩

set_option maxRecDepth 100000 in
set_option maxHeartbeats 4000000 in
theorem ref_fmul (w : World) (a b : FV) (x y : Rat) (ha : FR a x) (hb : FR b y) (k l : Nat) (hx : RSz x k) (hy : RSz y l) (hkl : k + l ≤ 20000000000) :
    Calls Tryz.prog 28 #[a.v, b.v] w (Ret w fun w' v => ∃ r : FV, v = r.v ∧ FR r (x * y)) := by
  have HA := Hid.mk ha
  have HB := Hid.mk hb
  have sa := ha.sizes hx
  have sb := hb.sizes hy
  have sn : ∀ {r : ByteArray}, Txt r (x.num * y.num) → r.size ≤ 274877906930 := fun h => by
    have := h.pw_le (natAbs_lt_pw hx.1 hy.1); omega
  have sd : ∀ {r : ByteArray}, Txt r ((x.den : Int) * y.den) → r.size ≤ 274877906930 := fun h => by
    have := h.pw_le (natAbs_lt_pw hx.den_abs hy.den_abs); omega
  have hd : (x.den : Int) * y.den ≠ 0 := by
    have := x.den_pos
    have := y.den_pos
    exact Int.mul_ne_zero (by omega) (by omega)
  clear ha hb hx hy
  go_enter Tryz.func28, Tryz.ntmps28
  go_wp2_with fail
  obtain ⟨W, hW, hX, b0, b1, b2⟩ := setup3 w #[.string a.p, .string a.q] #[.string b.p, .string b.q] #[.string ⟨#[]⟩, .string ⟨#[]⟩] 69 69 69
  rw [hW]
  clear hW
  have HC := Hid.mk (fun w' (h : X W w') => (⟨(b0.x h).cell (j := 0) rfl, (b0.x h).cell (j := 1) rfl, (b1.x h).cell (j := 0) rfl, (b1.x h).cell (j := 1) rfl⟩ : w'.cell? ⟨w.heap.size, 0, none⟩ = some (.string a.p) ∧ w'.cell? ⟨w.heap.size, 1, none⟩ = some (.string a.q) ∧ w'.cell? ⟨w.heap.size + 1, 0, none⟩ = some (.string b.p) ∧ w'.cell? ⟨w.heap.size + 1, 1, none⟩ = some (.string b.q)))
  have n1 : ¬ w.heap.size + 1 + 1 = w.heap.size := by omega
  have n2 : ¬ w.heap.size + 1 + 1 = w.heap.size + 1 := by omega
  have hz0 : X W W.drew := ⟨rfl, rfl, rfl, Nat.le_refl _, fun _ _ => rfl⟩
  have hS0 := HC.out W (X.refl _)
  go_region_held3 (fun w' => w'.cell? ⟨w.heap.size, 0, none⟩ = some (.string a.p) ∧ w'.cell? ⟨w.heap.size, 1, none⟩ = some (.string a.q) ∧ w'.cell? ⟨w.heap.size + 1, 0, none⟩ = some (.string b.p) ∧ w'.cell? ⟨w.heap.size + 1, 1, none⟩ = some (.string b.q))
    (go_keep)
    (first
      | (have hguard := hz2; go_at_call 49; refine (ref_make _ r1 r2 (x.num * y.num) (x.den * y.den) hq1 hq2 (sn hq1) (sd hq2) hd).mono ?_; rintro e w3 ⟨⟨v3, rfl, r3, rfl, hq3⟩, hx3⟩; have hz3 : X W w3 := hz2.trans hx3; have hS3 := HC.out w3 hz3; have p2 := b2.x hz3; have k0 := p2.cell (j := 0) rfl; have k1 := p2.cell (j := 1) rfl; have f0 := p2.frozen 0; have f1 := p2.frozen 1)
      | (have hguard := hz1; go_at_call 50; refine (ref_mul _ a.q b.q x.den y.den (by exact HA.out.2) (by exact HB.out.2) (by omega) (by omega)).mono ?_; rintro e w2 ⟨⟨v2, rfl, r2, rfl, hq2⟩, hx2⟩; have hz2 : X W w2 := hz1.trans hx2; have hS2 := HC.out w2 hz2)
      | (have hguard := hz0; go_at_call 50; refine (ref_mul _ a.p b.p x.num y.num (by exact HA.out.1) (by exact HB.out.1) (by omega) (by omega)).mono ?_; rintro e w1 ⟨⟨v1, rfl, r1, rfl, hq1⟩, hx1⟩; have hz1 : X W w1 := hz0.trans hx1; have hS1 := HC.out w1 hz1))
  have e0 : Rat.divInt (x.num * y.num) (x.den * y.den) = x * y := by
    rw [Rat.mul_def', ← Rat.divInt_ofNat, Int.natCast_mul]
  rw [e0] at hq3
  have K := two_cells (.string r3.p) (.string r3.q) k0 k1
  have HR := Hid.mk hq3
  have HX := Hid.mk (((hX.trans hz3).set (p := ⟨w.heap.size + 1 + 1, 0, none⟩) (by show _ ≤ w.heap.size + 1 + 1; omega) (.string r3.p)).set (p := ⟨w.heap.size + 1 + 1, 1, none⟩) (by show _ ≤ w.heap.size + 1 + 1; omega) (.string r3.q))
  clear b0 b1 b2 p2 hq3 hX HC hz0
  go_wp2
  exact bodyPost_ret (v := r3.v) (by simp [results, Tryz.results28, go_sem, K.1, K.2]) rfl ⟨⟨_, rfl, r3, rfl, HR.out⟩, HX.out⟩

set_option maxRecDepth 100000 in
set_option maxHeartbeats 4000000 in
theorem ref_fadd (w : World) (a b : FV) (x y : Rat) (ha : FR a x) (hb : FR b y) (k l : Nat) (hx : RSz x k) (hy : RSz y l) (hkl : k + l ≤ 20000000000) :
    Calls Tryz.prog 27 #[a.v, b.v] w (Ret w fun w' v => ∃ r : FV, v = r.v ∧ FR r (x + y)) := by
  have HA := Hid.mk ha
  have HB := Hid.mk hb
  have sa := ha.sizes hx
  have sb := hb.sizes hy
  have s1 : ∀ {r : ByteArray}, Txt r (x.num * y.den) → r.size ≤ 274877906930 := fun h => by
    have := h.pw_le (natAbs_lt_pw hx.1 hy.den_abs); omega
  have s2 : ∀ {r : ByteArray}, Txt r (y.num * x.den) → r.size ≤ 274877906930 := fun h => by
    have := h.pw_le (natAbs_lt_pw hy.1 hx.den_abs); omega
  have sd : ∀ {r : ByteArray}, Txt r ((x.den : Int) * y.den) → r.size ≤ 274877906930 := fun h => by
    have := h.pw_le (natAbs_lt_pw hx.den_abs hy.den_abs); omega
  have sn : ∀ {r : ByteArray}, Txt r (x.num * y.den + y.num * x.den) → r.size ≤ 274877906930 := fun h => by
    have h2 := natAbs_lt_pw hy.1 hx.den_abs
    rw [Nat.add_comm] at h2
    have := h.pw_le (add_lt_pw (natAbs_lt_pw hx.1 hy.den_abs) h2); omega
  have hd : (x.den : Int) * y.den ≠ 0 := by
    have := x.den_pos
    have := y.den_pos
    exact Int.mul_ne_zero (by omega) (by omega)
  clear ha hb hx hy
  go_enter Tryz.func27, Tryz.ntmps27
  go_wp2_with fail
  obtain ⟨W, hW, hX, b0, b1, b2⟩ := setup3 w #[.string a.p, .string a.q] #[.string b.p, .string b.q] #[.string ⟨#[]⟩, .string ⟨#[]⟩] 69 69 69
  rw [hW]
  clear hW
  have HC := Hid.mk (fun w' (h : X W w') => (⟨(b0.x h).cell (j := 0) rfl, (b0.x h).cell (j := 1) rfl, (b1.x h).cell (j := 0) rfl, (b1.x h).cell (j := 1) rfl⟩ : w'.cell? ⟨w.heap.size, 0, none⟩ = some (.string a.p) ∧ w'.cell? ⟨w.heap.size, 1, none⟩ = some (.string a.q) ∧ w'.cell? ⟨w.heap.size + 1, 0, none⟩ = some (.string b.p) ∧ w'.cell? ⟨w.heap.size + 1, 1, none⟩ = some (.string b.q)))
  have n1 : ¬ w.heap.size + 1 + 1 = w.heap.size := by omega
  have n2 : ¬ w.heap.size + 1 + 1 = w.heap.size + 1 := by omega
  have hz0 : X W W.drew := ⟨rfl, rfl, rfl, Nat.le_refl _, fun _ _ => rfl⟩
  have hS0 := HC.out W (X.refl _)
  go_region_held3 (fun w' => w'.cell? ⟨w.heap.size, 0, none⟩ = some (.string a.p) ∧ w'.cell? ⟨w.heap.size, 1, none⟩ = some (.string a.q) ∧ w'.cell? ⟨w.heap.size + 1, 0, none⟩ = some (.string b.p) ∧ w'.cell? ⟨w.heap.size + 1, 1, none⟩ = some (.string b.q))
    (go_keep)
    (first
      | (have hguard := hz4; go_at_call 49; refine (ref_make _ r3 r4 (x.num * y.den + y.num * x.den) (x.den * y.den) hq3 hq4 (sn hq3) (sd hq4) hd).mono ?_; rintro e w5 ⟨⟨v5, rfl, r5, rfl, hq5⟩, hx5⟩; have hz5 : X W w5 := hz4.trans hx5; have hS5 := HC.out w5 hz5; have p2 := b2.x hz5; have k0 := p2.cell (j := 0) rfl; have k1 := p2.cell (j := 1) rfl; have f0 := p2.frozen 0; have f1 := p2.frozen 1)
      | (have hguard := hz3; go_at_call 50; refine (ref_mul _ a.q b.q x.den y.den (by exact HA.out.2) (by exact HB.out.2) (by omega) (by omega)).mono ?_; rintro e w4 ⟨⟨v4, rfl, r4, rfl, hq4⟩, hx4⟩; have hz4 : X W w4 := hz3.trans hx4; have hS4 := HC.out w4 hz4)
      | (have hguard := hz2; go_at_call 52; refine (ref_add _ r1 r2 (x.num * y.den) (y.num * x.den) hq1 hq2 (by have := s1 hq1; omega) (by have := s2 hq2; omega)).mono ?_; rintro e w3 ⟨⟨v3, rfl, r3, rfl, hq3⟩, hx3⟩; have hz3 : X W w3 := hz2.trans hx3; have hS3 := HC.out w3 hz3)
      | (have hguard := hz1; go_at_call 50; refine (ref_mul _ b.p a.q y.num x.den (by exact HB.out.1) (by exact HA.out.2) (by omega) (by omega)).mono ?_; rintro e w2 ⟨⟨v2, rfl, r2, rfl, hq2⟩, hx2⟩; have hz2 : X W w2 := hz1.trans hx2; have hS2 := HC.out w2 hz2)
      | (have hguard := hz0; go_at_call 50; refine (ref_mul _ a.p b.q x.num y.den (by exact HA.out.1) (by exact HB.out.2) (by omega) (by omega)).mono ?_; rintro e w1 ⟨⟨v1, rfl, r1, rfl, hq1⟩, hx1⟩; have hz1 : X W w1 := hz0.trans hx1; have hS1 := HC.out w1 hz1))
  rw [add_divInt] at hq5
  have K := two_cells (.string r5.p) (.string r5.q) k0 k1
  have HR := Hid.mk hq5
  have HX := Hid.mk (((hX.trans hz5).set (p := ⟨w.heap.size + 1 + 1, 0, none⟩) (by show _ ≤ w.heap.size + 1 + 1; omega) (.string r5.p)).set (p := ⟨w.heap.size + 1 + 1, 1, none⟩) (by show _ ≤ w.heap.size + 1 + 1; omega) (.string r5.q))
  clear b0 b1 b2 p2 hq5 hX HC hz0
  go_wp2
  exact bodyPost_ret (v := r5.v) (by simp [results, Tryz.results27, go_sem, K.1, K.2]) rfl ⟨⟨_, rfl, r5, rfl, HR.out⟩, HX.out⟩

theorem rat_num_zero' {y : Rat} : y.num = 0 ↔ y = 0 := Rat.num_eq_zero
theorem div_divInt' (x y : Rat) : Rat.divInt (x.num * y.den) (x.den * y.num) = x / y := by
  rw [Rat.div_def, Rat.inv_def]
  conv => rhs; rw [← Rat.num_divInt_den x]
  rw [Rat.divInt_mul_divInt]
set_option maxRecDepth 100000 in
set_option maxHeartbeats 4000000 in
theorem ref_fdiv (w : World) (a b : FV) (x y : Rat) (ha : FR a x) (hb : FR b y) (k l : Nat) (hx : RSz x k) (hy : RSz y l) (hkl : k + l ≤ 20000000000) (hy0 : y ≠ 0) :
    Calls Tryz.prog 25 #[a.v, b.v] w (Ret w fun w' v => ∃ r : FV, v = r.v ∧ FR r (x / y)) := by
  have HA := Hid.mk ha
  have HB := Hid.mk hb
  have sa := ha.sizes hx
  have sb := hb.sizes hy
  have s1 : ∀ {r : ByteArray}, Txt r (x.num * y.den) → r.size ≤ 274877906930 := fun h => by
    have := h.pw_le (natAbs_lt_pw hx.1 hy.den_abs); omega
  have s2 : ∀ {r : ByteArray}, Txt r ((x.den : Int) * y.num) → r.size ≤ 274877906930 := fun h => by
    have := h.pw_le (natAbs_lt_pw hx.den_abs hy.1); omega
  have hd : (x.den : Int) * y.num ≠ 0 := by
    have := x.den_pos
    exact Int.mul_ne_zero (by omega) (fun h => hy0 (rat_num_zero'.1 h))
  clear ha hb hx hy
  go_enter Tryz.func25, Tryz.ntmps25
  go_wp2_with fail
  obtain ⟨W, hW, hX, b0, b1, b2⟩ := setup3 w #[.string a.p, .string a.q] #[.string b.p, .string b.q] #[.string ⟨#[]⟩, .string ⟨#[]⟩] 69 69 69
  rw [hW]
  clear hW
  have HC := Hid.mk (fun w' (h : X W w') => (⟨(b0.x h).cell (j := 0) rfl, (b0.x h).cell (j := 1) rfl, (b1.x h).cell (j := 0) rfl, (b1.x h).cell (j := 1) rfl⟩ : w'.cell? ⟨w.heap.size, 0, none⟩ = some (.string a.p) ∧ w'.cell? ⟨w.heap.size, 1, none⟩ = some (.string a.q) ∧ w'.cell? ⟨w.heap.size + 1, 0, none⟩ = some (.string b.p) ∧ w'.cell? ⟨w.heap.size + 1, 1, none⟩ = some (.string b.q)))
  have n1 : ¬ w.heap.size + 1 + 1 = w.heap.size := by omega
  have n2 : ¬ w.heap.size + 1 + 1 = w.heap.size + 1 := by omega
  have hz0 : X W W.drew := ⟨rfl, rfl, rfl, Nat.le_refl _, fun _ _ => rfl⟩
  have hS0 := HC.out W (X.refl _)
  go_region_held3 (fun w' => w'.cell? ⟨w.heap.size, 0, none⟩ = some (.string a.p) ∧ w'.cell? ⟨w.heap.size, 1, none⟩ = some (.string a.q) ∧ w'.cell? ⟨w.heap.size + 1, 0, none⟩ = some (.string b.p) ∧ w'.cell? ⟨w.heap.size + 1, 1, none⟩ = some (.string b.q))
    (go_keep)
    (first
      | (have hguard := hz2; go_at_call 49; refine (ref_make _ r1 r2 (x.num * y.den) (x.den * y.num) hq1 hq2 (s1 hq1) (s2 hq2) hd).mono ?_; rintro e w3 ⟨⟨v3, rfl, r3, rfl, hq3⟩, hx3⟩; have hz3 : X W w3 := hz2.trans hx3; have hS3 := HC.out w3 hz3; have p2 := b2.x hz3; have k0 := p2.cell (j := 0) rfl; have k1 := p2.cell (j := 1) rfl; have f0 := p2.frozen 0; have f1 := p2.frozen 1)
      | (have hguard := hz1; go_at_call 50; refine (ref_mul _ a.q b.p x.den y.num (by exact HA.out.2) (by exact HB.out.1) (by omega) (by omega)).mono ?_; rintro e w2 ⟨⟨v2, rfl, r2, rfl, hq2⟩, hx2⟩; have hz2 : X W w2 := hz1.trans hx2; have hS2 := HC.out w2 hz2)
      | (have hguard := hz0; go_at_call 50; refine (ref_mul _ a.p b.q x.num y.den (by exact HA.out.1) (by exact HB.out.2) (by omega) (by omega)).mono ?_; rintro e w1 ⟨⟨v1, rfl, r1, rfl, hq1⟩, hx1⟩; have hz1 : X W w1 := hz0.trans hx1; have hS1 := HC.out w1 hz1))
  rw [div_divInt'] at hq3
  have K := two_cells (.string r3.p) (.string r3.q) k0 k1
  have HR := Hid.mk hq3
  have HX := Hid.mk (((hX.trans hz3).set (p := ⟨w.heap.size + 1 + 1, 0, none⟩) (by show _ ≤ w.heap.size + 1 + 1; omega) (.string r3.p)).set (p := ⟨w.heap.size + 1 + 1, 1, none⟩) (by show _ ≤ w.heap.size + 1 + 1; omega) (.string r3.q))
  clear b0 b1 b2 p2 hq3 hX HC hz0
  go_wp2
  exact bodyPost_ret (v := r3.v) (by simp [results, Tryz.results25, go_sem, K.1, K.2]) rfl ⟨⟨_, rfl, r3, rfl, HR.out⟩, HX.out⟩
end Go.Proofs.YtdgeodnfacnnmaaGreatDoor

/- Reference 05 (fractions of texts), third part: Text. -/
set_option linter.unusedVariables false
set_option linter.unusedSimpArgs false
namespace Go.Proofs.YtdgeodnfacnnmaaGreatDoor
open Go.RowKit
open DDig

/-- The text of a fraction. -/
def QTxt (s : ByteArray) (x : Rat) : Prop := ∃ p q : List UInt8, TxtL p x.num ∧ TxtL q x.den ∧ s.data.toList = if x.den = 1 then p else p ++ 47 :: q
theorem QTxt.same {s t : ByteArray} {x : Rat} (h : QTxt s x) (g : QTxt t x) : s = t := by
  obtain ⟨p, q, h1, h2, h3⟩ := h
  obtain ⟨p', q', g1, g2, g3⟩ := g
  have e1 := h1.same g1
  have e2 := h2.same g2
  subst e1 e2
  exact ByteArray.ext (Array.ext' (h3.trans g3.symm))
theorem norm_one : Norm [1] := by simp [Norm]
theorem txt_one : TxtL [49] 1 := ⟨false, [1], ⟨Dig.cons (by decide) (by decide) (Dig.nil _), norm_one⟩, by simp, rfl, by decide⟩

theorem ref_ftext (w : World) (f : FV) (x : Rat) (h : FR f x) (hs : f.p.size + f.q.size + 1 ≤ 9223372036854775807) : Calls Tryz.prog 53 #[f.v] w (Ret w fun w' v => ∃ r, v = .string r ∧ QTxt r x) := by
  have h1 : (f.q.toList == [49]) = decide (x.den = 1) := by
    rw [Bool.eq_iff_iff, beq_iff_eq, decide_eq_true_iff, ByteArray.toList_eq]
    constructor
    · intro e
      have := h.2
      unfold Txt at this
      rw [e] at this
      have := this.unique txt_one
      omega
    · intro e
      have := h.2
      unfold Txt at this
      rw [e] at this
      exact this.same txt_one
  have H := Hid.mk h
  clear h
  go_enter Tryz.func53, Tryz.ntmps53
  have b0 := Blk.new w #[.string f.p, .string f.q] 69
  have hX := (X.refl w).alloc (.cells #[.string f.p, .string f.q] 69)
  have c0 := b0.cell (j := 0) rfl
  have c1 := b0.cell (j := 1) rfl
  clear b0
  have HX := Hid.mk hX
  clear hX
  by_cases hd : x.den = 1
  · have hb : f.q.toList = [49] := by simpa [hd] using h1
    clear h1
    go_wp2
    go_ret
    exact ⟨⟨_, rfl, f.p, rfl, f.p.data.toList, f.q.data.toList, H.out.1, H.out.2, by rw [if_pos hd]⟩, HX.out⟩
  · have hb : ¬ f.q.toList = [49] := by simpa [hd] using h1
    have hb' : (f.q.toList == [49]) = false := by simpa using hb
    clear h1
    go_wp2
    go_ret
    exact ⟨⟨_, rfl, _, rfl, f.p.data.toList, f.q.data.toList, H.out.1, H.out.2, by rw [if_neg hd]; simp⟩, HX.out⟩
end Go.Proofs.YtdgeodnfacnnmaaGreatDoor

/- Rows of fractions, rows of rationals, tables of rows: read from memory, or grown as the call's own. -/
set_option linter.unusedVariables false
set_option linter.unusedSimpArgs false
namespace Go.Proofs.YtdgeodnfacnnmaaGreatDoor
open Go.RowKit
open DDig

/-- What a row of the call's own comes to: nothing, or the beginning of a block. -/
theorem own_parts {w : World} {base : Nat} {e : TypeId} {size n : Nat} {v : Value} {xs : List Value} (h : w.ownsRow base e size v n xs) :
    (v = .slice none 0 0 ∧ n = 0) ∨ ∃ g cap sp, v = .slice (some ⟨g, 0, none⟩) n cap ∧ base ≤ g ∧ g < w.heap.size ∧ n ≤ cap ∧ Blk w g e (xs ++ sp) ∧ xs.length = n * size := by
  rcases h.2 with ⟨h1, h0⟩ | ⟨g, cap, cur, hv, hg, hb, h1, h2, h3, h4⟩
  · exact Or.inl ⟨h1, h0⟩
  · have hB : Blk w g e (xs ++ cur.toList.drop (n * size)) := by
      unfold Blk
      rw [hb, ← h4, List.take_append_drop]
    refine Or.inr ⟨g, cap, _, hv, hg, hB.lt, h1, hB, ?_⟩
    rw [← h4, List.length_take]
    have : cur.toList.length = cur.size := by simp
    have h5 : n * size ≤ cap * size := Nat.mul_le_mul_right _ h1
    omega

theorem own_x {w w' : World} {base : Nat} {e : TypeId} {size n : Nat} {v : Value} {xs : List Value} (h : w.ownsRow base e size v n xs) (hx : X w w') : w'.ownsRow base e size v n xs := by
  refine ⟨h.1, ?_⟩
  rcases h.2 with h1 | ⟨g, cap, cur, hv, hg, hb, h1, h2, h3, h4⟩
  · exact Or.inl h1
  · exact Or.inr ⟨g, cap, cur, hv, hg, (hx.block g (Array.getElem?_eq_some_iff.1 hb).1).trans hb, h1, h2, h3, h4⟩

/-- 'append(out, x)' of one element; what is no part of the row's block is as it was. -/
theorem append_one {P : Program} (w0 w : World) {ops : Array Oper} {rest : List Oper} {o : Oper} {a : Act} {Q : Exit → Act → World → Prop} (hgd : o.guard = none) (s x : Operand) (t : TypeId)
    (ho : o.op = .call { callee := .builtin .append, args := #[s, x], argTypes := #[t, t] })
    (e : TypeId) (z : Value) (size bytes : Nat) (ht : P.underlying t = some (.slice e)) (h2 : (P.info? e).map (fun i => (i.zero, i.size, i.bytes)) = some (some z, size, bytes)) (hzs : z.cells.size = size) (hsz : 0 < size)
    (v : Value) (n : Nat) (xs : List Value) (hs : a.eval s = v) (hown : w.ownsRow w0.heap.size e size v n xs)
    (cs : Array Value) (e' : TypeId) (c : Nat) (hx : a.eval x = .slice (some ⟨w.heap.size, 0, none⟩) 1 c) (hl : cs.size = size) (h1 : ∀ u ∈ cs.toList, u.oneCell' = true)
    (hb : (n + 1) * bytes ≤ 140737488355328) (h63 : n + 1 ≤ 9223372036854775807) (hX : X w0 w)
    (h : ∀ v' w', w'.ownsRow w0.heap.size e size v' (n + 1) (xs ++ cs.toList) → X w0 w' → (∀ b, b < w.heap.size → v.ownBlock ≠ some b → w'.heap[b]? = w.heap[b]?) → wpList P ops Q rest (a.put o.dst v') w') : wpList P ops Q (o :: rest) a (w.alloc (.cells cs e')) := by
  refine append_own (w.alloc (.cells cs e')) hgd s x t ho w0.heap.size e z size bytes ht h2 hzs hsz v n xs hs (hown.alloc _) ⟨w.heap.size, 0, none⟩ 1 c cs.toList hx (by simpa using hl) ?_ h1 h63 hb (hX.alloc _).size (fun v' w' h3 h4 => h v' w' h3 ((hX.alloc _).grown h4 (own_ge hown)) (fun b hb1 hb2 => by
    rw [h4.block b (by simp; omega) (fun e => hb2 e.symm)]; exact heap_alloc_old w _ hb1))
  intro j u hj
  have := (Blk.new w cs e').cell hj
  have e2 : (⟨w.heap.size, 0, none⟩ : Addr).add j = ⟨w.heap.size, j, none⟩ := by unfold Addr.add; split <;> simp_all
  rw [e2]; exact this
theorem cell_kept {w w' : World} {a : Addr} (h : w'.heap[a.block]? = w.heap[a.block]?) : w'.cell? a = w.cell? a := by
  unfold World.cell?; rw [h]
theorem MagR.kept {w w' : World} {b o n c : Nat} {z : Int} (h : MagR w (some ⟨b, o, none⟩) n c z) (hk : w'.heap[b]? = w.heap[b]?) : MagR w' (some ⟨b, o, none⟩) n c z := by
  obtain ⟨xs, h1, h2, ⟨h3, h3'⟩, h4, h5⟩ := h
  refine ⟨xs, h1, h2, ⟨h3, fun h0 => ?_⟩, h4, h5⟩
  obtain ⟨b', o', e, hc⟩ := h3' h0
  refine ⟨b', o', e, fun j hj => ?_⟩
  injection e with e; injection e with e1 e2
  subst e1
  rw [cell_kept hk]
  exact hc j hj

theorem flat_len {α : Type} (c : α → List Value) (z : Nat) (hz : ∀ a, (c a).length = z) : ∀ xs : List α, (xs.flatMap c).length = xs.length * z
  | [] => by simp
  | x :: xs => by
    rw [List.flatMap_cons, List.length_append, flat_len c z hz xs, hz, List.length_cons, Nat.succ_mul]; omega
theorem flat_get {α : Type} (c : α → List Value) (z : Nat) (hz : ∀ a, (c a).length = z) : ∀ (xs : List α) (j i : Nat) (a : α), xs[j]? = some a → i < z → (xs.flatMap c)[j * z + i]? = (c a)[i]?
  | [], j, i, a, h, _ => by simp at h
  | x :: xs, 0, i, a, h, hi => by
    simp at h
    subst h
    rw [List.flatMap_cons, List.getElem?_append_left (by rw [hz]; omega)]
    simp
  | x :: xs, j + 1, i, a, h, hi => by
    rw [List.flatMap_cons, List.getElem?_append_right (by rw [hz, Nat.succ_mul]; omega), hz]
    have := flat_get c z hz xs j i a (by simpa using h) hi
    rw [← this]
    congr 1
    rw [Nat.succ_mul]; omega

theorem app_get {xs sp : List Value} {k : Nat} {v : Value} (h : xs[k]? = some v) : (xs ++ sp)[k]? = some v := by
  rw [List.getElem?_append_left]
  · exact h
  · exact (List.getElem?_eq_some_iff.1 h).1

/-- A row of fractions. -/
def RowF (w : World) (A : Option Addr) (n : Nat) (f : Nat → Rat) : Prop :=
  0 < n → ∃ b o, A = some ⟨b, o, none⟩ ∧ ∀ j, j < n → ∃ a : FV, w.cell? ⟨b, o + j * 2, none⟩ = some (.string a.p) ∧ w.cell? ⟨b, o + j * 2 + 1, none⟩ = some (.string a.q) ∧ FR a (f j)
def SlF (w : World) (v : Value) (n : Nat) (f : Nat → Rat) : Prop := ∃ A c, v = .slice A n c ∧ n ≤ c ∧ (A = none → n = 0 ∧ c = 0) ∧ RowF w A n f
/-- A row of rationals. -/
def RowQ (w : World) (A : Option Addr) (n : Nat) (f : Nat → Rat) : Prop :=
  0 < n → ∃ b o, A = some ⟨b, o, none⟩ ∧ ∀ j, j < n → ∃ a : QV, w.cell? ⟨b, o + j * 4, none⟩ = some (.bool a.s) ∧ w.cell? ⟨b, o + j * 4 + 1, none⟩ = some (.slice a.A a.n a.c) ∧ w.cell? ⟨b, o + j * 4 + 2, none⟩ = some (.bool a.t) ∧ w.cell? ⟨b, o + j * 4 + 3, none⟩ = some (.slice a.B a.m a.d) ∧ RatR w a (f j)
def SlQ (w : World) (v : Value) (n : Nat) (f : Nat → Rat) : Prop := ∃ A c, v = .slice A n c ∧ n ≤ c ∧ (A = none → n = 0 ∧ c = 0) ∧ RowQ w A n f
/-- A table: rows of one length. -/
def RowM (S : World → Value → Nat → (Nat → Rat) → Prop) (w : World) (A : Option Addr) (m c : Nat) (M : Nat → Nat → Rat) : Prop :=
  0 < m → ∃ b o, A = some ⟨b, o, none⟩ ∧ ∀ i, i < m → ∃ u, w.cell? ⟨b, o + i, none⟩ = some u ∧ S w u c (M i)
def SlM (S : World → Value → Nat → (Nat → Rat) → Prop) (w : World) (v : Value) (m c : Nat) (M : Nat → Nat → Rat) : Prop := ∃ A k, v = .slice A m k ∧ m ≤ k ∧ (A = none → m = 0 ∧ k = 0) ∧ RowM S w A m c M

theorem RowF.x {w w' : World} {A : Option Addr} {n : Nat} {f : Nat → Rat} (h : RowF w A n f) (hx : X w w') : RowF w' A n f := fun h0 => by
  obtain ⟨b, o, e, g⟩ := h h0
  refine ⟨b, o, e, fun j hj => ?_⟩
  obtain ⟨a, h1, h2, h3⟩ := g j hj
  exact ⟨a, hx.cell h1, hx.cell h2, h3⟩
theorem SlF.x {w w' : World} {v : Value} {n : Nat} {f : Nat → Rat} (h : SlF w v n f) (hx : X w w') : SlF w' v n f := by
  obtain ⟨A, c, h1, h2, h3, h4⟩ := h
  exact ⟨A, c, h1, h2, h3, h4.x hx⟩
theorem RowQ.x {w w' : World} {A : Option Addr} {n : Nat} {f : Nat → Rat} (h : RowQ w A n f) (hx : X w w') : RowQ w' A n f := fun h0 => by
  obtain ⟨b, o, e, g⟩ := h h0
  refine ⟨b, o, e, fun j hj => ?_⟩
  obtain ⟨a, h1, h2, h3, h4, h5⟩ := g j hj
  exact ⟨a, hx.cell h1, hx.cell h2, hx.cell h3, hx.cell h4, h5.x hx⟩
theorem SlQ.x {w w' : World} {v : Value} {n : Nat} {f : Nat → Rat} (h : SlQ w v n f) (hx : X w w') : SlQ w' v n f := by
  obtain ⟨A, c, h1, h2, h3, h4⟩ := h
  exact ⟨A, c, h1, h2, h3, h4.x hx⟩
theorem SlM.x {S : World → Value → Nat → (Nat → Rat) → Prop} (hS : ∀ {w w' : World} {v : Value} {n : Nat} {f : Nat → Rat}, S w v n f → X w w' → S w' v n f) {w w' : World} {v : Value} {m c : Nat} {M : Nat → Nat → Rat} (h : SlM S w v m c M) (hx : X w w') : SlM S w' v m c M := by
  obtain ⟨A, k, h1, h2, h3, h4⟩ := h
  refine ⟨A, k, h1, h2, h3, fun h0 => ?_⟩
  obtain ⟨b, o, e, g⟩ := h4 h0
  refine ⟨b, o, e, fun j hj => ?_⟩
  obtain ⟨u, h5, h6⟩ := g j hj
  exact ⟨u, hx.cell h5, hS h6 hx⟩
abbrev MatQ := SlM SlQ
abbrev MatF := SlM SlF
theorem MatQ.x {w w' : World} {v : Value} {m c : Nat} {M : Nat → Nat → Rat} (h : MatQ w v m c M) (hx : X w w') : MatQ w' v m c M := SlM.x (S := SlQ) (fun h x => h.x x) h hx
theorem MatF.x {w w' : World} {v : Value} {m c : Nat} {M : Nat → Nat → Rat} (h : MatF w v m c M) (hx : X w w') : MatF w' v m c M := SlM.x (S := SlF) (fun h x => h.x x) h hx

abbrev fcs (fs : List FV) : List Value := fs.flatMap fvc
abbrev qcs (qs : List QV) : List Value := qs.flatMap qvc
theorem fcs_snoc (fs : List FV) (a : FV) : fcs (fs ++ [a]) = fcs fs ++ fvc a := by simp [fcs]
theorem qcs_snoc (fs : List QV) (a : QV) : qcs (fs ++ [a]) = qcs fs ++ qvc a := by simp [qcs]

theorem SlF.nil (w : World) (f : Nat → Rat) : SlF w (.slice none 0 0) 0 f := ⟨none, 0, rfl, Nat.le_refl _, fun _ => ⟨rfl, rfl⟩, fun h => absurd h (by omega)⟩
theorem SlQ.nil (w : World) (f : Nat → Rat) : SlQ w (.slice none 0 0) 0 f := ⟨none, 0, rfl, Nat.le_refl _, fun _ => ⟨rfl, rfl⟩, fun h => absurd h (by omega)⟩
theorem SlM.nil (S : World → Value → Nat → (Nat → Rat) → Prop) (w : World) (c : Nat) (M : Nat → Nat → Rat) : SlM S w (.slice none 0 0) 0 c M := ⟨none, 0, rfl, Nat.le_refl _, fun _ => ⟨rfl, rfl⟩, fun h => absurd h (by omega)⟩

theorem SlF.own {w : World} {base : Nat} {v : Value} {n : Nat} {fs : List FV} {f : Nat → Rat} (h : w.ownsRow base 69 2 v n (fcs fs)) (hn : fs.length = n) (hf : ∀ j a, fs[j]? = some a → FR a (f j)) : SlF w v n f := by
  rcases own_parts h with ⟨rfl, rfl⟩ | ⟨g, cap, sp, rfl, h1, h2, h3, hB, hl⟩
  · exact SlF.nil w f
  · refine ⟨_, _, rfl, h3, by simp, fun h0 => ⟨g, 0, rfl, fun j hj => ?_⟩⟩
    have ha : fs[j]? = some fs[j] := List.getElem?_eq_getElem (by omega)
    refine ⟨fs[j], ?_, ?_, hf j _ ha⟩
    · rw [Nat.zero_add]
      exact hB.cell (app_get (by have := flat_get fvc 2 (fun _ => rfl) fs j 0 _ ha (by omega); rw [Nat.add_zero] at this; rw [this]; rfl))
    · rw [Nat.zero_add]
      exact hB.cell (app_get (by rw [flat_get fvc 2 (fun _ => rfl) fs j 1 _ ha (by omega)]; rfl))
theorem SlQ.own {w : World} {base : Nat} {v : Value} {n : Nat} {fs : List QV} {f : Nat → Rat} (h : w.ownsRow base 51 4 v n (qcs fs)) (hn : fs.length = n) (hf : ∀ j a, fs[j]? = some a → RatR w a (f j)) : SlQ w v n f := by
  rcases own_parts h with ⟨rfl, rfl⟩ | ⟨g, cap, sp, rfl, h1, h2, h3, hB, hl⟩
  · exact SlQ.nil w f
  · refine ⟨_, _, rfl, h3, by simp, fun h0 => ⟨g, 0, rfl, fun j hj => ?_⟩⟩
    have ha : fs[j]? = some fs[j] := List.getElem?_eq_getElem (by omega)
    refine ⟨fs[j], ?_, ?_, ?_, ?_, hf j _ ha⟩
    · rw [Nat.zero_add]
      exact hB.cell (app_get (by have := flat_get qvc 4 (fun _ => rfl) fs j 0 _ ha (by omega); rw [Nat.add_zero] at this; rw [this]; rfl))
    · rw [Nat.zero_add]
      exact hB.cell (app_get (by rw [flat_get qvc 4 (fun _ => rfl) fs j 1 _ ha (by omega)]; rfl))
    · rw [Nat.zero_add]
      exact hB.cell (app_get (by rw [flat_get qvc 4 (fun _ => rfl) fs j 2 _ ha (by omega)]; rfl))
    · rw [Nat.zero_add]
      exact hB.cell (app_get (by rw [flat_get qvc 4 (fun _ => rfl) fs j 3 _ ha (by omega)]; rfl))
theorem SlM.own {S : World → Value → Nat → (Nat → Rat) → Prop} {w : World} {base : Nat} {e : TypeId} {v : Value} {n c : Nat} {us : List Value} {M : Nat → Nat → Rat} (h : w.ownsRow base e 1 v n us) (hn : us.length = n) (hf : ∀ j u, us[j]? = some u → S w u c (M j)) : SlM S w v n c M := by
  rcases own_parts h with ⟨rfl, rfl⟩ | ⟨g, cap, sp, rfl, h1, h2, h3, hB, hl⟩
  · exact SlM.nil S w c M
  · refine ⟨_, _, rfl, h3, by simp, fun h0 => ⟨g, 0, rfl, fun j hj => ?_⟩⟩
    have ha : us[j]? = some us[j] := List.getElem?_eq_getElem (by omega)
    refine ⟨us[j], ?_, hf j _ ha⟩
    rw [Nat.zero_add]
    exact hB.cell (app_get ha)

theorem RowF.congr {w : World} {A : Option Addr} {n : Nat} {f g : Nat → Rat} (h : RowF w A n f) (e : ∀ j, j < n → f j = g j) : RowF w A n g := fun h0 => by
  obtain ⟨b, o, ha, hh⟩ := h h0
  refine ⟨b, o, ha, fun j hj => ?_⟩
  rw [← e j hj]; exact hh j hj
theorem SlF.congr {w : World} {v : Value} {n : Nat} {f g : Nat → Rat} (h : SlF w v n f) (e : ∀ j, j < n → f j = g j) : SlF w v n g := by
  obtain ⟨A, c, h1, h2, h3, h4⟩ := h
  exact ⟨A, c, h1, h2, h3, h4.congr e⟩
theorem RowQ.congr {w : World} {A : Option Addr} {n : Nat} {f g : Nat → Rat} (h : RowQ w A n f) (e : ∀ j, j < n → f j = g j) : RowQ w A n g := fun h0 => by
  obtain ⟨b, o, ha, hh⟩ := h h0
  refine ⟨b, o, ha, fun j hj => ?_⟩
  rw [← e j hj]; exact hh j hj
theorem SlQ.congr {w : World} {v : Value} {n : Nat} {f g : Nat → Rat} (h : SlQ w v n f) (e : ∀ j, j < n → f j = g j) : SlQ w v n g := by
  obtain ⟨A, c, h1, h2, h3, h4⟩ := h
  exact ⟨A, c, h1, h2, h3, h4.congr e⟩
theorem MatQ.congr {w : World} {v : Value} {m n : Nat} {M N : Nat → Nat → Rat} (h : MatQ w v m n M) (e : ∀ i, i < m → ∀ j, j < n → M i j = N i j) : MatQ w v m n N := by
  obtain ⟨A, c, h1, h2, h3, h4⟩ := h
  refine ⟨A, c, h1, h2, h3, fun h0 => ?_⟩
  obtain ⟨b, o, ha, hh⟩ := h4 h0
  refine ⟨b, o, ha, fun i hi => ?_⟩
  obtain ⟨u, h5, h6⟩ := hh i hi
  exact ⟨u, h5, h6.congr (e i hi)⟩
theorem MatF.congr {w : World} {v : Value} {m n : Nat} {M N : Nat → Nat → Rat} (h : MatF w v m n M) (e : ∀ i, i < m → ∀ j, j < n → M i j = N i j) : MatF w v m n N := by
  obtain ⟨A, c, h1, h2, h3, h4⟩ := h
  refine ⟨A, c, h1, h2, h3, fun h0 => ?_⟩
  obtain ⟨b, o, ha, hh⟩ := h4 h0
  refine ⟨b, o, ha, fun i hi => ?_⟩
  obtain ⟨u, h5, h6⟩ := hh i hi
  exact ⟨u, h5, h6.congr (e i hi)⟩

theorem info_F : (Tryz.prog.info? 69).map (fun i => (i.zero, i.size, i.bytes)) = some (some (.agg #[.string ⟨#[]⟩, .string ⟨#[]⟩]), 2, 32) := by kernel_rfl
theorem info_Q : (Tryz.prog.info? 51).map (fun i => (i.zero, i.size, i.bytes)) = some (some (.agg #[.bool false, .slice none 0 0, .bool false, .slice none 0 0]), 4, 64) := by kernel_rfl
theorem info_sF : (Tryz.prog.info? 57).map (fun i => (i.zero, i.size, i.bytes)) = some (some (.slice none 0 0), 1, 24) := by kernel_rfl
theorem info_sQ : (Tryz.prog.info? 64).map (fun i => (i.zero, i.size, i.bytes)) = some (some (.slice none 0 0), 1, 24) := by kernel_rfl
end Go.Proofs.YtdgeodnfacnnmaaGreatDoor

/- Package integer: Text. -/
set_option linter.unusedVariables false
set_option linter.unusedSimpArgs false
namespace Go.Proofs.YtdgeodnfacnnmaaGreatDoor
open Go.RowKit
open DDig

/-- What the library's table holds at the call. -/
def Tab (w : World) : Prop := Lib.TabIs Tryz.prog w "internal/strconv.uint64pow10" .u64 Lib.pow10Tab
theorem info_str : (Tryz.prog.info? 9).map (fun i => (i.zero, i.size, i.bytes)) = some (some (.string ⟨#[]⟩), 1, 16) := by kernel_rfl
theorem pow10_named : ∃ g, Tryz.prog.globalNamed "internal/strconv.uint64pow10" = some g := by
  have h : (Tryz.prog.globalNamed "internal/strconv.uint64pow10").isSome = true := by kernel_rfl
  exact Option.isSome_iff_exists.1 h
theorem Tab.x {w w' : World} (h : Tab w) (hx : X w w') : Tab w' := by
  obtain ⟨g, hg⟩ := pow10_named
  unfold Tab Lib.TabIs at *
  have hc := World.var?_cell (P := Tryz.prog) (w := w) hg h 0
  refine var?_below hx hg ?_ h
  exact World.block_lt_of_cell? w ⟨g, 0, none⟩ (u := .int .u64 1) (by rw [hc]; rfl)

theorem X.grow (w : World) (k : Nat) (os : Array Obj) : X w (Sort.grow (w.drewN k) os) :=
  ⟨rfl, rfl, rfl, by first | (simp [Sort.grow]; done) | (simp [Sort.grow]; omega), fun i hi => by
    show ((w.drewN k).heap ++ os)[i]? = _
    rw [Array.getElem?_append_left (by show i < w.heap.size; omega)]; rfl⟩

theorem ba_size (l : List UInt8) : (⟨l.toArray⟩ : ByteArray).size = l.length := by
  show l.toArray.size = _
  simp
theorem X.setCells {a : World} {g : Nat} (hg : a.heap.size ≤ g) : ∀ (vs : List Value) (o : Nat) {b : World}, X a b → X a (b.setCells g o vs)
  | [], _, _, h => h
  | v :: r, o, b, h => by
    rw [World.setCells]
    exact X.setCells hg r (o + 1) (h.set (p := ⟨g, o, none⟩) hg v)

theorem itoa_at (w : World) (r : Int) (h0 : 0 ≤ r) (h1 : r < 1000000000) (ht : Tab w) :
    Calls Tryz.prog 63 #[.int .i64 r] w (Ret w fun w' v => ∃ s : ByteArray, v = .string s ∧ s.data.toList = Lib.decDigits r.toNat ∧ s.size = (d10 r.toNat).length ∧ 1 ≤ s.size ∧ s.size ≤ 9) := by
  refine (Tryz.strconv_Itoa r (by omega) (by omega) w ht).mono ?_
  rintro e w' ⟨rfl, k, os, rfl⟩
  have hs : (⟨(Lib.itoa r).toArray⟩ : ByteArray).data.toList = Lib.decDigits r.toNat := by
    show (Lib.itoa r).toArray.toList = _
    rw [Lib.itoa, if_neg (by omega)]
  have hl : (⟨(Lib.itoa r).toArray⟩ : ByteArray).size = (d10 r.toNat).length := by
    rw [← dec_length, ← hs]; exact ba_size _
  have h9 : (d10 r.toNat).length ≤ 9 := d10_length (by omega) (by
    have : pw 10 9 = 1000000000 := by decide
    omega)
  have h1' : 0 < (d10 r.toNat).length := List.length_pos_iff.2 (d10_ne _)
  exact ⟨⟨_, rfl, _, rfl, hs, hl, by omega, by omega⟩, X.grow w k os⟩

theorem zeros_at (w : World) (z : Int) (h0 : 0 ≤ z) (h1 : z ≤ 9) :
    Calls Tryz.prog 64 #[.string ⟨#[48]⟩, .int .i64 z] w (Ret w fun w' v => ∃ s : ByteArray, v = .string s ∧ s.data.toList = Lib.repeatL [48] z.toNat ∧ s.size = z.toNat) := by
  obtain ⟨n, rfl⟩ : ∃ n : Nat, z = n := ⟨z.toNat, by omega⟩
  refine (Tryz.strings_Repeat ⟨#[48]⟩ n w (by omega) (by show 1 * n ≤ _; omega)).mono ?_
  rintro e w' ⟨rfl, hx⟩
  refine ⟨⟨_, rfl, _, rfl, by simp, ?_⟩, hx⟩
  rw [ba_size, Int.toNat_natCast, rep_bytes]; simp

theorem reverse_at (w0 w : World) (v : Value) (gs : List ByteArray) (hg : gs ≠ []) (ho : w.ownsRow w0.heap.size 9 1 v gs.length (gs.map .string)) (hx : X w0 w) (hn : gs.length ≤ 9223372036854775807) :
    Calls Tryz.prog 65 #[v] w fun e w' => e = .returned (.tuple #[]) ∧ X w0 w' ∧ ∃ g cap, v = .slice (some ⟨g, 0, none⟩) gs.length cap ∧ gs.length ≤ cap ∧ g < w'.heap.size ∧ ∀ (j : Nat) x, gs.reverse[j]? = some x → w'.cell? ⟨g, 0 + j, none⟩ = some (.string x) := by
  rcases own_parts ho with ⟨rfl, h0⟩ | ⟨g, cap, sp, rfl, h1, h2, h3, hB, hl⟩
  · exact absurd (List.eq_nil_of_length_eq_zero h0) hg
  have hlen : (Lib.strsOf (fun i => gs.getD i ⟨#[]⟩) gs.length).reverse.map encStr = gs.reverse.map .string := by
    apply List.ext_getElem
    · simp [Lib.strsOf]
    · intro i h1 h2
      simp [Lib.strsOf] at h1
      simp [Lib.strsOf, encStr, List.getD_eq_getElem?_getD, h1, show gs.length - 1 - i < gs.length by omega]
  refine (Tryz.slices_Reverse_string_cells g 0 gs.length cap (fun i => gs.getD i ⟨#[]⟩) w hn ?_ (fun j _ => hB.frozen _)).mono ?_
  · intro i hi
    rw [Nat.zero_add]
    refine hB.cell (app_get ?_)
    rw [List.getElem?_map, List.getElem?_eq_getElem hi, List.getD_eq_getElem?_getD, List.getElem?_eq_getElem hi]; rfl
  · rintro e w' ⟨rfl, q, rfl⟩
    rw [hlen]
    have hc : ∀ j, j < (gs.reverse.map Value.string).length → ((w.drewN q).cell? ⟨g, 0 + j, none⟩).isSome = true := by
      intro j hj
      simp at hj
      have : (w.drewN q).cell? ⟨g, 0 + j, none⟩ = some (.string gs[j]) := by
        rw [Nat.zero_add]
        refine (hB.drewN q).cell (app_get ?_)
        rw [List.getElem?_map, List.getElem?_eq_getElem hj]; rfl
      rw [this]; rfl
    refine ⟨rfl, ?_, g, cap, rfl, h3, ?_, ?_⟩
    · exact X.setCells h1 _ _ (hx.drewN q)
    · have h0 : 0 < gs.length := List.length_pos_iff.2 hg
      have := World.cell?_setCells_in g (gs.reverse.map Value.string) 0 (w.drewN q) hc 0 (by simpa using h0)
      exact World.block_lt_of_cell? _ _ this
    · intro j x hj
      have hj' := (List.getElem?_eq_some_iff.1 hj)
      obtain ⟨hj1, hj2⟩ := hj'
      have := World.cell?_setCells_in g (gs.reverse.map Value.string) 0 (w.drewN q) hc j (by simpa using hj1)
      rw [this]
      simp [← hj2]
theorem join_at (w : World) (g cap : Nat) (xs : List ByteArray) (hc : ∀ (j : Nat) x, xs[j]? = some x → w.cell? ⟨g, 0 + j, none⟩ = some (.string x)) (hg : g < w.heap.size) (hN : xs.length ≤ 140737488355328) (hcap : xs.length ≤ cap) (hl : ((xs.map (·.data.toList)).flatten).length ≤ 140737488355328) :
    Calls Tryz.prog 66 #[.slice (some ⟨g, 0, none⟩) xs.length cap, .string ⟨#[]⟩] w (Ret w fun w' v => ∃ s : ByteArray, v = .string s ∧ s.data.toList = (xs.map (·.data.toList)).flatten ∧ s.size ≤ 140737488355328) := by
  have hj : ∀ ys : List (List UInt8), Lib.join ys [] = ys.flatten := by
    intro ys
    cases ys with
    | nil => rfl
    | cons y r =>
      rw [Lib.join_cons, Lib.joinTail]
      simp
  refine (Tryz.strings_Join g 0 cap xs ⟨#[]⟩ w hc hg hN hcap (by rw [hj]; exact hl)).mono ?_
  rintro e w' ⟨rfl, hx⟩
  refine ⟨⟨_, rfl, _, rfl, ?_, ?_⟩, hx⟩
  · show (Lib.join _ []).toArray.toList = _
    rw [hj]
  · rw [ba_size]
    show (Lib.join _ []).length ≤ _
    rw [hj]; exact hl

theorem setup1 (w : World) (c0 : Array Value) (t0 : TypeId) :
    ∃ W, w.alloc (.cells c0 t0) = W ∧ X w W ∧ Blk W w.heap.size t0 c0.toList ∧ W.heap.size = w.heap.size + 1 :=
  ⟨_, rfl, (X.refl w).alloc _, Blk.new _ _ _, by simp⟩

theorem MagR.none {w w' : World} {A : Option Addr} {n c : Nat} {z : Int} (h : MagR w A n c z) (h0 : n = 0) : MagR w' A n c z := by
  obtain ⟨xs, h1, h2, h3, h4, h5⟩ := h
  refine ⟨xs, h1, h2, ⟨by omega, fun h => by omega⟩, h4, h5⟩
theorem norm_append {xs ys : List Int} (h : Norm ys) (hy : ys ≠ []) : Norm (xs ++ ys) := by
  intro h'
  rw [List.getLast_append_of_ne_nil _ hy]
  exact h hy
theorem group_bytes {gs : List ByteArray} {t : ByteArray} {D d : List Int} (h : (gs.reverse.map (·.data.toList)).flatten = D.reverse.map dby) (ht : t.data.toList = d.reverse.map dby) :
    ((gs ++ [t]).reverse.map (·.data.toList)).flatten = (D ++ d).reverse.map dby := by
  rw [List.reverse_append, List.reverse_singleton, List.singleton_append, List.map_cons, List.flatten_cons, h, ht, List.reverse_append, List.map_append]
theorem group_step {D d : List Int} {y q r X : Int} (h : val 10 D + pw 10 D.length * y = X) (hd : val 10 d = r) (hl : d.length = 9) (hy : y = r + 1000000000 * q) :
    val 10 (D ++ d) + pw 10 (D ++ d).length * q = X := by
  have e : pw 10 9 = 1000000000 := by decide
  rw [val_append, List.length_append, hl, pw_add, e, hd, ← h, hy, Int.mul_add, Int.mul_assoc]
  omega
theorem group_last {D d : List Int} {y X : Int} (h : val 10 D + pw 10 D.length * y = X) (hd : val 10 d = y) :
    val 10 (D ++ d) = X := by rw [val_append, hd, h]

set_option maxRecDepth 100000 in
set_option maxHeartbeats 4000000 in
theorem int_text (w : World) (a : IV) (x : Int) (ha : IntR w a x) (hn : a.n ≤ 1000000000) (ht : Tab w) :
    Calls Tryz.prog 41 #[a.v] w (Ret w fun w' v => ∃ r, v = .string r ∧ Txt r x ∧ r.size ≤ 140737488355329) := by
  obtain ⟨neg, A, n, c⟩ := a
  obtain ⟨m, hm, hnz, hx⟩ := ha
  replace hm : MagR w A n c m := hm
  replace hnz : neg = true → n ≠ 0 := hnz
  replace hx : x = if neg = true then -m else m := hx
  replace hn : n ≤ 1000000000 := hn
  have HM := Hid.mk hm
  have HT := Hid.mk ht
  have HXX := Hid.mk hx
  have hz := hm.zero
  have hm0 := hm.nonneg
  have hmlt := hm.lt
  clear hm ht hx
  go_enter Tryz.func41, Tryz.ntmps41
  by_cases hn0 : n = 0
  · obtain rfl : neg = false := by cases neg <;> simp_all
    have b0 := Blk.new w #[.bool false, .slice A n c] 49
    have hX := (X.refl w).alloc (.cells #[.bool false, .slice A n c] 49)
    have c0 := b0.cell (j := 0) rfl
    have c1 := b0.cell (j := 1) rfl
    have HX := Hid.mk hX
    have HF : Hid (Txt ⟨#[48]⟩ x) := by
      have hx0 : x = 0 := by rw [HXX.out, if_neg (by simp)]; exact hz.1 hn0
      rw [hx0]
      exact ⟨false, [], ⟨Dig.nil _, Norm.nil⟩, by simp, rfl, rfl⟩
    subst hn0
    clear hX b0 hnz hz hm0 hmlt
    go_wp2
    go_ret
    exact ⟨⟨_, rfl, _, rfl, HF.out, by decide⟩, HX.out⟩
  · have hnb : ((n : Int) == 0) = false := by rw [beq_eq_false_iff_ne]; omega
    have hmp : 0 < m := by
      have : ¬ m = 0 := fun h => hn0 (hz.2 h)
      omega
    have c0 := (Blk.new w #[.bool neg, .slice A n c] 49).cell (j := 0) rfl
    have c1 := (Blk.new w #[.bool neg, .slice A n c] 49).cell (j := 1) rfl
    go_wp2_with fail
    obtain ⟨W, hW, hX, b0, hWs⟩ := setup1 w #[.bool neg, .slice A n c] 49
    rw [hW] at c0 c1 ⊢
    clear hW c1
    replace HM := Hid.mk (HM.out.x hX)
    replace HT := Hid.mk (HT.out.x hX)
    have hn10 : pw B32 n ≤ pw 10 (10 * n) := b32_ten n
    have HPW : Hid (∀ k : Nat, pw 10 k ≤ m → k ≤ 10 * n) := by
      intro k hk
      apply Nat.le_of_not_lt
      intro hlt
      have := pw_mono (b := 10) (by decide) (show 10 * n ≤ k by omega)
      omega
    have HX := Hid.mk hX
    have HXW := Hid.mk hX
    have C0 := Hid.mk c0
    clear hX b0 c0 hz hmlt hn10
    go_loopg [3, 4, 5, 6, 7] (m.natAbs) (fun q t3 t4 t5 t6 t7 wr => ∃ (gs : List ByteArray) (y : Int) (B : Option Addr) (k d : Nat) (D : List Int), wr.ownsRow W.heap.size 9 1 t3 gs.length (gs.map .string) ∧ t4 = .slice B k d ∧ MagR wr B k d y ∧ k ≤ n ∧ (gs.reverse.map (·.data.toList)).flatten = D.reverse.map dby ∧ Dig 10 D ∧ val 10 D + pw 10 D.length * y = m ∧ (0 < y → D.length = 9 * gs.length) ∧ gs.length ≤ 10 * n + 1 ∧ D.length ≤ 10 * n + 9 ∧ (y = 0 → Norm D ∧ gs ≠ []) ∧ y.natAbs ≤ q ∧ X W wr)
    case atStart => exact ⟨[], m, A, n, c, [], World.ownsRow_nil _ _ _ _, rfl, HM.out, Nat.le_refl _, rfl, Dig.nil _, by simp [val, pw], fun _ => rfl, by simp, by simp, fun h => by omega, Nat.le_refl _, X.refl W⟩
    case round =>
      obtain ⟨gs, y, B, k, d, D, ho, rfl, hy, hkn, hby, hD, hv, hlen, hgl, hDl, hnorm, hq, hx⟩ := hrel
      have HO := Hid.mk ho
      have HY := Hid.mk hy
      have HBY := Hid.mk hby
      have HD := Hid.mk hD
      have HV := Hid.mk hv
      have HL := Hid.mk hlen
      have HNM := Hid.mk hnorm
      have HQ := Hid.mk hq
      replace HX := Hid.mk hx
      have HT := Hid.mk (HT.out.x hx)
      have hyz := hy.zero
      have hy0 := hy.nonneg
      clear ho hy hby hD hv hlen hnorm hq hx
      by_cases hk : 0 < k
      · have hkb : (0 : Int) < k := by omega
        have hyp : 0 < y := by
          have : ¬ y = 0 := fun h => by have := hyz.2 h; omega
          omega
        go_wp2_with fail
        refine (int_short' _ B k d y 1000000000 HY.out (by omega) (by omega) (by omega)).mono ?_
        rintro e w1 ⟨⟨v, rfl, k', d', rfl, hq1⟩, hx1⟩
        have HFR : Hid (u3.ownBlock ≠ some wr.heap.size) := fun h => by
          have := (HO.out.lt _ h).2
          omega
        have HB1 : Hid (wr.heap.size < w1.heap.size ∨ k' = 0) := by
          by_cases h : k' = 0
          · exact Or.inr h
          · obtain ⟨xs, e1, e2, ⟨_, e3⟩, e4⟩ := hq1
            obtain ⟨b0, o0, e5, e6⟩ := e3 (by omega)
            injection e5 with e5; injection e5 with e7 e8
            subst e7
            exact Or.inl (World.block_lt_of_cell? _ _ (e6 0 (by omega)))
        obtain ⟨r, hr⟩ : ∃ r, r = y % 1000000000 := ⟨_, rfl⟩
        obtain ⟨qv, hqv⟩ : ∃ qv, qv = y / 1000000000 := ⟨_, rfl⟩
        rw [← hr]
        rw [← hqv] at hq1
        have hyr : y = r + 1000000000 * qv := by omega
        have hr0 : 0 ≤ r ∧ r < 1000000000 := by omega
        have hq0 : 0 ≤ qv ∧ qv < y := by omega
        have hkk : k' ≤ k := hq1.size (by have := HY.out.lt; omega)
        have hkz := hq1.zero
        replace HX := Hid.mk (HX.out.trans hx1)
        replace HT := Hid.mk (HT.out.x hx1)
        replace HO := Hid.mk (own_x HO.out hx1)
        have HQ1 := Hid.mk hq1
        clear hx1 hq1 hr hqv HY
        go_wp2_with fail
        refine (itoa_at _ r hr0.1 hr0.2 HT.out).mono ?_
        rintro e w2 ⟨⟨v, rfl, s, rfl, hs, hsl, hs1, hs9⟩, hx2⟩
        replace HX := Hid.mk (HX.out.trans hx2)
        replace HT := Hid.mk (HT.out.x hx2)
        replace HO := Hid.mk (own_x HO.out hx2)
        replace HQ1 := Hid.mk (HQ1.out.x hx2)
        replace HB1 := Hid.mk (HB1.out.imp (fun h => Nat.lt_of_lt_of_le h hx2.size) id)
        have HS := Hid.mk hs
        have HSL := Hid.mk hsl
        clear hx2 hs hsl
        have hDp : pw 10 D.length ≤ m := by
          have h0 := pw_pos (b := 10) (by decide) D.length
          have h1 : pw 10 D.length * 1 ≤ pw 10 D.length * y := Int.mul_le_mul_of_nonneg_left (by omega) (by omega)
          have h2 := val_nonneg (by decide : (0 : Int) < 10) HD.out
          have h3 := HV.out
          omega
        have hDl2 := HPW.out _ hDp
        have hgl2 := HL.out hyp
        cases gk with
        | zero => exact absurd HQ.out (by omega)
        | succ q0 =>
          by_cases hk' : 0 < k'
          · have hkb' : (0 : Int) < k' := by omega
            have hqp : 0 < qv := by
              have : ¬ qv = 0 := fun h => by have := hkz.2 h; omega
              omega
            go_wp2_with fail
            refine (zeros_at _ (9 - (s.size : Int)) (by omega) (by omega)).mono ?_
            rintro e w3 ⟨⟨v, rfl, z, rfl, hz, hzl⟩, hx3⟩
            replace HX := Hid.mk (HX.out.trans hx3)
            replace HO := Hid.mk (own_x HO.out hx3)
            replace HQ1 := Hid.mk (HQ1.out.x hx3)
            replace HB1 := Hid.mk (HB1.out.imp (fun h => Nat.lt_of_lt_of_le h hx3.size) id)
            have HZ := Hid.mk hz
            have hzs : z.size + s.size ≤ 9 := by omega
            have hgsl : (gs.length + 1) * 16 ≤ 140737488355328 := by omega
            have hgm : (gs.map Value.string).length = gs.length := by simp
            clear hx3 hz
            go_wp2_with (at_builtin; refine append_one W _ rfl _ _ 103 rfl 9 (.string ⟨#[]⟩) 1 16 Tryz.underlying103 info_str rfl (by omega) _ _ _ rfl HO.out _ _ _ rfl rfl (by simp [Value.oneCell']) (by omega) (by omega) HX.out ?_; intro v1 w4 ho1 hx1 hkp; have HKP := Hid.mk hkp; clear hkp; have HO1 := Hid.mk ho1; have HX1 := Hid.mk hx1; clear ho1 hx1)
            go_roundg q0
            case measure => omega
            case rel =>
              have hlr : (d10 r.toNat).length ≤ 9 := by rw [← HSL.out]; exact hs9
              refine ⟨gs ++ [z ++ s], qv, some ⟨wr.heap.size, 0, none⟩, k', d', D ++ d10z r.toNat 9, ?_, rfl, ?_, by omega, group_bytes HBY.out ?_, HD.out.append (d10z_dig _ _), group_step HV.out ?_ (d10z_length hlr) hyr, fun _ => ?_, ?_, ?_, fun h => by omega, by have := HQ.out; omega, HX1.out⟩
              · have := HO1.out
                rw [List.length_append, List.length_singleton]
                simpa using this
              · rcases HB1.out with h | h
                · exact HQ1.out.kept (HKP.out wr.heap.size h HFR.out)
                · exact HQ1.out.none h
              · rw [← d10z_bytes, ← HS.out, ← HSL.out]
                have : (9 - (s.size : Int)).toNat = 9 - s.size := by omega
                rw [← this, ← HZ.out]
                simp
              · rw [d10z_val]; omega
              · rw [List.length_append, List.length_append, d10z_length hlr, List.length_singleton]; omega
              · rw [List.length_append, List.length_singleton]; omega
              · rw [List.length_append, d10z_length hlr]; omega
          · have hkb' : ¬ (0 : Int) < k' := by omega
            have hq00 : qv = 0 := hkz.1 (by omega)
            have HKZ := Hid.mk hkz
            have hgsl : (gs.length + 1) * 16 ≤ 140737488355328 := by omega
            clear hk' hkz hkk
            go_wp2_with (at_builtin; refine append_one W _ rfl _ _ 103 rfl 9 (.string ⟨#[]⟩) 1 16 Tryz.underlying103 info_str rfl (by omega) _ _ _ rfl HO.out _ _ _ rfl rfl (by simp [Value.oneCell']) (by omega) (by omega) HX.out ?_; intro v1 w4 ho1 hx1 hkp; have HKP := Hid.mk hkp; clear hkp; have HO1 := Hid.mk ho1; have HX1 := Hid.mk hx1; clear ho1 hx1)
            go_roundg q0
            case measure => omega
            case rel =>
              have hlr : (d10 r.toNat).length ≤ 9 := by rw [← HSL.out]; exact hs9
              have hrp : 0 < r := by omega
              refine ⟨gs ++ [s], qv, some ⟨wr.heap.size, 0, none⟩, k', d', D ++ d10 r.toNat, ?_, rfl, ?_, by have := HKZ.out.2 hq00; omega, group_bytes HBY.out (by rw [HS.out, d10_bytes]), HD.out.append (d10_dig _), ?_, fun h => by omega, ?_, ?_, fun _ => ⟨norm_append (d10_norm _ (by omega)) (d10_ne _), by simp⟩, by have := HQ.out; omega, HX1.out⟩
              · have := HO1.out
                rw [List.length_append, List.length_singleton]
                simpa using this
              · rcases HB1.out with h | h
                · exact HQ1.out.kept (HKP.out wr.heap.size h HFR.out)
                · exact HQ1.out.none h
              · rw [hq00, group_last HV.out (by rw [d10_val]; omega)]; omega
              · rw [List.length_append, List.length_singleton]; omega
              · rw [List.length_append]; omega
      · obtain rfl : k = 0 := by omega
        have hy00 : y = 0 := hyz.1 rfl
        obtain ⟨hnm, hgs⟩ := HNM.out hy00
        go_wp2_with fail
        refine (reverse_at W _ _ gs hgs HO.out HX.out (by omega)).mono ?_
        rintro e w1 ⟨rfl, hx1, g, cap, rfl, hcap, hgl2, hcells⟩
        have hX1 := Hid.mk hx1
        have C1 := Hid.mk (hx1.cell C0.out)
        have hj := join_at w1 g cap gs.reverse hcells hgl2 (by rw [List.length_reverse]; omega) (by rw [List.length_reverse]; exact hcap) (by rw [HBY.out]; simp; omega)
        rw [List.length_reverse] at hj
        have HJ := Hid.mk hj
        clear hj hcells hx1
        go_wp2_with fail
        refine HJ.out.mono ?_
        rintro e w2 ⟨⟨v, rfl, s, rfl, hs, hsz⟩, hx2⟩
        have c2 := hx2.cell C1.out
        have hX2 := Hid.mk (HXW.out.trans (hX1.out.trans hx2))
        have hDv : val 10 D = m := by
          have := HV.out
          rw [hy00] at this
          simpa using this
        have hDne : D ≠ [] := by
          intro h
          rw [h] at hDv
          simp [val] at hDv
          omega
        have hsD : s.data.toList = D.reverse.map dby := by rw [hs, HBY.out]
        clear hx2 hs
        cases neg with
        | true =>
          have HF : Hid (Txt (⟨#[45]⟩ ++ s) x) := by
            refine ⟨true, D, ⟨HD.out, hnm⟩, fun h => absurd h hDne, ?_, ?_⟩
            · rw [txt, if_neg hDne, if_pos rfl, ← hsD]; simp
            · rw [HXX.out, hDv]
          clear HV hDv hsD hyz hnz hk hkn hy00 hy0 hnm hgs hDne HO HY HJ HBY HD HNM HL
          go_wp2_with fail
          go_ret
          exact ⟨⟨_, rfl, _, rfl, HF.out, by rw [ByteArray.size_append]; have : (⟨#[45]⟩ : ByteArray).size = 1 := rfl; omega⟩, hX2.out⟩
        | false =>
          have HF : Hid (Txt s x) := by
            refine ⟨false, D, ⟨HD.out, hnm⟩, fun _ => rfl, ?_, ?_⟩
            · rw [txt, if_neg hDne, if_neg (by simp), ← hsD]; simp
            · rw [HXX.out, hDv]
          clear HV hDv hsD hyz hnz hk hkn hy00 hy0 hnm hgs hDne HO HY HJ HBY HD HNM HL
          go_wp2_with fail
          go_ret
          exact ⟨⟨_, rfl, _, rfl, HF.out, by omega⟩, hX2.out⟩
end Go.Proofs.YtdgeodnfacnnmaaGreatDoor

/- Contracts of the shelf at this translation, in plain words (written by the shelf's own tool). -/
set_option linter.unusedVariables false
set_option linter.unusedSimpArgs false
namespace Go.Proofs
open Go.Shelf
def Tryz.lays160_ren : Go.Shelf.Ren := ⟨fun | 160 => 111 | 232 => 128 | 231 => 127 | 227 => 129 | 234 => 131 | 233 => 130 | 236 => 133 | 235 => 132 | 228 => 147 | 271 => 150 | 151 => 149 | 197 => 148 | 120 => 163 | 152 => 162 | 260 => 161 | 137 => 173 | 119 => 174 | 224 => 159 | 225 => 158 | 217 => 157 | 266 => 171 | n => n, fun | 9 => 9 | 4 => 4 | 3 => 3 | 5 => 5 | 117 => 171 | 116 => 170 | 0 => 0 | 124 => 174 | 21 => 21 | 105 => 190 | 46 => 124 | 119 => 206 | 139 => 209 | 138 => 208 | n => n, fun | 3 => 4 | 4 => 5 | n => n⟩
theorem Tryz.lays160 : Go.Proofs.Lays.n160 Tryz.prog Tryz.lays160_ren := {
  mixed := by kernel_rfl
  f119 := Tryz.func174.trans (congrArg some (by kernel_rfl))
  f120 := Tryz.func163.trans (congrArg some (by kernel_rfl))
  f137 := Tryz.func173.trans (congrArg some (by kernel_rfl))
  f151 := Tryz.func149.trans (congrArg some (by kernel_rfl))
  f152 := Tryz.func162.trans (congrArg some (by kernel_rfl))
  f160 := Tryz.func111.trans (congrArg some (by kernel_rfl))
  f197 := Tryz.func148.trans (congrArg some (by kernel_rfl))
  f217 := Tryz.func157.trans (congrArg some (by kernel_rfl))
  f224 := Tryz.func159.trans (congrArg some (by kernel_rfl))
  f225 := Tryz.func158.trans (congrArg some (by kernel_rfl))
  f227 := Tryz.func129.trans (congrArg some (by kernel_rfl))
  f228 := Tryz.func147.trans (congrArg some (by kernel_rfl))
  f231 := Tryz.func127.trans (congrArg some (by kernel_rfl))
  f232 := Tryz.func128.trans (congrArg some (by kernel_rfl))
  f233 := Tryz.func130.trans (congrArg some (by kernel_rfl))
  f234 := Tryz.func131.trans (congrArg some (by kernel_rfl))
  f235 := Tryz.func132.trans (congrArg some (by kernel_rfl))
  f236 := Tryz.func133.trans (congrArg some (by kernel_rfl))
  f260 := Tryz.func161.trans (congrArg some (by kernel_rfl))
  f266 := Tryz.func171.trans (congrArg some (by kernel_rfl))
  f271 := Tryz.func150.trans (congrArg some (by kernel_rfl))
  t0 := Tryz.underlying0
  a0 := Tryz.isAgg0
  z0 := Tryz.sizeOf0
  v0 := Tryz.zeroValue0
  t3 := Tryz.underlying3
  a3 := Tryz.isAgg3
  z3 := Tryz.sizeOf3
  v3 := Tryz.zeroValue3
  t4 := Tryz.underlying4
  a4 := Tryz.isAgg4
  z4 := Tryz.sizeOf4
  v4 := Tryz.zeroValue4
  t5 := Tryz.underlying5
  a5 := Tryz.isAgg5
  z5 := Tryz.sizeOf5
  v5 := Tryz.zeroValue5
  t9 := Tryz.underlying9
  a9 := Tryz.isAgg9
  z9 := Tryz.sizeOf9
  v9 := Tryz.zeroValue9
  t21 := Tryz.underlying21
  a21 := Tryz.isAgg21
  z21 := Tryz.sizeOf21
  v21 := Tryz.zeroValue21
  t46 := Tryz.underlying124
  a46 := Tryz.isAgg124
  z46 := Tryz.sizeOf124
  v46 := Tryz.zeroValue124
  t105 := Tryz.underlying190
  a105 := Tryz.isAgg190
  z105 := Tryz.sizeOf190
  v105 := Tryz.zeroValue190
  t116 := Tryz.underlying170
  a116 := Tryz.isAgg170
  z116 := Tryz.sizeOf170
  t117 := Tryz.underlying171
  a117 := Tryz.isAgg171
  z117 := Tryz.sizeOf171
  v117 := Tryz.zeroValue171
  t119 := Tryz.underlying206
  a119 := Tryz.isAgg206
  z119 := Tryz.sizeOf206
  t124 := Tryz.underlying174
  a124 := Tryz.isAgg174
  z124 := Tryz.sizeOf174
  v124 := Tryz.zeroValue174
  t138 := Tryz.underlying208
  a138 := Tryz.isAgg208
  z138 := Tryz.sizeOf208
  v138 := Tryz.zeroValue208
  t139 := Tryz.underlying209
  a139 := Tryz.isAgg209
  z139 := Tryz.sizeOf209
  v139 := Tryz.zeroValue209
  g3 := by kernel_rfl
  g4 := by kernel_rfl }
open Go.RowKit in
theorem Tryz.strings_Trim_one (s : ByteArray) (c : UInt8) (hc : c.toNat < 128) (w : World) (hs : s.size ≤ 9223372036854775807) :
    Calls Tryz.prog 111 #[.string s, .string ⟨#[c]⟩] w fun e w' => e = .returned (.string ⟨(Lib.trimB s.data.toList c).toArray⟩) ∧ (w' = w ∨ w' = w.drew) := Any.strings_Trim_one Tryz.lays160 s c hc w hs
def Tryz.lays103_ren : Go.Shelf.Ren := ⟨fun | 103 => 134 | 210 => 151 | 206 => 102 | n => n, fun | 9 => 9 | 4 => 4 | 24 => 175 | 3 => 3 | n => n, fun | n => n⟩
theorem Tryz.lays103 : Go.Proofs.Lays.n103 Tryz.prog Tryz.lays103_ren := {
  mixed := by kernel_rfl
  f103 := Tryz.func134.trans (congrArg some (by kernel_rfl))
  f206 := Tryz.func102.trans (congrArg some (by kernel_rfl))
  f210 := Tryz.func151.trans (congrArg some (by kernel_rfl))
  t3 := Tryz.underlying3
  a3 := Tryz.isAgg3
  z3 := Tryz.sizeOf3
  v3 := Tryz.zeroValue3
  t4 := Tryz.underlying4
  a4 := Tryz.isAgg4
  z4 := Tryz.sizeOf4
  v4 := Tryz.zeroValue4
  t9 := Tryz.underlying9
  a9 := Tryz.isAgg9
  z9 := Tryz.sizeOf9
  v9 := Tryz.zeroValue9
  t24 := Tryz.underlying175
  a24 := Tryz.isAgg175
  z24 := Tryz.sizeOf175
  v24 := Tryz.zeroValue175 }
open Go.RowKit in
theorem Tryz.strings_CutPrefix (s p : ByteArray) (w : World) :
    Calls Tryz.prog 134 #[.string s, .string p] w fun e w' => e = .returned (.tuple #[.string ⟨(Lib.trimPrefix s.data.toList p.data.toList).toArray⟩, .bool (Lib.hasPrefix s.data.toList p.data.toList)]) ∧ w' = w := Any.strings_CutPrefix Tryz.lays103 s p w
def Tryz.laysPu14_ren : Go.Shelf.Ren := ⟨fun | 14 => 137 | 16 => 153 | 17 => 154 | 19 => 165 | 20 => 166 | 21 => 167 | 22 => 168 | 23 => 169 | 24 => 170 | 25 => 175 | 27 => 63 | 26 => 176 | 28 => 86 | 29 => 99 | 30 => 113 | 31 => 114 | 32 => 115 | 33 => 116 | 35 => 140 | 34 => 139 | 36 => 141 | 37 => 142 | 38 => 143 | 39 => 155 | 40 => 156 | n => n, fun | 9 => 9 | 3 => 3 | 22 => 122 | 24 => 136 | 25 => 179 | 4 => 4 | 34 => 198 | 5 => 5 | 36 => 124 | 37 => 131 | 0 => 0 | 39 => 200 | 21 => 21 | 44 => 211 | 47 => 148 | 50 => 215 | 48 => 213 | 2 => 2 | 52 => 156 | 55 => 159 | 59 => 184 | 60 => 104 | 20 => 20 | 61 => 185 | 65 => 203 | 66 => 204 | 67 => 83 | n => n, fun | 0 => 6 | 1 => 7 | 2 => 0 | 3 => 2 | 4 => 3 | n => n⟩
theorem Tryz.laysPu14 : Go.Proofs.LaysPu.n14 Tryz.prog Tryz.laysPu14_ren := {
  mixed := by kernel_rfl
  f14 := Tryz.func137.trans (congrArg some (by kernel_rfl))
  f16 := Tryz.func153.trans (congrArg some (by kernel_rfl))
  f17 := Tryz.func154.trans (congrArg some (by kernel_rfl))
  f19 := Tryz.func165.trans (congrArg some (by kernel_rfl))
  f20 := Tryz.func166.trans (congrArg some (by kernel_rfl))
  f21 := Tryz.func167.trans (congrArg some (by kernel_rfl))
  f22 := Tryz.func168.trans (congrArg some (by kernel_rfl))
  f23 := Tryz.func169.trans (congrArg some (by kernel_rfl))
  f24 := Tryz.func170.trans (congrArg some (by kernel_rfl))
  f25 := Tryz.func175.trans (congrArg some (by kernel_rfl))
  f26 := Tryz.func176.trans (congrArg some (by kernel_rfl))
  f27 := Tryz.func63.trans (congrArg some (by kernel_rfl))
  f28 := Tryz.func86.trans (congrArg some (by kernel_rfl))
  f29 := Tryz.func99.trans (congrArg some (by kernel_rfl))
  f30 := Tryz.func113.trans (congrArg some (by kernel_rfl))
  f31 := Tryz.func114.trans (congrArg some (by kernel_rfl))
  f32 := Tryz.func115.trans (congrArg some (by kernel_rfl))
  f33 := Tryz.func116.trans (congrArg some (by kernel_rfl))
  f34 := Tryz.func139.trans (congrArg some (by kernel_rfl))
  f35 := Tryz.func140.trans (congrArg some (by kernel_rfl))
  f36 := Tryz.func141.trans (congrArg some (by kernel_rfl))
  f37 := Tryz.func142.trans (congrArg some (by kernel_rfl))
  f38 := Tryz.func143.trans (congrArg some (by kernel_rfl))
  f39 := Tryz.func155.trans (congrArg some (by kernel_rfl))
  f40 := Tryz.func156.trans (congrArg some (by kernel_rfl))
  t0 := Tryz.underlying0
  a0 := Tryz.isAgg0
  z0 := Tryz.sizeOf0
  v0 := Tryz.zeroValue0
  i0 := by kernel_rfl
  t2 := Tryz.underlying2
  a2 := Tryz.isAgg2
  z2 := Tryz.sizeOf2
  v2 := Tryz.zeroValue2
  i2 := by kernel_rfl
  t3 := Tryz.underlying3
  a3 := Tryz.isAgg3
  z3 := Tryz.sizeOf3
  v3 := Tryz.zeroValue3
  i3 := by kernel_rfl
  t4 := Tryz.underlying4
  a4 := Tryz.isAgg4
  z4 := Tryz.sizeOf4
  v4 := Tryz.zeroValue4
  i4 := by kernel_rfl
  t5 := Tryz.underlying5
  a5 := Tryz.isAgg5
  z5 := Tryz.sizeOf5
  v5 := Tryz.zeroValue5
  i5 := by kernel_rfl
  t9 := Tryz.underlying9
  a9 := Tryz.isAgg9
  z9 := Tryz.sizeOf9
  v9 := Tryz.zeroValue9
  i9 := by kernel_rfl
  t20 := Tryz.underlying20
  a20 := Tryz.isAgg20
  z20 := Tryz.sizeOf20
  v20 := Tryz.zeroValue20
  i20 := by kernel_rfl
  t21 := Tryz.underlying21
  a21 := Tryz.isAgg21
  z21 := Tryz.sizeOf21
  v21 := Tryz.zeroValue21
  i21 := by kernel_rfl
  t22 := Tryz.underlying122
  a22 := Tryz.isAgg122
  z22 := Tryz.sizeOf122
  v22 := Tryz.zeroValue122
  i22 := by kernel_rfl
  t24 := Tryz.underlying136
  a24 := Tryz.isAgg136
  z24 := Tryz.sizeOf136
  v24 := Tryz.zeroValue136
  i24 := by kernel_rfl
  t25 := Tryz.underlying179
  a25 := Tryz.isAgg179
  z25 := Tryz.sizeOf179
  v25 := Tryz.zeroValue179
  i25 := by kernel_rfl
  t34 := Tryz.underlying198
  a34 := Tryz.isAgg198
  z34 := Tryz.sizeOf198
  v34 := Tryz.zeroValue198
  i34 := by kernel_rfl
  c34 := by kernel_rfl
  t36 := Tryz.underlying124
  a36 := Tryz.isAgg124
  z36 := Tryz.sizeOf124
  v36 := Tryz.zeroValue124
  i36 := by kernel_rfl
  t37 := Tryz.underlying131
  a37 := Tryz.isAgg131
  z37 := Tryz.sizeOf131
  v37 := Tryz.zeroValue131
  i37 := by kernel_rfl
  t39 := Tryz.underlying200
  a39 := Tryz.isAgg200
  z39 := Tryz.sizeOf200
  v39 := Tryz.zeroValue200
  i39 := by kernel_rfl
  t44 := Tryz.underlying211
  a44 := Tryz.isAgg211
  z44 := Tryz.sizeOf211
  v44 := Tryz.zeroValue211
  i44 := by kernel_rfl
  t47 := Tryz.underlying148
  a47 := Tryz.isAgg148
  z47 := Tryz.sizeOf148
  v47 := Tryz.zeroValue148
  i47 := by kernel_rfl
  t48 := Tryz.underlying213
  a48 := Tryz.isAgg213
  z48 := Tryz.sizeOf213
  v48 := Tryz.zeroValue213
  i48 := by kernel_rfl
  t50 := Tryz.underlying215
  a50 := Tryz.isAgg215
  z50 := Tryz.sizeOf215
  v50 := Tryz.zeroValue215
  i50 := by kernel_rfl
  t52 := Tryz.underlying156
  a52 := Tryz.isAgg156
  z52 := Tryz.sizeOf156
  v52 := Tryz.zeroValue156
  i52 := by kernel_rfl
  t55 := Tryz.underlying159
  a55 := Tryz.isAgg159
  z55 := Tryz.sizeOf159
  v55 := Tryz.zeroValue159
  i55 := by kernel_rfl
  t59 := Tryz.underlying184
  a59 := Tryz.isAgg184
  z59 := Tryz.sizeOf184
  v59 := Tryz.zeroValue184
  i59 := by kernel_rfl
  t60 := Tryz.underlying104
  a60 := Tryz.isAgg104
  z60 := Tryz.sizeOf104
  v60 := Tryz.zeroValue104
  i60 := by kernel_rfl
  t61 := Tryz.underlying185
  a61 := Tryz.isAgg185
  z61 := Tryz.sizeOf185
  t65 := Tryz.underlying203
  a65 := Tryz.isAgg203
  z65 := Tryz.sizeOf203
  v65 := Tryz.zeroValue203
  i65 := by kernel_rfl
  t66 := Tryz.underlying204
  a66 := Tryz.isAgg204
  z66 := Tryz.sizeOf204
  v66 := Tryz.zeroValue204
  i66 := by kernel_rfl
  t67 := Tryz.underlying83
  a67 := Tryz.isAgg83
  z67 := Tryz.sizeOf83
  v67 := Tryz.zeroValue83
  i67 := by kernel_rfl
  g0 := by kernel_rfl
  m0 := by kernel_rfl
  g1 := by kernel_rfl
  m1 := by kernel_rfl
  g2 := by kernel_rfl
  m2 := by kernel_rfl
  g3 := by kernel_rfl
  m3 := by kernel_rfl
  g4 := by kernel_rfl
  m4 := by kernel_rfl }
open Go.RowKit in
theorem Tryz.strconv_ParseUint_10_at32_ok (s : ByteArray) (hmax : s.size ≤ 9223372036854775806) (u : Nat) (h : Lib.parseUintB 32 s.data.toList = .ok u) (w : World) :
    Calls Tryz.prog 137 #[.string s, .int .i64 10, .int .i64 32] w fun e w' => e = .returned (.tuple #[.int .u64 u, .nilIface]) ∧ (w' = w ∨ w' = Lib.bytesWorld w 5 s) := Any.strconv_ParseUint_10_at32_ok Tryz.laysPu14 s hmax u h w
def Tryz.lays145_ren : Go.Shelf.Ren := ⟨fun | 145 => 108 | 220 => 125 | 219 => 146 | 217 => 157 | 225 => 158 | 224 => 159 | 267 => 160 | 266 => 171 | 314 => 172 | n => n, fun | 9 => 9 | 4 => 4 | 59 => 151 | 3 => 3 | 5 => 5 | 46 => 124 | 146 => 144 | 51 => 104 | n => n, fun | 1 => 1 | n => n⟩
theorem Tryz.lays145 : Go.Proofs.Lays.n145 Tryz.prog Tryz.lays145_ren := {
  mixed := by kernel_rfl
  f145 := Tryz.func108.trans (congrArg some (by kernel_rfl))
  f217 := Tryz.func157.trans (congrArg some (by kernel_rfl))
  f219 := Tryz.func146.trans (congrArg some (by kernel_rfl))
  f220 := Tryz.func125.trans (congrArg some (by kernel_rfl))
  f224 := Tryz.func159.trans (congrArg some (by kernel_rfl))
  f225 := Tryz.func158.trans (congrArg some (by kernel_rfl))
  f266 := Tryz.func171.trans (congrArg some (by kernel_rfl))
  f267 := Tryz.func160.trans (congrArg some (by kernel_rfl))
  f314 := Tryz.func172.trans (congrArg some (by kernel_rfl))
  t3 := Tryz.underlying3
  a3 := Tryz.isAgg3
  z3 := Tryz.sizeOf3
  v3 := Tryz.zeroValue3
  t4 := Tryz.underlying4
  a4 := Tryz.isAgg4
  z4 := Tryz.sizeOf4
  v4 := Tryz.zeroValue4
  t5 := Tryz.underlying5
  a5 := Tryz.isAgg5
  z5 := Tryz.sizeOf5
  v5 := Tryz.zeroValue5
  t9 := Tryz.underlying9
  a9 := Tryz.isAgg9
  z9 := Tryz.sizeOf9
  v9 := Tryz.zeroValue9
  t46 := Tryz.underlying124
  a46 := Tryz.isAgg124
  z46 := Tryz.sizeOf124
  v46 := Tryz.zeroValue124
  t51 := Tryz.underlying104
  a51 := Tryz.isAgg104
  z51 := Tryz.sizeOf104
  v51 := Tryz.zeroValue104
  t59 := Tryz.underlying151
  a59 := Tryz.isAgg151
  z59 := Tryz.sizeOf151
  v59 := Tryz.zeroValue151
  t146 := Tryz.underlying144
  a146 := Tryz.isAgg144
  z146 := Tryz.sizeOf144
  v146 := Tryz.zeroValue144
  g1 := by kernel_rfl }
open Go.RowKit Go.Lib in
theorem Tryz.strings_Cut (s sep : ByteArray) (m : Int) (w : World) (hs : s.size < 4294967281) (hm : w.cell? ⟨1, 0, none⟩ = some (.int .i64 m)) :
    Calls Tryz.prog 108 #[.string s, .string sep] w fun e w' => e = .returned (.tuple #[.string ⟨(Lib.cut s.data.toList sep.data.toList).1.toArray⟩, .string ⟨(Lib.cut s.data.toList sep.data.toList).2.1.toArray⟩, .bool (Lib.cut s.data.toList sep.data.toList).2.2]) ∧ ∃ n, w' = w.drewN n := Any.strings_Cut Tryz.lays145 s sep m w hs hm
def Tryz.laysGw17_ren : Go.Shelf.Ren := ⟨fun | 17 => 135 | 15 => 152 | 20 => 164 | n => n, fun | 9 => 9 | 23 => 178 | 4 => 4 | 3 => 3 | 0 => 0 | 21 => 21 | n => n, fun | n => n⟩
theorem Tryz.laysGw17 : Go.Proofs.LaysGw.n17 Tryz.prog Tryz.laysGw17_ren := {
  mixed := by kernel_rfl
  f15 := Tryz.func152.trans (congrArg some (by kernel_rfl))
  f17 := Tryz.func135.trans (congrArg some (by kernel_rfl))
  f20 := Tryz.func164.trans (congrArg some (by kernel_rfl))
  t0 := Tryz.underlying0
  a0 := Tryz.isAgg0
  z0 := Tryz.sizeOf0
  v0 := Tryz.zeroValue0
  i0 := by kernel_rfl
  t3 := Tryz.underlying3
  a3 := Tryz.isAgg3
  z3 := Tryz.sizeOf3
  v3 := Tryz.zeroValue3
  i3 := by kernel_rfl
  t4 := Tryz.underlying4
  a4 := Tryz.isAgg4
  z4 := Tryz.sizeOf4
  v4 := Tryz.zeroValue4
  i4 := by kernel_rfl
  t9 := Tryz.underlying9
  a9 := Tryz.isAgg9
  z9 := Tryz.sizeOf9
  v9 := Tryz.zeroValue9
  i9 := by kernel_rfl
  t21 := Tryz.underlying21
  a21 := Tryz.isAgg21
  z21 := Tryz.sizeOf21
  v21 := Tryz.zeroValue21
  i21 := by kernel_rfl
  t23 := Tryz.underlying178
  a23 := Tryz.isAgg178
  z23 := Tryz.sizeOf178
  v23 := Tryz.zeroValue178
  i23 := by kernel_rfl }
def Tryz.lays101_ren : Go.Shelf.Ren := ⟨fun | 101 => 110 | 208 => 126 | 206 => 102 | n => n, fun | 9 => 9 | 4 => 4 | 3 => 3 | n => n, fun | n => n⟩
theorem Tryz.lays101 : Go.Proofs.Lays.n101 Tryz.prog Tryz.lays101_ren := {
  mixed := by kernel_rfl
  f101 := Tryz.func110.trans (congrArg some (by kernel_rfl))
  f206 := Tryz.func102.trans (congrArg some (by kernel_rfl))
  f208 := Tryz.func126.trans (congrArg some (by kernel_rfl))
  t3 := Tryz.underlying3
  a3 := Tryz.isAgg3
  z3 := Tryz.sizeOf3
  v3 := Tryz.zeroValue3
  t4 := Tryz.underlying4
  a4 := Tryz.isAgg4
  z4 := Tryz.sizeOf4
  v4 := Tryz.zeroValue4
  t9 := Tryz.underlying9
  a9 := Tryz.isAgg9
  z9 := Tryz.sizeOf9
  v9 := Tryz.zeroValue9 }
open Go.RowKit Go.Lib in
theorem Tryz.strings_TrimPrefix (s p : ByteArray) (w : World) :
    Calls Tryz.prog 110 #[.string s, .string p] w fun e w' => e = .returned (.string ⟨(Lib.trimPrefix s.data.toList p.data.toList).toArray⟩) ∧ w' = w := Any.strings_TrimPrefix Tryz.lays101 s p w
def Tryz.lays227_ren : Go.Shelf.Ren := ⟨fun | 227 => 129 | n => n, fun | 9 => 9 | 116 => 170 | 4 => 4 | 0 => 0 | 3 => 3 | 5 => 5 | n => n, fun | n => n⟩
theorem Tryz.lays227 : Go.Proofs.Lays.n227 Tryz.prog Tryz.lays227_ren := {
  mixed := by kernel_rfl
  f227 := Tryz.func129.trans (congrArg some (by kernel_rfl))
  t0 := Tryz.underlying0
  a0 := Tryz.isAgg0
  z0 := Tryz.sizeOf0
  v0 := Tryz.zeroValue0
  t3 := Tryz.underlying3
  a3 := Tryz.isAgg3
  z3 := Tryz.sizeOf3
  v3 := Tryz.zeroValue3
  t4 := Tryz.underlying4
  a4 := Tryz.isAgg4
  z4 := Tryz.sizeOf4
  v4 := Tryz.zeroValue4
  t5 := Tryz.underlying5
  a5 := Tryz.isAgg5
  z5 := Tryz.sizeOf5
  v5 := Tryz.zeroValue5
  t9 := Tryz.underlying9
  a9 := Tryz.isAgg9
  z9 := Tryz.sizeOf9
  v9 := Tryz.zeroValue9
  t116 := Tryz.underlying170
  a116 := Tryz.isAgg170
  z116 := Tryz.sizeOf170 }
open Go.RowKit Go.Lib in
theorem Tryz.strings_makeASCIISet (hv116 : ∀ w, (zeroValue 170).run Tryz.prog w = .ok (.agg (Array.replicate 256 (.bool false))) w) (chars : ByteArray) (w : World) (hs : chars.size < 4294967281) (hascii : ∀ (j : Nat) b, chars.data.toList[j]? = some b → b.toNat < 128) :
    Calls Tryz.prog 129 #[.string chars] w fun e w' => e = .returned (.tuple #[.agg (Lib.setCells chars.data.toList), .bool true]) ∧ w' = w.alloc (.cells (Lib.setCells chars.data.toList) 170) := Any.strings_makeASCIISet Tryz.lays227 hv116 (by kernel_rfl) chars w hs hascii
def Tryz.lays228_ren : Go.Shelf.Ren := ⟨fun | 228 => 147 | n => n, fun | 124 => 174 | 5 => 5 | 4 => 4 | 0 => 0 | 116 => 170 | n => n, fun | n => n⟩
theorem Tryz.lays228 : Go.Proofs.Lays.n228 Tryz.prog Tryz.lays228_ren := {
  mixed := by kernel_rfl
  f228 := Tryz.func147.trans (congrArg some (by kernel_rfl))
  t0 := Tryz.underlying0
  a0 := Tryz.isAgg0
  z0 := Tryz.sizeOf0
  v0 := Tryz.zeroValue0
  t4 := Tryz.underlying4
  a4 := Tryz.isAgg4
  z4 := Tryz.sizeOf4
  v4 := Tryz.zeroValue4
  t5 := Tryz.underlying5
  a5 := Tryz.isAgg5
  z5 := Tryz.sizeOf5
  v5 := Tryz.zeroValue5
  t116 := Tryz.underlying170
  a116 := Tryz.isAgg170
  z116 := Tryz.sizeOf170
  t124 := Tryz.underlying174
  a124 := Tryz.isAgg174
  z124 := Tryz.sizeOf174
  v124 := Tryz.zeroValue174 }
open Go.RowKit Go.Lib in
theorem Tryz.asciiSet_contains (b : Nat) (x : UInt8) (v : Bool) (w : World) (hc : w.cell? ⟨b, x.toNat, none⟩ = some (.bool v)) :
    Calls Tryz.prog 147 #[.pointer (some ⟨b, 0, none⟩), .int .u8 x.toNat] w fun e w' => e = .returned (.bool v) ∧ w' = w := Any.asciiSet_contains Tryz.lays228 b x v w hc
open Go.RowKit Go.Lib in
theorem Tryz.strings_ContainsFunc_grows (g : Nat) (lb : Array Value) (eg : ∀ args w, (callFunc g args).run Tryz.prog w = .ok (.enter g args) w) (p : Nat → Bool) (s : ByteArray) (w : World) (hp : PredGrows Tryz.prog g lb p w) :
    Calls Tryz.prog 135 #[.string s, .func (.func g) #[] lb] w fun e w' => e = .returned (.bool (decide (0 ≤ Lib.idxFunc p true s))) ∧ Below w.heap.size w w' := Any.strings_ContainsFunc_grows Tryz.laysGw17 g lb eg p s w hp
def Tryz.lays107_ren : Go.Shelf.Ren := ⟨fun | 107 => 30 | 108 => 54 | n => n, fun | 28 => 30 | 3 => 3 | 4 => 4 | 0 => 0 | n => n, fun | n => n⟩
theorem Tryz.lays107 : Go.Proofs.Lays.n107 Tryz.prog Tryz.lays107_ren := {
  mixed := by kernel_rfl
  f107 := Tryz.func30.trans (congrArg some (by kernel_rfl))
  f108 := Tryz.func54.trans (congrArg some (by kernel_rfl))
  t0 := Tryz.underlying0
  a0 := Tryz.isAgg0
  z0 := Tryz.sizeOf0
  v0 := Tryz.zeroValue0
  t3 := Tryz.underlying3
  a3 := Tryz.isAgg3
  z3 := Tryz.sizeOf3
  v3 := Tryz.zeroValue3
  t4 := Tryz.underlying4
  a4 := Tryz.isAgg4
  z4 := Tryz.sizeOf4
  v4 := Tryz.zeroValue4
  t28 := Tryz.underlying30
  a28 := Tryz.isAgg30
  z28 := Tryz.sizeOf30
  v28 := Tryz.zeroValue30 }
open Go.Lib in
theorem Tryz.slices_Contains_int (b off n c : Nat) (zs : List Int) (x : Int) (w : World) (hz : n ≤ zs.length) (hbig : n ≤ 9223372036854775807) (hc : ∀ j, j < zs.length → w.cell? ⟨b, off + j, none⟩ = some (.int .i64 (zs.getD j 0))) :
    Calls Tryz.prog 30 #[.slice (some ⟨b, off, none⟩) n c, .int .i64 x] w fun e w' => e = .returned (.bool ((zs.take n).contains x)) ∧ w' = w := Any.slices_Contains_int Tryz.lays107 b off n c zs x w hz hbig hc
open Go.Lib in
theorem Tryz.slices_Contains_int_empty (a : Option Addr) (c : Nat) (x : Int) (w : World) :
    Calls Tryz.prog 30 #[.slice a 0 c, .int .i64 x] w fun e w' => e = .returned (.bool false) ∧ w' = w := Any.slices_Contains_int_empty Tryz.lays107 a c x w
end Go.Proofs

/- Texts of digits: what the library answers of them; rational.digits. -/
set_option linter.unusedVariables false
set_option linter.unusedSimpArgs false
namespace Go.Proofs.YtdgeodnfacnnmaaGreatDoor
open Go.RowKit
open DDig

/-- Digits and nothing else; the number of a text of digits, the highest first. -/
def AllD (l : List UInt8) : Prop := ∀ b ∈ l, 48 ≤ b.toNat ∧ b.toNat ≤ 57
def bstep (a : Nat) (c : UInt8) : Nat := a * 10 + (c.toNat - 48)
def bval (acc : Nat) (l : List UInt8) : Nat := l.foldl bstep acc
theorem bstep_eq (a : Nat) (c : UInt8) : bstep a c = a * 10 + (c.toNat - 48) := by unfold bstep; rfl
theorem bval_nil (a : Nat) : bval a [] = a := by unfold bval; rw [List.foldl_nil]
theorem bval_cons (a : Nat) (c : UInt8) (r : List UInt8) : bval a (c :: r) = bval (a * 10 + (c.toNat - 48)) r := by
  unfold bval; rw [List.foldl_cons, bstep_eq]
theorem bval_append (a : Nat) (p r : List UInt8) : bval a (p ++ r) = bval (bval a p) r := by
  unfold bval; rw [List.foldl_append]
theorem bval_shift (a : Nat) (r : List UInt8) : bval a r = a * 10 ^ r.length + bval 0 r := by
  induction r generalizing a with
  | nil =>
    have e1 : ∀ a, bval a [] = a := fun a => bval_nil a
    rw [e1, e1, List.length_nil, Nat.pow_zero, Nat.mul_one, Nat.add_zero]
  | cons c r ih =>
    have e1 := bval_cons a c r
    have e2 := bval_cons 0 c r
    rw [e1, e2, ih (a * 10 + (c.toNat - 48)), ih (0 * 10 + (c.toNat - 48)), List.length_cons, Nat.pow_succ]
    obtain ⟨q, hq⟩ : ∃ q, q = 10 ^ r.length := ⟨_, rfl⟩
    rw [← hq, Nat.add_mul, Nat.zero_mul, Nat.zero_add, Nat.mul_assoc, Nat.mul_comm q 10, Nat.add_assoc]
theorem parseUintM_step (M acc : Nat) (c : UInt8) (r : List UInt8) (hc : 48 ≤ c.toNat ∧ c.toNat ≤ 57) (s1 : ¬ 1844674407370955162 ≤ acc) (s2 : ¬ M < acc * 10 + (c.toNat - 48)) : Lib.parseUintM M acc (c :: r) = Lib.parseUintM M (acc * 10 + (c.toNat - 48)) r := by
  conv => lhs; unfold Lib.parseUintM
  simp only [hc, s1, s2, and_self, if_true, if_false]
theorem parseUintM_ok (M K : Nat) (hM : K ≤ M) (hK : K < 1844674407370955162) (l : List UInt8) : ∀ acc : Nat, AllD l → (acc + 1) * 10 ^ l.length ≤ K → Lib.parseUintM M acc l = .ok (bval acc l) := by
  induction l with
  | nil => intro acc _ _; rw [bval_nil]; rfl
  | cons c r ih =>
    intro acc h hb
    have hc := h c (by simp)
    obtain ⟨q, hq⟩ : ∃ q, q = 10 ^ r.length := ⟨_, rfl⟩
    have h2 : 0 < q := by rw [hq]; exact Nat.pow_pos (by omega)
    rw [List.length_cons, Nat.pow_succ, Nat.mul_comm (10 ^ r.length) 10, ← Nat.mul_assoc, ← hq] at hb
    have h1 : (acc * 10 + (c.toNat - 48) + 1) * q ≤ K := Nat.le_trans (Nat.mul_le_mul_right q (show acc * 10 + (c.toNat - 48) + 1 ≤ (acc + 1) * 10 by omega)) hb
    have h3 : acc * 10 + (c.toNat - 48) + 1 ≤ K := Nat.le_trans (Nat.le_mul_of_pos_right _ h2) h1
    have e := ih (acc * 10 + (c.toNat - 48)) (fun b hb => h b (by simp [hb])) (by rw [← hq]; exact h1)
    rw [parseUintM_step M acc c r hc (by omega) (by omega), e, bval_cons]
theorem parseUint_ok (l : List UInt8) (h : AllD l) (hl : l.length ≤ 9) (hne : l ≠ []) : Lib.parseUintB 32 l = .ok (bval 0 l) := by
  rw [Lib.parseUintB, if_neg hne]
  refine parseUintM_ok _ 1000000000 (by decide) (by decide) l 0 h ?_
  have : 10 ^ l.length ≤ 10 ^ 9 := Nat.pow_le_pow_right (by omega) hl
  omega
theorem bval_lt (l : List UInt8) (h : AllD l) : bval 0 l < 10 ^ l.length := by
  induction l with
  | nil =>
    have e1 : bval 0 [] = 0 := bval_nil 0
    rw [e1, List.length_nil, Nat.pow_zero]; omega
  | cons c r ih =>
    have hc := h c (by simp)
    have h1 := ih (fun b hb => h b (by simp [hb]))
    have e2 := bval_cons 0 c r
    rw [e2, bval_shift, List.length_cons, Nat.pow_succ]
    obtain ⟨q, hq⟩ : ∃ q, q = 10 ^ r.length := ⟨_, rfl⟩
    rw [← hq] at h1 ⊢
    have : (0 * 10 + (c.toNat - 48)) * q ≤ 9 * q := Nat.mul_le_mul_right _ (by omega)
    omega
theorem bval_digits {xs : List Int} (h : Dig 10 xs) : (bval 0 (xs.reverse.map dby) : Int) = val 10 xs := by
  induction xs with
  | nil => rw [List.reverse_nil, List.map_nil, bval_nil]; rfl
  | cons d xs ih =>
    have hd := h.head
    rw [List.reverse_cons, List.map_append, bval_append, List.map_cons, List.map_nil, bval_cons, bval_nil, val_cons, ← ih h.tail]
    have := dby_nat hd
    omega
theorem AllD.digits {xs : List Int} (h : Dig 10 xs) : AllD (xs.reverse.map dby) := by
  intro b hb
  simp only [List.mem_map, List.mem_reverse] at hb
  obtain ⟨d, hd, rfl⟩ := hb
  have := dby_nat (h d hd)
  have := h d hd
  omega
theorem dropWhile_all {p : UInt8 → Bool} {l : List UInt8} (h : ∀ b ∈ l, p b = true) : l.dropWhile p = [] := by
  induction l with
  | nil => rfl
  | cons c r ih =>
    rw [List.dropWhile_cons, if_pos (h c (by simp))]
    exact ih (fun b hb => h b (by simp [hb]))
theorem trimS_digits {l : List UInt8} (h : AllD l) : Lib.trimS l [48, 49, 50, 51, 52, 53, 54, 55, 56, 57] = [] := by
  have hc : ∀ b ∈ l, ([48, 49, 50, 51, 52, 53, 54, 55, 56, 57] : List UInt8).contains b = true := by
    intro b hb
    have hb' := h b hb
    have e : b = UInt8.ofNat b.toNat := by simp
    have : b.toNat = 48 ∨ b.toNat = 49 ∨ b.toNat = 50 ∨ b.toNat = 51 ∨ b.toNat = 52 ∨ b.toNat = 53 ∨ b.toNat = 54 ∨ b.toNat = 55 ∨ b.toNat = 56 ∨ b.toNat = 57 := by omega
    rcases this with h | h | h | h | h | h | h | h | h | h <;> (rw [e, h]; rfl)
  have : Lib.trimRightS l [48, 49, 50, 51, 52, 53, 54, 55, 56, 57] = [] := by
    unfold Lib.trimRightS
    rw [List.reverse_eq_nil_iff]
    exact dropWhile_all (fun b hb => hc b (by simpa using hb))
  rw [Lib.trimS, this]
  rfl
theorem idxFunc_digits {s : ByteArray} (h : AllD s.data.toList) : Lib.idxFunc (fun r => decide (r < 48 ∨ 57 < r)) true s = -1 := by
  have key : ∀ f pos, Lib.idxFuncFrom (fun r => decide (r < 48 ∨ 57 < r)) true s f pos = -1 := by
    intro f
    induction f with
    | zero => intro pos; rfl
    | succ f ih =>
      intro pos
      unfold Lib.idxFuncFrom
      by_cases hp : pos < s.size
      · have hb : 48 ≤ (s[pos]'hp).toNat ∧ (s[pos]'hp).toNat ≤ 57 := h _ (by
          rw [ByteArray.getElem_eq_getElem_data]
          exact Array.getElem_mem_toList _)
        rw [if_pos hp, decode_ascii s pos hp (by omega)]
        rw [if_neg (by simp; omega)]
        exact ih _
      · rw [if_neg hp]
  exact key _ _

theorem h170 : (Tryz.prog.info? 170).map (fun i => (i.zero, i.size)) = some (some (.agg (Array.replicate 256 (.bool false))), 256) := by kernel_rfl
theorem trim_digits (w : World) (s : ByteArray) (hs : s.size ≤ 9223372036854775807) (h : AllD s.data.toList) :
    Calls Tryz.prog 111 #[.string s, .string ⟨#[48, 49, 50, 51, 52, 53, 54, 55, 56, 57]⟩] w (Ret w fun w' v => v = .string ⟨#[]⟩) := by
  refine (Any.strings_Trim_laid Tryz.lays160 h170 s ⟨#[48, 49, 50, 51, 52, 53, 54, 55, 56, 57]⟩ w hs (by decide) (ascii_of_all (by decide))).mono ?_
  rintro e w' ⟨rfl, hx⟩
  refine ⟨⟨_, rfl, ?_⟩, hx⟩
  show Value.string ⟨(Lib.trimS s.data.toList [48, 49, 50, 51, 52, 53, 54, 55, 56, 57]).toArray⟩ = _
  rw [trimS_digits h]

theorem rat_digits (w : World) (s : ByteArray) (hs : s.size ≤ 9223372036854775807) (h0 : s.size ≠ 0) (h : AllD s.data.toList) :
    Calls Tryz.prog 109 #[.string s] w (Ret w fun w' v => v = .bool true) := by
  have H := Hid.mk h
  have hne : ¬ s.toList = [] := by
    rw [ByteArray.toList_eq]
    intro e
    apply h0
    have : s.data.toList.length = 0 := by rw [e]; rfl
    simpa using this
  have hne1 : (s.toList == []) = false := by simpa using hne
  have hne2 : (s.toList != []) = true := by simpa using hne
  have hne3 : s.toList.isEmpty = false := by simpa using hne
  clear h
  go_enter Tryz.func109, Tryz.ntmps109
  go_wp2_with fail
  refine (trim_digits _ s hs H.out).mono ?_
  rintro e w1 ⟨⟨v, rfl, rfl⟩, hx1⟩
  have HX := Hid.mk hx1
  clear hx1
  go_wp2
  go_ret
  exact ⟨⟨_, rfl, rfl⟩, HX.out⟩
end Go.Proofs.YtdgeodnfacnnmaaGreatDoor

/- Package integer: scale. -/
set_option linter.unusedVariables false
set_option linter.unusedSimpArgs false
namespace Go.Proofs.YtdgeodnfacnnmaaGreatDoor
open Go.RowKit
open DDig

theorem scale_step {p xs : List Int} {k : Nat} {cy by_ pl : Int} (hk : k < xs.length) (h : val B32 (xs.take k) + pw B32 k * cy = val B32 (p.take k) * by_ + pl) (s : Int) (hs : s = cy + p.getD k 0 * by_) :
    val B32 ((xs.set k (s % 4294967296)).take (k + 1)) + pw B32 (k + 1) * (s / 4294967296) = val B32 (p.take (k + 1)) * by_ + pl := by
  rw [val_take_set hk, val_take_next p, pw_succ]
  have e : s = s % 4294967296 + 4294967296 * (s / 4294967296) := by omega
  have e2 : pw B32 k * s = pw B32 k * (s % 4294967296) + B32 * pw B32 k * (s / 4294967296) := by
    conv => lhs; rw [e, Int.mul_add]
    rw [Int.mul_comm B32 (pw B32 k), Int.mul_assoc]
    rfl
  have e3 : pw B32 k * s = pw B32 k * cy + pw B32 k * p.getD k 0 * by_ := by rw [hs, Int.mul_add, ← Int.mul_assoc]
  rw [Int.add_mul]
  omega
theorem scale_bound {cy x b : Int} (h0 : 0 ≤ cy ∧ cy ≤ 4294967295) (h1 : 0 ≤ x ∧ x ≤ 4294967295) (h2 : 0 ≤ b ∧ b ≤ 4294967295) : 0 ≤ x * b ∧ x * b ≤ 18446744065119617025 ∧ 0 ≤ cy + x * b ∧ cy + x * b ≤ 18446744073709551615 ∧ 0 ≤ (cy + x * b) / 4294967296 ∧ (cy + x * b) / 4294967296 ≤ 4294967295 := by
  have g0 : 0 ≤ x * b := Int.mul_nonneg h1.1 h2.1
  have g1 : x * b ≤ 4294967295 * b := Int.mul_le_mul_of_nonneg_right h1.2 h2.1
  omega

set_option maxRecDepth 100000 in
set_option maxHeartbeats 1000000 in
theorem int_scale (w : World) (A : Option Addr) (n c : Nat) (x b pl : Int) (h0 : MagR w A n c x) (hn : n ≤ 1099511627776) (hb : 0 ≤ b ∧ b ≤ 4294967295) (hp : 0 ≤ pl ∧ pl ≤ 4294967295) :
    Calls Tryz.prog 138 #[.slice A n c, .int .u32 b, .int .u32 pl] w (Ret w fun w' v => ∃ A' n' c', v = .slice A' n' c' ∧ n' ≤ n + 1 ∧ MagR w' A' n' c' (x * b + pl)) := by
  obtain ⟨p, rfl, _, r0, i0, rfl⟩ := h0
  have HP := Hid.mk r0
  have DP := Hid.mk i0.1
  clear r0 i0
  go_enter Tryz.func138, Tryz.ntmps138
  go_wp2_with (at_make; refine make_blk _ rfl _ _ 47 rfl 104 (.int .u32 0) 4 Tryz.underlying47 info_u32 rfl .i64 .i64 _ _ (p.length + 1) rfl rfl (by omega) (by omega) (by omega) (by omega) ?_; intro w1 hblk hx1; have HB1 := Hid.mk hblk; have HX1 := Hid.mk hx1; clear hblk hx1)
  go_loopw [8, 19] (fun t8 t19 wr => ∃ k : Nat, ∃ xs : List Int, ∃ cy : Int, k ≤ p.length ∧ t19 = .int .i64 k ∧ t8 = .int .u64 cy ∧ 0 ≤ cy ∧ cy ≤ 4294967295 ∧ xs.length = p.length + 1 ∧ Dig B32 xs ∧ val B32 (xs.take k) + pw B32 k * cy = val B32 (p.take k) * b + pl ∧ Blk wr w.heap.size 104 (nums .u32 xs) ∧ X w wr) (fun _ i _ => p.length - (intOf i).toNat)
  case atStart => exact ⟨0, List.replicate (p.length + 1) 0, pl, Nat.zero_le _, rfl, rfl, hp.1, hp.2, by simp, Dig.replicate B32_pos _, by simp [val, pw], by rw [nums_zeros]; exact HB1.out, HX1.out⟩
  case round =>
    obtain ⟨k, xs, cy, hk, rfl, rfl, hc0, hc1, hxl, hd, hv, hbk, hx⟩ := hrel
    have HXL := Hid.mk hxl
    have HB := Hid.mk hbk
    have HX := Hid.mk hx
    have HD := Hid.mk hd
    have HVK := Hid.mk hv
    clear hxl hbk hx hd hv
    by_cases hlt : k < p.length
    · obtain ⟨bP, oP, rfl, gP⟩ := HP.out.2 (by omega)
      have e0 := HX.out.cell (gP k hlt)
      obtain ⟨x, hx⟩ : ∃ x, x = p.getD k 0 := ⟨_, rfl⟩
      rw [← hx] at e0
      have hxr : 0 ≤ x ∧ x ≤ 4294967295 := by rw [hx]; exact dig_le DP.out k
      have ⟨hx0, hx1⟩ := hxr
      have Hx := Hid.mk hx
      clear gP hx
      have ⟨q0, q1, q2, q3, q4, q5⟩ := scale_bound ⟨hc0, hc1⟩ hxr hb
      have eo := HB.out.int (j := k) (by have := HXL.out; omega)
      have ef := HB.out.frozen k
      have hk1 : (k : Int) < (p.length : Int) := by omega
      go_wp2
      go_roundw
      case rel => exact ⟨k + 1, xs.set k ((cy + x * b) % 4294967296), (cy + x * b) / 4294967296, by omega, by go_num, rfl, q4, q5, by rw [List.length_set]; exact HXL.out, HD.out.set k (by omega) (by unfold B32; omega), scale_step (by have := HXL.out; omega) HVK.out _ (by rw [Hx.out]), by rw [nums_set]; exact HB.out.set _ _, HX.out.set (p := ⟨w.heap.size, k, none⟩) (Nat.le_refl _) _⟩
      case measure => simp [intOf]; omega
    · obtain rfl : k = p.length := by omega
      have hl := HXL.out
      have eo := HB.out.int (j := p.length) (by omega)
      have ef := HB.out.frozen p.length
      have e1 := val_take_set (b := B32) (xs := xs) (k := p.length) (by omega) cy
      rw [List.take_of_length_le (by rw [List.length_set]; omega), HVK.out, List.take_length] at e1
      have HV2 := Hid.mk e1
      have hbk2 : Blk (wr.setCell ⟨w.heap.size, p.length, none⟩ (.int .u32 cy)) w.heap.size 104 (nums .u32 (xs.set p.length cy)) := by
        rw [nums_set]; exact HB.out.set _ _
      have hl2 : (xs.set p.length cy).length = p.length + 1 := by rw [List.length_set]; exact hl
      have hrd := Blk.rd (e := 104) hbk2 (by omega)
      have hd2 : Dig B32 (xs.set p.length cy) := HD.out.set _ hc0 (by unfold B32; omega)
      have P := int_trim (wr.setCell ⟨w.heap.size, p.length, none⟩ (.int .u32 cy)) (some ⟨w.heap.size, 0, none⟩) (p.length + 1) (xs.set p.length cy) (by omega) hrd
      rw [hl2] at P
      have HPP := Hid.mk P
      have HRD := Hid.mk hrd
      have HD2 := Hid.mk hd2
      have HXF : Hid (X w (wr.setCell ⟨w.heap.size, p.length, none⟩ (.int .u32 cy))) := HX.out.set (p := ⟨w.heap.size, p.length, none⟩) (Nat.le_refl _) _
      clear P hrd hd2 hbk2 e1
      go_wp2_with fail
      refine HPP.out.mono ?_
      rintro e w2 ⟨⟨v, rfl, rfl⟩, hx2⟩
      have hM := trim_mag (c := p.length + 1) (by omega) (HRD.out.x hx2) HD2.out
      rw [HV2.out] at hM
      have HM := Hid.mk hM
      have HX2 := Hid.mk (HXF.out.trans hx2)
      have htl := trim_length_le (xs.set p.length cy)
      rw [hl2] at htl
      obtain ⟨n', hn'⟩ : ∃ n', n' = (trim (xs.set p.length cy)).length := ⟨_, rfl⟩
      rw [← hn'] at HM htl ⊢
      clear hn' hM hx2 HPP HRD HD2 HXF HV2 eo ef
      go_wp2_with fail
      go_ret
      exact ⟨⟨_, rfl, _, _, _, rfl, htl, HM.out⟩, HX2.out⟩
end Go.Proofs.YtdgeodnfacnnmaaGreatDoor

/- Package integer: Parse of an integer's text. -/
set_option linter.unusedVariables false
set_option linter.unusedSimpArgs false
namespace Go.Proofs.YtdgeodnfacnnmaaGreatDoor
open Go.RowKit
open DDig

/-- A text of an integer: its sign, and its digits, the lowest first (one digit for 0). -/
theorem TxtL.split {bs : List UInt8} {z : Int} (h : TxtL bs z) : ∃ (neg : Bool) (D : List Int), Dig 10 D ∧ D ≠ [] ∧ bs = (if neg = true then [45] else []) ++ D.reverse.map dby ∧ z = (if neg = true then - val 10 D else val 10 D) ∧ ((D = [0] ∧ neg = false) ∨ ∃ E d, D = E ++ [d] ∧ 0 < d) := by
  obtain ⟨neg, xs, h1, h2, h3, h4⟩ := h
  by_cases hx : xs = []
  · have := h2 hx
    subst this
    subst hx
    exact ⟨false, [0], Dig.cons (by decide) (by decide) (Dig.nil _), by simp, by rw [h3]; rfl, by rw [h4]; rfl, Or.inl ⟨rfl, rfl⟩⟩
  · refine ⟨neg, xs, h1.1, hx, by rw [h3, txt, if_neg hx], h4, Or.inr ⟨xs.dropLast, xs.getLast hx, (List.dropLast_concat_getLast hx).symm, ?_⟩⟩
    have := h1.2 hx
    have := h1.1 _ (List.getLast_mem hx)
    omega
theorem hasPrefix_minus (t : List UInt8) : Lib.hasPrefix (45 :: t) [45] = true := by simp [Lib.hasPrefix]
theorem hasPrefix_other {b : UInt8} (r : List UInt8) (h : b ≠ 45) : Lib.hasPrefix (b :: r) [45] = false := by
  simp [Lib.hasPrefix, List.isPrefixOf]
  exact fun e => h e.symm
theorem AllD.ne {l : List UInt8} (h : AllD l) {b : UInt8} {r : List UInt8} (e : l = b :: r) : b ≠ 45 := by
  intro e2
  have := h b (by rw [e]; simp)
  rw [e2] at this
  have h2 : (45 : UInt8).toNat = 45 := rfl
  omega

theorem cutprefix_at (w : World) (s : ByteArray) (neg : Bool) (t : List UInt8) (hs : s.data.toList = (if neg = true then [45] else []) ++ t) (ht : AllD t) (h0 : t ≠ []) :
    Calls Tryz.prog 134 #[.string s, .string ⟨#[45]⟩] w (Ret w fun w' v => ∃ d : ByteArray, v = .tuple #[.string d, .bool neg] ∧ d.data.toList = t) := by
  refine (Tryz.strings_CutPrefix s ⟨#[45]⟩ w).mono ?_
  rintro e w' ⟨rfl, rfl⟩
  refine ⟨⟨_, rfl, ⟨t.toArray⟩, ?_, by simp⟩, X.refl _⟩
  show Value.tuple #[.string ⟨(Lib.trimPrefix s.data.toList [45]).toArray⟩, .bool (Lib.hasPrefix s.data.toList [45])] = _
  cases neg with
  | true =>
    have e : s.data.toList = 45 :: t := by rw [hs]; rfl
    rw [e, Lib.trimPrefix, hasPrefix_minus, if_pos rfl]
    rfl
  | false =>
    have e : s.data.toList = t := by rw [hs]; rfl
    obtain ⟨b, r, hbr⟩ : ∃ b r, t = b :: r := by cases t with
      | nil => exact absurd rfl h0
      | cons b r => exact ⟨b, r, rfl⟩
    rw [e, Lib.trimPrefix, hbr, hasPrefix_other r (ht.ne hbr), if_neg (by simp)]
theorem trimprefix_at (w : World) (s : ByteArray) (neg : Bool) (t : List UInt8) (hs : s.data.toList = (if neg = true then [45] else []) ++ t) (ht : AllD t) (h0 : t ≠ []) :
    Calls Tryz.prog 110 #[.string s, .string ⟨#[45]⟩] w (Ret w fun w' v => ∃ d : ByteArray, v = .string d ∧ d.data.toList = t) := by
  refine (Tryz.strings_TrimPrefix s ⟨#[45]⟩ w).mono ?_
  rintro e w' ⟨rfl, rfl⟩
  refine ⟨⟨_, rfl, ⟨t.toArray⟩, ?_, by simp⟩, X.refl _⟩
  show Value.string ⟨(Lib.trimPrefix s.data.toList [45]).toArray⟩ = _
  cases neg with
  | true =>
    have e : s.data.toList = 45 :: t := by rw [hs]; rfl
    rw [e, Lib.trimPrefix, hasPrefix_minus, if_pos rfl]
    rfl
  | false =>
    have e : s.data.toList = t := by rw [hs]; rfl
    obtain ⟨b, r, hbr⟩ : ∃ b r, t = b :: r := by cases t with
      | nil => exact absurd rfl h0
      | cons b r => exact ⟨b, r, rfl⟩
    rw [e, Lib.trimPrefix, hbr, hasPrefix_other r (ht.ne hbr), if_neg (by simp)]

theorem nodigit_fn (w : World) (r : Nat) : Calls Tryz.prog 136 #[.int .i32 r] w fun e w' => e = .returned (.bool (decide (r < 48 ∨ 57 < r))) ∧ RowKit.Below w.heap.size w w' := by
  by_cases h1 : r < 48
  · have h1' : (r : Int) < 48 := by omega
    have e : decide (r < 48 ∨ 57 < r) = true := by simp [h1]
    rw [e]
    go_enter Tryz.func136, Tryz.ntmps136
    go_wp2
    go_ret
    exact ⟨rfl, X.refl _⟩
  · have h1' : ¬ (r : Int) < 48 := by omega
    by_cases h2 : 57 < r
    · have h2' : (57 : Int) < (r : Int) := by omega
      have e : decide (r < 48 ∨ 57 < r) = true := by simp [h2]
      rw [e]
      go_enter Tryz.func136, Tryz.ntmps136
      go_wp2
      go_ret
      exact ⟨rfl, X.refl _⟩
    · have h2' : ¬ (57 : Int) < (r : Int) := by omega
      have e : decide (r < 48 ∨ 57 < r) = false := by simp; omega
      rw [e]
      go_enter Tryz.func136, Tryz.ntmps136
      go_wp2
      go_ret
      exact ⟨rfl, X.refl _⟩

theorem containsfunc_at (w : World) (s : ByteArray) (h : AllD s.data.toList) :
    Calls Tryz.prog 135 #[.string s, .func (.func 136) #[] #[]] w (Ret w fun w' v => v = .bool false) := by
  refine (Tryz.strings_ContainsFunc_grows 136 #[] (enters_of Tryz.func136 (by kernel_rfl) rfl) (fun r => decide (r < 48 ∨ 57 < r)) s w (fun W x _ _ => nodigit_fn W x)).mono ?_
  rintro e w' ⟨rfl, hx⟩
  exact ⟨⟨_, rfl, by rw [idxFunc_digits h]; rfl⟩, hx⟩

theorem parseuint_at (w : World) (s : ByteArray) (h : AllD s.data.toList) (h0 : s.data.toList ≠ []) (h9 : s.data.toList.length ≤ 9) :
    Calls Tryz.prog 137 #[.string s, .int .i64 10, .int .i64 32] w (Ret w fun w' v => v = .tuple #[.int .u64 (bval 0 s.data.toList), .nilIface]) := by
  refine (Tryz.strconv_ParseUint_10_at32_ok s (by have : s.size = s.data.toList.length := Lib.size_eq s; omega) (bval 0 s.data.toList) (parseUint_ok _ h h9 h0) w).mono ?_
  rintro e w' ⟨rfl, hw⟩
  refine ⟨⟨_, rfl, rfl⟩, ?_⟩
  rcases hw with rfl | rfl
  · exact X.refl _
  · exact Lib.bytesWorld_below _ _ _
end Go.Proofs.YtdgeodnfacnnmaaGreatDoor

/- Package integer: Parse of an integer's text, the walk. -/
set_option linter.unusedVariables false
set_option linter.unusedSimpArgs false
namespace Go.Proofs.YtdgeodnfacnnmaaGreatDoor
open Go.RowKit
open DDig

theorem dby_first {D : List Int} (hD : Dig 10 D) (h0 : D ≠ []) {d : ByteArray} (hd : d.data.toList = D.reverse.map dby) : ∃ E x, D = E ++ [x] ∧ 0 ≤ x ∧ x < 10 ∧ bty d 0 = 48 + x ∧ d.size = E.length + 1 := by
  refine ⟨D.dropLast, D.getLast h0, (List.dropLast_concat_getLast h0).symm, (hD _ (List.getLast_mem h0)).1, (hD _ (List.getLast_mem h0)).2, ?_, ?_⟩
  · unfold bty
    rw [hd]
    have e : D.reverse.map dby = dby (D.getLast h0) :: (D.dropLast.reverse.map dby) := by
      conv => lhs; rw [← List.dropLast_concat_getLast h0]
      simp
    rw [e]
    simp only [List.getD_cons_zero]
    exact dby_nat (hD _ (List.getLast_mem h0))
  · have e : d.size = d.data.toList.length := Lib.size_eq d
    rw [e, hd]
    have := List.length_pos_iff.2 h0
    simp; omega

theorem ext_take (s : ByteArray) (n : Nat) : (s.extract 0 n).data.toList = s.data.toList.take n := by
  rw [ByteArray.data_extract]
  simp [List.take_eq_take_iff]
theorem ext_drop (s : ByteArray) (n : Nat) : (s.extract n s.size).data.toList = s.data.toList.drop n := by
  rw [ByteArray.data_extract]
  simp only [Array.toList_extract, List.extract_eq_take_drop]
  rw [List.take_of_length_le]
  rw [List.length_drop]
  have : s.data.toList.length = s.size := (Lib.size_eq s).symm
  omega
theorem int_parse_groups {y u q : Int} {n m : Nat} {a b : Nat} (h : y * 10 ^ (n + m) + a * 10 ^ m + b = q) (hu : u = a) : (y * 10 ^ n + u) * 10 ^ m + b = q := by
  rw [hu, ← h, Int.pow_add, Int.add_mul, Int.mul_assoc]

set_option maxRecDepth 100000 in
set_option maxHeartbeats 4000000 in
theorem int_parse (w : World) (s : ByteArray) (z : Int) (h : Txt s z) (hs : s.size ≤ 65536) :
    Calls Tryz.prog 112 #[.string s] w (Ret w fun w' v => ∃ r : IV, v = .tuple #[r.v, .int .i64 0] ∧ IntR w' r z) := by
  obtain ⟨neg, D, hD, hD0, hbs, hz, hlead⟩ := TxtL.split h
  have HD := Hid.mk hD
  have HB := Hid.mk hbs
  have HZ := Hid.mk hz
  have hall : AllD (D.reverse.map dby) := AllD.digits hD
  have HALL := Hid.mk hall
  have hsz : s.size = s.data.toList.length := Lib.size_eq s
  have htl : (D.reverse.map dby).length ≤ s.size := by rw [hsz, hbs]; simp
  have ht0 : D.reverse.map dby ≠ [] := by
    intro e
    apply hD0
    simpa using e
  have HT0 := Hid.mk ht0
  clear h hz hbs hsz hall ht0
  go_enter Tryz.func112, Tryz.ntmps112
  go_wp2_with fail
  obtain ⟨W, hW, hX, b0, hWs⟩ := setup1 w #[.bool false, .slice none 0 0] 49
  rw [hW]
  clear hW
  refine (cutprefix_at _ s neg _ HB.out HALL.out HT0.out).mono ?_
  rintro e w1 ⟨⟨v1, rfl, d, rfl, hd⟩, hx1⟩
  have B0 := Hid.mk (b0.x hx1)
  have HX := Hid.mk (hX.trans hx1)
  have HDD := Hid.mk hd
  obtain ⟨E, x, hEx, hx0, hx10, hbx, hdl⟩ := dby_first HD.out hD0 hd
  have hdne : ¬ d.toList = [] := by rw [ByteArray.toList_eq, hd]; exact HT0.out
  have hdne1 : (d.toList == []) = false := by simpa using hdne
  have hdne2 : d.toList.isEmpty = false := by simpa using hdne
  have hds : d.size ≤ 65536 := by
    have e1 : d.size = d.data.toList.length := Lib.size_eq d
    rw [e1, hd]; omega
  have hix := fun w => index_byte (P := Tryz.prog) 9 Tryz.underlying9 d .i64 0 (by omega) w
  rw [hbx] at hix
  simp only [Int.natCast_zero] at hix
  clear hx1 hX b0 hd htl
  go_wp2_with fail
  refine (containsfunc_at _ d (by rw [HDD.out]; exact HALL.out)).mono ?_
  rintro e w2 ⟨⟨v2, rfl, rfl⟩, hx2⟩
  replace B0 := Hid.mk (B0.out.x hx2)
  replace HX := Hid.mk (HX.out.trans hx2)
  clear hx2
  go_upto_region 6 with (fail)
  go_cut [37] (fun t37 wc => t37 = .bool false ∧ X w2 wc)
  case first =>
    by_cases hx48 : x = 0
    · have hone : D = [0] ∧ neg = false := by
        rcases hlead with h1 | ⟨E', d', h1, h2⟩
        · exact h1
        · rw [hEx] at h1
          have := List.append_inj' h1 rfl
          have h3 := this.2
          simp at h3
          omega
      obtain ⟨h1, rfl⟩ := hone
      have hd1 : d.size = 1 := by
        rw [hdl]
        have : (E ++ [x]).length = 1 := by rw [← hEx, h1]; rfl
        simpa using this
      have hb1 : ((48 + x : Int) == 48) = true := by rw [hx48]; rfl
      have hlen : ¬ (1 : Int) < (E.length : Int) + 1 := by omega
      have hlen2 : ¬ (0 : Int) < (E.length : Int) := by omega
      have hE0 : E = [] := List.eq_nil_of_length_eq_zero (by omega)
      clear hlead h1 hEx
      go_wp2_with fail
      go_meet
      exact ⟨rfl, X.refl _⟩
    · have hb1 : ((48 + x : Int) == 48) = false := by rw [beq_eq_false_iff_ne]; omega
      clear hlead hEx
      go_wp2_with fail
      go_meet
      exact ⟨rfl, X.refl _⟩
  case rest =>
    obtain ⟨rfl, hx2⟩ := hcut
    replace B0 := Hid.mk (B0.out.x hx2)
    replace HX := Hid.mk (HX.out.trans hx2)
    clear hx2 hix hlead hEx hbx
    go_wp2_with fail
    go_loopg [4, 6, 7, 8, 9, 10] (d.size) (fun q t4 t6 t7 t8 t9 t10 wr => ∃ (r : ByteArray) (y : Int) (A : Option Addr) (n c : Nat), t4 = .string r ∧ t6 = .slice A n c ∧ MagR wr A n c y ∧ AllD r.data.toList ∧ y * 10 ^ r.size + bval 0 r.data.toList = val 10 D ∧ r.size ≤ q ∧ r.size ≤ d.size ∧ n + r.size ≤ 65536 ∧ X wc wr)
    case atStart => exact ⟨d, 0, none, 0, 0, rfl, rfl, MagR.nil _ _ _, by rw [HDD.out]; exact HALL.out, by rw [HDD.out, bval_digits HD.out]; simp, Nat.le_refl _, Nat.le_refl _, by omega, X.refl _⟩
    case round =>
      have HXc := Hid.mk HX.out
      obtain ⟨r, y, A, n, c, rfl, rfl, hm, ha, hv, hq, hrd, hnr, hx⟩ := hrel
      have HM := Hid.mk hm
      have HA := Hid.mk ha
      have HV := Hid.mk hv
      have HQ := Hid.mk hq
      replace HX := Hid.mk hx
      have hrl : r.size = r.data.toList.length := Lib.size_eq r
      clear hm ha hv hq hx
      by_cases hr0 : 0 < r.size
      · have hr0' : (0 : Int) < (r.size : Int) := by omega
        obtain ⟨gN, hg, hg1, hg9, hgr⟩ : ∃ g : Nat, ((r.size : Int) - 1) % 9 + 1 = g ∧ 1 ≤ g ∧ g ≤ 9 ∧ g ≤ r.size := by
          refine ⟨(r.size - 1) % 9 + 1, ?_, by omega, by omega, by have := Nat.mod_le (r.size - 1) 9; omega⟩
          omega
        have hgi : (gN : Int) ≤ (r.size : Int) := by omega
        cases gk with
        | zero => exact absurd HQ.out (by omega)
        | succ q1 =>
          have HTK : Hid ((r.extract 0 gN).data.toList = r.data.toList.take gN) := ext_take r gN
          have HDR : Hid ((r.extract gN r.size).data.toList = r.data.toList.drop gN) := ext_drop r gN
          have hsz2 : (r.extract gN r.size).size = r.size - gN := by
            have e1 : (r.extract gN r.size).size = (r.extract gN r.size).data.toList.length := Lib.size_eq _
            rw [e1, HDR.out, List.length_drop, ← hrl]
          have HS2 := Hid.mk hsz2
          have hta : AllD (r.data.toList.take gN) := fun b hb => HA.out b (List.mem_of_mem_take hb)
          have hda : AllD (r.data.toList.drop gN) := fun b hb => HA.out b (List.mem_of_mem_drop hb)
          have htl : (r.data.toList.take gN).length = gN := by rw [List.length_take]; omega
          have hu9 : bval 0 (r.data.toList.take gN) ≤ 999999999 := by
            have h1 := bval_lt _ hta
            rw [htl] at h1
            have h2 : 10 ^ gN ≤ 10 ^ 9 := Nat.pow_le_pow_right (by omega) hg9
            have h3 : (10 : Nat) ^ 9 = 1000000000 := by decide
            omega
          have HTA := Hid.mk hta
          have HDA := Hid.mk hda
          have HTL := Hid.mk htl
          clear hsz2 hta hda htl hrl
          go_wp2_with fail
          obtain ⟨wo, rfl⟩ : ∃ wo : World, wo = wr := ⟨_, rfl⟩
          go_loopw [8, 48] (fun t8 t48 wr => ∃ (i : Nat) (P : Int), i ≤ gN ∧ t48 = .int .i64 i ∧ t8 = .int .u32 P ∧ P = 10 ^ i ∧ 1 ≤ P ∧ P ≤ 1000000000 ∧ wr = wo) (fun _ t _ => gN - (intOf t).toNat)
          case atStart => exact ⟨0, 1, by omega, rfl, rfl, rfl, by omega, by omega, rfl⟩
          case round =>
            obtain ⟨i, P, hi, rfl, rfl, hP, hP1, hP2, rfl⟩ := hrel
            have HP := Hid.mk hP
            clear hP
            by_cases hig : i < gN
            · have hig' : (i : Int) < (gN : Int) := by omega
              have hP3 : P ≤ 100000000 := by
                have h1 : (10 : Int) ^ i ≤ 10 ^ 8 := by
                  have h2 : (10 : Nat) ^ i ≤ 10 ^ 8 := Nat.pow_le_pow_right (by omega) (by omega)
                  exact_mod_cast h2
                have h4 : (10 : Int) ^ 8 = 100000000 := by decide
                rw [HP.out]; omega
              go_wp2_with fail
              go_roundw
              case rel => exact ⟨i + 1, P * 10, by omega, by go_num, rfl, by rw [HP.out, Int.pow_succ], by omega, by omega, by first | rfl | trivial⟩
              case measure => simp [intOf]; omega
            · obtain rfl : i = gN := by omega
              have hig' : ¬ (i : Int) < (i : Int) := by omega
              clear hig hi
              go_wp2_with fail
              refine (parseuint_at _ (r.extract 0 i) (by rw [HTK.out]; exact HTA.out) (by rw [HTK.out]; intro e; have := HTL.out; rw [e] at this; simp at this; omega) (by rw [HTK.out, HTL.out]; exact hg9)).mono ?_
              rintro e w3 ⟨⟨v3, rfl, rfl⟩, hx3⟩
              rw [HTK.out]
              obtain ⟨u, hu⟩ : ∃ u, u = bval 0 (r.data.toList.take i) := ⟨_, rfl⟩
              rw [← hu] at hu9 ⊢
              have HU := Hid.mk hu
              replace HX := Hid.mk (HX.out.trans hx3)
              replace HM := Hid.mk (HM.out.x hx3)
              have hu9' : (u : Int) ≤ 999999999 := by omega
              have hu0' : (0 : Int) ≤ (u : Int) := by omega
              clear hu hx3
              go_wp2_with fail
              refine (int_scale _ A n c y P u HM.out (by omega) (by omega) (by omega)).mono ?_
              rintro e w4 ⟨⟨v4, rfl, A', n', c', rfl, hn', hm'⟩, hx4⟩
              replace HX := Hid.mk (HX.out.trans hx4)
              have HM4 := Hid.mk hm'
              clear hx4 hm'
              go_wp2_with fail
              go_roundg q1
              case measure => omega
              case rel =>
                refine ⟨r.extract i r.size, y * P + u, A', n', c', rfl, rfl, HM4.out, by rw [HDR.out]; exact HDA.out, ?_, by rw [HS2.out]; have := HQ.out; omega, by rw [HS2.out]; omega, by rw [HS2.out]; omega, HX.out⟩
                rw [HDR.out, HS2.out, HP.out]
                refine int_parse_groups (a := u) (m := r.size - i) ?_ rfl
                rw [← HV.out]
                have e1 : i + (r.size - i) = r.size := by omega
                have e2 : bval 0 r.data.toList = u * 10 ^ (r.size - i) + bval 0 (r.data.toList.drop i) := by
                  conv => lhs; rw [← List.take_append_drop i r.data.toList, bval_append, bval_shift]
                  rw [← HU.out, List.length_drop]
                  have : r.data.toList.length = r.size := (Lib.size_eq r).symm
                  rw [this]
                rw [e1, e2, Int.natCast_add, Int.natCast_mul, Int.natCast_pow, Int.add_assoc]
                rfl
      · have hr0' : ¬ (0 : Int) < (r.size : Int) := by omega
        have hy : y = val 10 D := by
          have h1 := HV.out
          have h2 : r.data.toList = [] := List.eq_nil_of_length_eq_zero (by omega)
          have h3 : r.size = 0 := by omega
          rw [h2, bval_nil, h3] at h1
          simpa using h1
        have HY := Hid.mk hy
        clear hr0 hrd hnr hrl hy hds hdne hdne1 hdne2 hdl hx0 hx10 HA HV HQ HDD HALL HT0 HB
        go_wp2_with fail
        refine (int_signed_mag _ neg A n c y HM.out).mono ?_
        rintro e w3 ⟨⟨v3, rfl, r3, rfl, hr3⟩, hx3⟩
        have hb0 := B0.out.x (HX.out.trans hx3)
        have hXX := HXc.out.trans (HX.out.trans hx3)
        rw [HY.out, ← HZ.out] at hr3
        have k0 := hb0.cell (j := 0) rfl; have k1 := hb0.cell (j := 1) rfl; have f0 := hb0.frozen 0; have f1 := hb0.frozen 1
        have K := two_cells (.bool r3.neg) (.slice r3.A r3.n r3.c) k0 k1
        have HR := Hid.mk (hr3.iv (b := ⟨false, none, 0, 0⟩) hb0 r3)
        have HXF := Hid.mk (hXX.iv (Nat.le_refl _) r3)
        clear hb0 hXX hr3 hx3 hD0 hD
        go_wp2_with fail
        exact bodyPost_ret (v := .tuple #[r3.v, .int .i64 0]) (by simp [results, Tryz.results112, go_sem, K.1, K.2]) rfl ⟨⟨_, rfl, r3, rfl, HR.out⟩, HXF.out⟩
end Go.Proofs.YtdgeodnfacnnmaaGreatDoor
