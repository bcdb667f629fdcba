/- Lemmas for the proof, part 4: T2, T3, G, M1, G2, M2, R5, M3, M4, Sh2, P1. -/
import Derived.Test.YtogakaiibijjpaaGreatDoorW3
import Derived.Shelf.Strings.Builder1
import Derived.Shelf.Strings.Builder2
import Derived.Shelf.Strings.OnBuilder
import Derived.Shelf.Strings.Trim
import Derived.Shelf.Small.Utf8
import Derived.Shelf.Small.Bits
import Derived.Shelf.Small.Strs
import Derived.Shelf.Small.Wraps
import Derived.Shelf.Strings.BuilderF
import Derived.Shelf.Strconv.Itoa0
import Derived.Shelf.Strconv.Itoa1
import Derived.Shelf.LaysM
import Derived.Shelf.Strconv.Itoa2
import Derived.Shelf.Strconv.Itoa3
import Derived.Ground.MpProg
import Derived.Shelf.Pu.ParseUintPublic10
import Derived.Shelf.Strings.Search1
import Derived.Shelf.Strings.Search2
import Derived.Shelf.Strings.Cut
import Derived.Shelf.Strings.Shaped
import Derived.Shelf.GgClosure.StringsIndexFunc
import Derived.Ground.GgwProg
import Derived.Shelf.GgClosure.StringsIndexFuncTop
import Derived.Shelf.Strings.Prefix
import Derived.Shelf.Unicode.Decode
import Derived.Shelf.Strings.Runes
import Derived.Shelf.Strings.AsciiSet
import Derived.Shelf.Bits.Mul64
import Derived.Shelf.Strings.Repeat
import Derived.Shelf.Unicode.DecodeSlow
import Derived.Shelf.Unicode.DecodeAny
import Derived.Shelf.Unicode.DecodeLast
import Derived.Shelf.Strings.FuncGrows
import Derived.Shelf.Slices.Turned
import Derived.Ground.Names2Prog
import Derived.Shelf.Slices.ReverseS
import Derived.Shelf.Slices.Cells
import Derived.Ground.SlgnProg
import Derived.Shelf.SlicesE.Clone
import Derived.Test.YtogakaiibijjpaaGreatDoorProg
/- Reference 05 (fractions of texts), second part: Mul, Add, Div, Neg, Zero, Text. -/
set_option linter.unusedVariables false
set_option linter.unusedSimpArgs false
namespace Go.Proofs.YtogakaiibijjpaaGreatDoor
open Go.RowKit
open DDig

theorem b32_ten : ∀ k : Nat, pw B32 k ≤ pw 10 (10 * k)
  | 0 => by simp [pw]
  | k + 1 => by
    have h := b32_ten k
    have e : pw 10 (10 * (k + 1)) = pw 10 (10 * k) * pw 10 10 := by rw [Nat.mul_add, pw_add]
    have e2 : pw 10 10 = 10000000000 := by decide
    have h0 := pw_pos B32_pos k
    rw [pw_succ, e, e2]
    have : B32 * pw B32 k = 4294967296 * pw B32 k := rfl
    omega
theorem Txt.pw_le {s : ByteArray} {z : Int} (h : Txt s z) {k : Nat} (hz : (z.natAbs : Int) < pw B32 k) : s.size ≤ 10 * k + 1 :=
  h.le_size (Int.lt_of_lt_of_le hz (b32_ten k))
theorem FR.sizes {f : FV} {x : Rat} (h : FR f x) {k : Nat} (hx : RSz x k) : f.p.size ≤ 10 * k + 1 ∧ f.q.size ≤ 10 * k + 1 :=
  ⟨h.1.pw_le hx.1, h.2.pw_le (by rw [Int.natAbs_natCast]; exact hx.2)⟩

theorem RSz.den_abs {x : Rat} {k : Nat} (h : RSz x k) : ((x.den : Int).natAbs : Int) < pw B32 k := by rw [Int.natAbs_natCast]; exact h.2

theorem FR.eq_iff {f g : FV} {x y : Rat} (h : FR f x) (k : FR g y) : f = g ↔ x = y := by
  constructor
  · intro e; subst e
    have h1 := (h.1.eq_iff k.1).1 rfl
    have h2 := (h.2.eq_iff k.2).1 rfl
    exact Rat.ext h1 (by omega)
  · intro e; subst e
    have h1 := (h.1.eq_iff k.1).2 rfl
    have h2 := (h.2.eq_iff k.2).2 rfl
    cases f; cases g; simp_all

theorem setup2f (w : World) (c0 c1 : Array Value) (t0 t1 : TypeId) :
    ∃ W, (w.alloc (.cells c0 t0)).alloc (.cells c1 t1) = W ∧ X w W ∧ Blk W w.heap.size t0 c0.toList ∧ Blk W (w.heap.size + 1) t1 c1.toList :=
  ⟨_, rfl, ((X.refl w).alloc _).alloc _, (Blk.new _ _ _).x ((X.refl _).alloc _), Blk.new_at _ _ _ (by simp)⟩

theorem ref_zero (w : World) (f : FV) (x : Rat) (b : Bool) (h : FR f x) (hb : decide (x = 0) = b) : Calls Tryz.prog 55 #[f.v] w (Ret w fun w' v => v = .bool b) := by
  have hz : (f.p.toList == [48]) = b := by
    rw [← hb, Bool.eq_iff_iff, beq_iff_eq, decide_eq_true_iff, ByteArray.toList_eq, TxtL.zero h.1]
    exact Rat.num_eq_zero
  clear h hb
  go_enter Tryz.func55, Tryz.ntmps55
  have b0 := Blk.new w #[.string f.p, .string f.q] 84
  have hX := (X.refl w).alloc (.cells #[.string f.p, .string f.q] 84)
  have c0 := b0.cell (j := 0) rfl
  clear b0
  have HX := Hid.mk hX
  clear hX
  go_wp2
  go_ret
  exact ⟨⟨_, rfl, rfl⟩, HX.out⟩

set_option maxRecDepth 100000 in
set_option maxHeartbeats 2000000 in
theorem ref_fneg (w : World) (f : FV) (x : Rat) (h : FR f x) (k : Nat) (hk : RSz x k) (hkl : k ≤ 20000000000) :
    Calls Tryz.prog 57 #[f.v] w (Ret w fun w' v => ∃ r : FV, v = r.v ∧ FR r (-x)) := by
  have H := Hid.mk h
  have hsz := h.sizes hk
  clear h
  go_enter Tryz.func57, Tryz.ntmps57
  go_wp2_with fail
  obtain ⟨W, hW, hX, b0, b1⟩ := setup2f w #[.string f.p, .string f.q] #[.string ⟨#[]⟩, .string ⟨#[]⟩] 84 84
  rw [hW]
  clear hW
  have HC := Hid.mk (fun w' (h : X W w') => (⟨(b0.x h).cell (j := 0) rfl, (b0.x h).cell (j := 1) rfl⟩ : w'.cell? ⟨w.heap.size, 0, none⟩ = some (.string f.p) ∧ w'.cell? ⟨w.heap.size, 1, none⟩ = some (.string f.q)))
  have n1 : ¬ w.heap.size + 1 = w.heap.size := by omega
  have hz0 : X W W.drew := ⟨rfl, rfl, rfl, Nat.le_refl _, fun _ _ => rfl⟩
  have hS0 := HC.out W (X.refl _)
  go_region_held3 (fun w' => w'.cell? ⟨w.heap.size, 0, none⟩ = some (.string f.p) ∧ w'.cell? ⟨w.heap.size, 1, none⟩ = some (.string f.q))
    (go_keep)
    (first
      | (have hguard := hz0; go_at_call 93; refine (ref_neg _ f.p x.num (by exact H.out.1) (by omega)).mono ?_; rintro e w1 ⟨⟨v1, rfl, r1, rfl, hq1⟩, hx1⟩; have hz1 : X W w1 := hz0.trans hx1; have hS1 := HC.out w1 hz1; have p1 := b1.x hz1; have k0 := p1.cell (j := 0) rfl; have k1 := p1.cell (j := 1) rfl; have f0 := p1.frozen 0; have f1 := p1.frozen 1))
  have K := two_cells (.string r1) (.string f.q) k0 k1
  have HR : Hid (FR ⟨r1, f.q⟩ (-x)) := ⟨hq1, H.out.2⟩
  have HX := Hid.mk (((hX.trans hz1).set (p := ⟨w.heap.size + 1, 0, none⟩) (by show _ ≤ w.heap.size + 1; omega) (.string r1)).set (p := ⟨w.heap.size + 1, 1, none⟩) (by show _ ≤ w.heap.size + 1; omega) (.string f.q))
  clear b0 b1 p1 hq1 hX hx1 HC hz0 hz1
  go_wp2
  exact bodyPost_ret (v := .agg #[.string r1, .string f.q]) (by simp [results, Tryz.results57, go_sem, K.1, K.2]) rfl ⟨⟨_, rfl, ⟨r1, f.q⟩, rfl, HR.out⟩, HX.out⟩

set_option maxRecDepth 100000 in
set_option maxHeartbeats 4000000 in
theorem ref_fmul (w : World) (a b : FV) (x y : Rat) (ha : FR a x) (hb : FR b y) (k l : Nat) (hx : RSz x k) (hy : RSz y l) (hkl : k + l ≤ 20000000000) :
    Calls Tryz.prog 59 #[a.v, b.v] w (Ret w fun w' v => ∃ r : FV, v = r.v ∧ FR r (x * y)) := by
  have HA := Hid.mk ha
  have HB := Hid.mk hb
  have sa := ha.sizes hx
  have sb := hb.sizes hy
  have sn : ∀ {r : ByteArray}, Txt r (x.num * y.num) → r.size ≤ 274877906930 := fun h => by
    have := h.pw_le (natAbs_lt_pw hx.1 hy.1); omega
  have sd : ∀ {r : ByteArray}, Txt r ((x.den : Int) * y.den) → r.size ≤ 274877906930 := fun h => by
    have := h.pw_le (natAbs_lt_pw hx.den_abs hy.den_abs); omega
  have hd : (x.den : Int) * y.den ≠ 0 := by
    have := x.den_pos
    have := y.den_pos
    exact Int.mul_ne_zero (by omega) (by omega)
  clear ha hb hx hy
  go_enter Tryz.func59, Tryz.ntmps59
  go_wp2_with fail
  obtain ⟨W, hW, hX, b0, b1, b2⟩ := setup3 w #[.string a.p, .string a.q] #[.string b.p, .string b.q] #[.string ⟨#[]⟩, .string ⟨#[]⟩] 84 84 84
  rw [hW]
  clear hW
  have HC := Hid.mk (fun w' (h : X W w') => (⟨(b0.x h).cell (j := 0) rfl, (b0.x h).cell (j := 1) rfl, (b1.x h).cell (j := 0) rfl, (b1.x h).cell (j := 1) rfl⟩ : w'.cell? ⟨w.heap.size, 0, none⟩ = some (.string a.p) ∧ w'.cell? ⟨w.heap.size, 1, none⟩ = some (.string a.q) ∧ w'.cell? ⟨w.heap.size + 1, 0, none⟩ = some (.string b.p) ∧ w'.cell? ⟨w.heap.size + 1, 1, none⟩ = some (.string b.q)))
  have n1 : ¬ w.heap.size + 1 + 1 = w.heap.size := by omega
  have n2 : ¬ w.heap.size + 1 + 1 = w.heap.size + 1 := by omega
  have hz0 : X W W.drew := ⟨rfl, rfl, rfl, Nat.le_refl _, fun _ _ => rfl⟩
  have hS0 := HC.out W (X.refl _)
  go_region_held3 (fun w' => w'.cell? ⟨w.heap.size, 0, none⟩ = some (.string a.p) ∧ w'.cell? ⟨w.heap.size, 1, none⟩ = some (.string a.q) ∧ w'.cell? ⟨w.heap.size + 1, 0, none⟩ = some (.string b.p) ∧ w'.cell? ⟨w.heap.size + 1, 1, none⟩ = some (.string b.q))
    (go_keep)
    (first
      | (have hguard := hz2; go_at_call 91; refine (ref_make _ r1 r2 (x.num * y.num) (x.den * y.den) hq1 hq2 (sn hq1) (sd hq2) hd).mono ?_; rintro e w3 ⟨⟨v3, rfl, r3, rfl, hq3⟩, hx3⟩; have hz3 : X W w3 := hz2.trans hx3; have hS3 := HC.out w3 hz3; have p2 := b2.x hz3; have k0 := p2.cell (j := 0) rfl; have k1 := p2.cell (j := 1) rfl; have f0 := p2.frozen 0; have f1 := p2.frozen 1)
      | (have hguard := hz1; go_at_call 92; refine (ref_mul _ a.q b.q x.den y.den (by exact HA.out.2) (by exact HB.out.2) (by omega) (by omega)).mono ?_; rintro e w2 ⟨⟨v2, rfl, r2, rfl, hq2⟩, hx2⟩; have hz2 : X W w2 := hz1.trans hx2; have hS2 := HC.out w2 hz2)
      | (have hguard := hz0; go_at_call 92; refine (ref_mul _ a.p b.p x.num y.num (by exact HA.out.1) (by exact HB.out.1) (by omega) (by omega)).mono ?_; rintro e w1 ⟨⟨v1, rfl, r1, rfl, hq1⟩, hx1⟩; have hz1 : X W w1 := hz0.trans hx1; have hS1 := HC.out w1 hz1))
  have e0 : Rat.divInt (x.num * y.num) (x.den * y.den) = x * y := by
    rw [Rat.mul_def', ← Rat.divInt_ofNat, Int.natCast_mul]
  rw [e0] at hq3
  have K := two_cells (.string r3.p) (.string r3.q) k0 k1
  have HR := Hid.mk hq3
  have HX := Hid.mk (((hX.trans hz3).set (p := ⟨w.heap.size + 1 + 1, 0, none⟩) (by show _ ≤ w.heap.size + 1 + 1; omega) (.string r3.p)).set (p := ⟨w.heap.size + 1 + 1, 1, none⟩) (by show _ ≤ w.heap.size + 1 + 1; omega) (.string r3.q))
  clear b0 b1 b2 p2 hq3 hX HC hz0
  go_wp2
  exact bodyPost_ret (v := r3.v) (by simp [results, Tryz.results59, go_sem, K.1, K.2]) rfl ⟨⟨_, rfl, r3, rfl, HR.out⟩, HX.out⟩

set_option maxRecDepth 100000 in
set_option maxHeartbeats 4000000 in
theorem ref_fadd (w : World) (a b : FV) (x y : Rat) (ha : FR a x) (hb : FR b y) (k l : Nat) (hx : RSz x k) (hy : RSz y l) (hkl : k + l ≤ 20000000000) :
    Calls Tryz.prog 58 #[a.v, b.v] w (Ret w fun w' v => ∃ r : FV, v = r.v ∧ FR r (x + y)) := by
  have HA := Hid.mk ha
  have HB := Hid.mk hb
  have sa := ha.sizes hx
  have sb := hb.sizes hy
  have s1 : ∀ {r : ByteArray}, Txt r (x.num * y.den) → r.size ≤ 274877906930 := fun h => by
    have := h.pw_le (natAbs_lt_pw hx.1 hy.den_abs); omega
  have s2 : ∀ {r : ByteArray}, Txt r (y.num * x.den) → r.size ≤ 274877906930 := fun h => by
    have := h.pw_le (natAbs_lt_pw hy.1 hx.den_abs); omega
  have sd : ∀ {r : ByteArray}, Txt r ((x.den : Int) * y.den) → r.size ≤ 274877906930 := fun h => by
    have := h.pw_le (natAbs_lt_pw hx.den_abs hy.den_abs); omega
  have sn : ∀ {r : ByteArray}, Txt r (x.num * y.den + y.num * x.den) → r.size ≤ 274877906930 := fun h => by
    have h2 := natAbs_lt_pw hy.1 hx.den_abs
    rw [Nat.add_comm] at h2
    have := h.pw_le (add_lt_pw (natAbs_lt_pw hx.1 hy.den_abs) h2); omega
  have hd : (x.den : Int) * y.den ≠ 0 := by
    have := x.den_pos
    have := y.den_pos
    exact Int.mul_ne_zero (by omega) (by omega)
  clear ha hb hx hy
  go_enter Tryz.func58, Tryz.ntmps58
  go_wp2_with fail
  obtain ⟨W, hW, hX, b0, b1, b2⟩ := setup3 w #[.string a.p, .string a.q] #[.string b.p, .string b.q] #[.string ⟨#[]⟩, .string ⟨#[]⟩] 84 84 84
  rw [hW]
  clear hW
  have HC := Hid.mk (fun w' (h : X W w') => (⟨(b0.x h).cell (j := 0) rfl, (b0.x h).cell (j := 1) rfl, (b1.x h).cell (j := 0) rfl, (b1.x h).cell (j := 1) rfl⟩ : w'.cell? ⟨w.heap.size, 0, none⟩ = some (.string a.p) ∧ w'.cell? ⟨w.heap.size, 1, none⟩ = some (.string a.q) ∧ w'.cell? ⟨w.heap.size + 1, 0, none⟩ = some (.string b.p) ∧ w'.cell? ⟨w.heap.size + 1, 1, none⟩ = some (.string b.q)))
  have n1 : ¬ w.heap.size + 1 + 1 = w.heap.size := by omega
  have n2 : ¬ w.heap.size + 1 + 1 = w.heap.size + 1 := by omega
  have hz0 : X W W.drew := ⟨rfl, rfl, rfl, Nat.le_refl _, fun _ _ => rfl⟩
  have hS0 := HC.out W (X.refl _)
  go_region_held3 (fun w' => w'.cell? ⟨w.heap.size, 0, none⟩ = some (.string a.p) ∧ w'.cell? ⟨w.heap.size, 1, none⟩ = some (.string a.q) ∧ w'.cell? ⟨w.heap.size + 1, 0, none⟩ = some (.string b.p) ∧ w'.cell? ⟨w.heap.size + 1, 1, none⟩ = some (.string b.q))
    (go_keep)
    (first
      | (have hguard := hz4; go_at_call 91; refine (ref_make _ r3 r4 (x.num * y.den + y.num * x.den) (x.den * y.den) hq3 hq4 (sn hq3) (sd hq4) hd).mono ?_; rintro e w5 ⟨⟨v5, rfl, r5, rfl, hq5⟩, hx5⟩; have hz5 : X W w5 := hz4.trans hx5; have hS5 := HC.out w5 hz5; have p2 := b2.x hz5; have k0 := p2.cell (j := 0) rfl; have k1 := p2.cell (j := 1) rfl; have f0 := p2.frozen 0; have f1 := p2.frozen 1)
      | (have hguard := hz3; go_at_call 92; refine (ref_mul _ a.q b.q x.den y.den (by exact HA.out.2) (by exact HB.out.2) (by omega) (by omega)).mono ?_; rintro e w4 ⟨⟨v4, rfl, r4, rfl, hq4⟩, hx4⟩; have hz4 : X W w4 := hz3.trans hx4; have hS4 := HC.out w4 hz4)
      | (have hguard := hz2; go_at_call 94; refine (ref_add _ r1 r2 (x.num * y.den) (y.num * x.den) hq1 hq2 (by have := s1 hq1; omega) (by have := s2 hq2; omega)).mono ?_; rintro e w3 ⟨⟨v3, rfl, r3, rfl, hq3⟩, hx3⟩; have hz3 : X W w3 := hz2.trans hx3; have hS3 := HC.out w3 hz3)
      | (have hguard := hz1; go_at_call 92; refine (ref_mul _ b.p a.q y.num x.den (by exact HB.out.1) (by exact HA.out.2) (by omega) (by omega)).mono ?_; rintro e w2 ⟨⟨v2, rfl, r2, rfl, hq2⟩, hx2⟩; have hz2 : X W w2 := hz1.trans hx2; have hS2 := HC.out w2 hz2)
      | (have hguard := hz0; go_at_call 92; refine (ref_mul _ a.p b.q x.num y.den (by exact HA.out.1) (by exact HB.out.2) (by omega) (by omega)).mono ?_; rintro e w1 ⟨⟨v1, rfl, r1, rfl, hq1⟩, hx1⟩; have hz1 : X W w1 := hz0.trans hx1; have hS1 := HC.out w1 hz1))
  rw [add_divInt] at hq5
  have K := two_cells (.string r5.p) (.string r5.q) k0 k1
  have HR := Hid.mk hq5
  have HX := Hid.mk (((hX.trans hz5).set (p := ⟨w.heap.size + 1 + 1, 0, none⟩) (by show _ ≤ w.heap.size + 1 + 1; omega) (.string r5.p)).set (p := ⟨w.heap.size + 1 + 1, 1, none⟩) (by show _ ≤ w.heap.size + 1 + 1; omega) (.string r5.q))
  clear b0 b1 b2 p2 hq5 hX HC hz0
  go_wp2
  exact bodyPost_ret (v := r5.v) (by simp [results, Tryz.results58, go_sem, K.1, K.2]) rfl ⟨⟨_, rfl, r5, rfl, HR.out⟩, HX.out⟩

theorem rat_num_zero' {y : Rat} : y.num = 0 ↔ y = 0 := Rat.num_eq_zero
theorem div_divInt' (x y : Rat) : Rat.divInt (x.num * y.den) (x.den * y.num) = x / y := by
  rw [Rat.div_def, Rat.inv_def]
  conv => rhs; rw [← Rat.num_divInt_den x]
  rw [Rat.divInt_mul_divInt]
set_option maxRecDepth 100000 in
set_option maxHeartbeats 4000000 in
theorem ref_fdiv (w : World) (a b : FV) (x y : Rat) (ha : FR a x) (hb : FR b y) (k l : Nat) (hx : RSz x k) (hy : RSz y l) (hkl : k + l ≤ 20000000000) (hy0 : y ≠ 0) :
    Calls Tryz.prog 56 #[a.v, b.v] w (Ret w fun w' v => ∃ r : FV, v = r.v ∧ FR r (x / y)) := by
  have HA := Hid.mk ha
  have HB := Hid.mk hb
  have sa := ha.sizes hx
  have sb := hb.sizes hy
  have s1 : ∀ {r : ByteArray}, Txt r (x.num * y.den) → r.size ≤ 274877906930 := fun h => by
    have := h.pw_le (natAbs_lt_pw hx.1 hy.den_abs); omega
  have s2 : ∀ {r : ByteArray}, Txt r ((x.den : Int) * y.num) → r.size ≤ 274877906930 := fun h => by
    have := h.pw_le (natAbs_lt_pw hx.den_abs hy.1); omega
  have hd : (x.den : Int) * y.num ≠ 0 := by
    have := x.den_pos
    exact Int.mul_ne_zero (by omega) (fun h => hy0 (rat_num_zero'.1 h))
  clear ha hb hx hy
  go_enter Tryz.func56, Tryz.ntmps56
  go_wp2_with fail
  obtain ⟨W, hW, hX, b0, b1, b2⟩ := setup3 w #[.string a.p, .string a.q] #[.string b.p, .string b.q] #[.string ⟨#[]⟩, .string ⟨#[]⟩] 84 84 84
  rw [hW]
  clear hW
  have HC := Hid.mk (fun w' (h : X W w') => (⟨(b0.x h).cell (j := 0) rfl, (b0.x h).cell (j := 1) rfl, (b1.x h).cell (j := 0) rfl, (b1.x h).cell (j := 1) rfl⟩ : w'.cell? ⟨w.heap.size, 0, none⟩ = some (.string a.p) ∧ w'.cell? ⟨w.heap.size, 1, none⟩ = some (.string a.q) ∧ w'.cell? ⟨w.heap.size + 1, 0, none⟩ = some (.string b.p) ∧ w'.cell? ⟨w.heap.size + 1, 1, none⟩ = some (.string b.q)))
  have n1 : ¬ w.heap.size + 1 + 1 = w.heap.size := by omega
  have n2 : ¬ w.heap.size + 1 + 1 = w.heap.size + 1 := by omega
  have hz0 : X W W.drew := ⟨rfl, rfl, rfl, Nat.le_refl _, fun _ _ => rfl⟩
  have hS0 := HC.out W (X.refl _)
  go_region_held3 (fun w' => w'.cell? ⟨w.heap.size, 0, none⟩ = some (.string a.p) ∧ w'.cell? ⟨w.heap.size, 1, none⟩ = some (.string a.q) ∧ w'.cell? ⟨w.heap.size + 1, 0, none⟩ = some (.string b.p) ∧ w'.cell? ⟨w.heap.size + 1, 1, none⟩ = some (.string b.q))
    (go_keep)
    (first
      | (have hguard := hz2; go_at_call 91; refine (ref_make _ r1 r2 (x.num * y.den) (x.den * y.num) hq1 hq2 (s1 hq1) (s2 hq2) hd).mono ?_; rintro e w3 ⟨⟨v3, rfl, r3, rfl, hq3⟩, hx3⟩; have hz3 : X W w3 := hz2.trans hx3; have hS3 := HC.out w3 hz3; have p2 := b2.x hz3; have k0 := p2.cell (j := 0) rfl; have k1 := p2.cell (j := 1) rfl; have f0 := p2.frozen 0; have f1 := p2.frozen 1)
      | (have hguard := hz1; go_at_call 92; refine (ref_mul _ a.q b.p x.den y.num (by exact HA.out.2) (by exact HB.out.1) (by omega) (by omega)).mono ?_; rintro e w2 ⟨⟨v2, rfl, r2, rfl, hq2⟩, hx2⟩; have hz2 : X W w2 := hz1.trans hx2; have hS2 := HC.out w2 hz2)
      | (have hguard := hz0; go_at_call 92; refine (ref_mul _ a.p b.q x.num y.den (by exact HA.out.1) (by exact HB.out.2) (by omega) (by omega)).mono ?_; rintro e w1 ⟨⟨v1, rfl, r1, rfl, hq1⟩, hx1⟩; have hz1 : X W w1 := hz0.trans hx1; have hS1 := HC.out w1 hz1))
  rw [div_divInt'] at hq3
  have K := two_cells (.string r3.p) (.string r3.q) k0 k1
  have HR := Hid.mk hq3
  have HX := Hid.mk (((hX.trans hz3).set (p := ⟨w.heap.size + 1 + 1, 0, none⟩) (by show _ ≤ w.heap.size + 1 + 1; omega) (.string r3.p)).set (p := ⟨w.heap.size + 1 + 1, 1, none⟩) (by show _ ≤ w.heap.size + 1 + 1; omega) (.string r3.q))
  clear b0 b1 b2 p2 hq3 hX HC hz0
  go_wp2
  exact bodyPost_ret (v := r3.v) (by simp [results, Tryz.results56, go_sem, K.1, K.2]) rfl ⟨⟨_, rfl, r3, rfl, HR.out⟩, HX.out⟩
end Go.Proofs.YtogakaiibijjpaaGreatDoor

/- Reference 05 (fractions of texts), third part: Text. -/
set_option linter.unusedVariables false
set_option linter.unusedSimpArgs false
namespace Go.Proofs.YtogakaiibijjpaaGreatDoor
open Go.RowKit
open DDig

/-- The text of a fraction. -/
def QTxt (s : ByteArray) (x : Rat) : Prop := ∃ p q : List UInt8, TxtL p x.num ∧ TxtL q x.den ∧ s.data.toList = if x.den = 1 then p else p ++ 47 :: q
theorem QTxt.same {s t : ByteArray} {x : Rat} (h : QTxt s x) (g : QTxt t x) : s = t := by
  obtain ⟨p, q, h1, h2, h3⟩ := h
  obtain ⟨p', q', g1, g2, g3⟩ := g
  have e1 := h1.same g1
  have e2 := h2.same g2
  subst e1 e2
  exact ByteArray.ext (Array.ext' (h3.trans g3.symm))
theorem norm_one : Norm [1] := by simp [Norm]
theorem txt_one : TxtL [49] 1 := ⟨false, [1], ⟨Dig.cons (by decide) (by decide) (Dig.nil _), norm_one⟩, by simp, rfl, by decide⟩

theorem ref_ftext (w : World) (f : FV) (x : Rat) (h : FR f x) (hs : f.p.size + f.q.size + 1 ≤ 9223372036854775807) : Calls Tryz.prog 41 #[f.v] w (Ret w fun w' v => ∃ r, v = .string r ∧ QTxt r x) := by
  have h1 : (f.q.toList == [49]) = decide (x.den = 1) := by
    rw [Bool.eq_iff_iff, beq_iff_eq, decide_eq_true_iff, ByteArray.toList_eq]
    constructor
    · intro e
      have := h.2
      unfold Txt at this
      rw [e] at this
      have := this.unique txt_one
      omega
    · intro e
      have := h.2
      unfold Txt at this
      rw [e] at this
      exact this.same txt_one
  have H := Hid.mk h
  clear h
  go_enter Tryz.func41, Tryz.ntmps41
  have b0 := Blk.new w #[.string f.p, .string f.q] 84
  have hX := (X.refl w).alloc (.cells #[.string f.p, .string f.q] 84)
  have c0 := b0.cell (j := 0) rfl
  have c1 := b0.cell (j := 1) rfl
  clear b0
  have HX := Hid.mk hX
  clear hX
  by_cases hd : x.den = 1
  · have hb : f.q.toList = [49] := by simpa [hd] using h1
    clear h1
    go_wp2
    go_ret
    exact ⟨⟨_, rfl, f.p, rfl, f.p.data.toList, f.q.data.toList, H.out.1, H.out.2, by rw [if_pos hd]⟩, HX.out⟩
  · have hb : ¬ f.q.toList = [49] := by simpa [hd] using h1
    have hb' : (f.q.toList == [49]) = false := by simpa using hb
    clear h1
    go_wp2
    go_ret
    exact ⟨⟨_, rfl, _, rfl, f.p.data.toList, f.q.data.toList, H.out.1, H.out.2, by rw [if_neg hd]; simp⟩, HX.out⟩
end Go.Proofs.YtogakaiibijjpaaGreatDoor

/- Rows of fractions, rows of rationals, tables of rows: read from memory, or grown as the call's own. -/
set_option linter.unusedVariables false
set_option linter.unusedSimpArgs false
namespace Go.Proofs.YtogakaiibijjpaaGreatDoor
open Go.RowKit
open DDig

/-- What a row of the call's own comes to: nothing, or the beginning of a block. -/
theorem own_parts {w : World} {base : Nat} {e : TypeId} {size n : Nat} {v : Value} {xs : List Value} (h : w.ownsRow base e size v n xs) :
    (v = .slice none 0 0 ∧ n = 0) ∨ ∃ g cap sp, v = .slice (some ⟨g, 0, none⟩) n cap ∧ base ≤ g ∧ g < w.heap.size ∧ n ≤ cap ∧ Blk w g e (xs ++ sp) ∧ xs.length = n * size := by
  rcases h.2 with ⟨h1, h0⟩ | ⟨g, cap, cur, hv, hg, hb, h1, h2, h3, h4⟩
  · exact Or.inl ⟨h1, h0⟩
  · have hB : Blk w g e (xs ++ cur.toList.drop (n * size)) := by
      unfold Blk
      rw [hb, ← h4, List.take_append_drop]
    refine Or.inr ⟨g, cap, _, hv, hg, hB.lt, h1, hB, ?_⟩
    rw [← h4, List.length_take]
    have : cur.toList.length = cur.size := by simp
    have h5 : n * size ≤ cap * size := Nat.mul_le_mul_right _ h1
    omega

theorem own_x {w w' : World} {base : Nat} {e : TypeId} {size n : Nat} {v : Value} {xs : List Value} (h : w.ownsRow base e size v n xs) (hx : X w w') : w'.ownsRow base e size v n xs := by
  refine ⟨h.1, ?_⟩
  rcases h.2 with h1 | ⟨g, cap, cur, hv, hg, hb, h1, h2, h3, h4⟩
  · exact Or.inl h1
  · exact Or.inr ⟨g, cap, cur, hv, hg, (hx.block g (Array.getElem?_eq_some_iff.1 hb).1).trans hb, h1, h2, h3, h4⟩

/-- 'append(out, x)' of one element; what is no part of the row's block is as it was. -/
theorem append_one {P : Program} (w0 w : World) {ops : Array Oper} {rest : List Oper} {o : Oper} {a : Act} {Q : Exit → Act → World → Prop} (hgd : o.guard = none) (s x : Operand) (t : TypeId)
    (ho : o.op = .call { callee := .builtin .append, args := #[s, x], argTypes := #[t, t] })
    (e : TypeId) (z : Value) (size bytes : Nat) (ht : P.underlying t = some (.slice e)) (h2 : (P.info? e).map (fun i => (i.zero, i.size, i.bytes)) = some (some z, size, bytes)) (hzs : z.cells.size = size) (hsz : 0 < size)
    (v : Value) (n : Nat) (xs : List Value) (hs : a.eval s = v) (hown : w.ownsRow w0.heap.size e size v n xs)
    (cs : Array Value) (e' : TypeId) (c : Nat) (hx : a.eval x = .slice (some ⟨w.heap.size, 0, none⟩) 1 c) (hl : cs.size = size) (h1 : ∀ u ∈ cs.toList, u.oneCell' = true)
    (hb : (n + 1) * bytes ≤ 140737488355328) (h63 : n + 1 ≤ 9223372036854775807) (hX : X w0 w)
    (h : ∀ v' w', w'.ownsRow w0.heap.size e size v' (n + 1) (xs ++ cs.toList) → X w0 w' → (∀ b, b < w.heap.size → v.ownBlock ≠ some b → w'.heap[b]? = w.heap[b]?) → wpList P ops Q rest (a.put o.dst v') w') : wpList P ops Q (o :: rest) a (w.alloc (.cells cs e')) := by
  refine append_own (w.alloc (.cells cs e')) hgd s x t ho w0.heap.size e z size bytes ht h2 hzs hsz v n xs hs (hown.alloc _) ⟨w.heap.size, 0, none⟩ 1 c cs.toList hx (by simpa using hl) ?_ h1 h63 hb (hX.alloc _).size (fun v' w' h3 h4 => h v' w' h3 ((hX.alloc _).grown h4 (own_ge hown)) (fun b hb1 hb2 => by
    rw [h4.block b (by simp; omega) (fun e => hb2 e.symm)]; exact heap_alloc_old w _ hb1))
  intro j u hj
  have := (Blk.new w cs e').cell hj
  have e2 : (⟨w.heap.size, 0, none⟩ : Addr).add j = ⟨w.heap.size, j, none⟩ := by unfold Addr.add; split <;> simp_all
  rw [e2]; exact this
theorem cell_kept {w w' : World} {a : Addr} (h : w'.heap[a.block]? = w.heap[a.block]?) : w'.cell? a = w.cell? a := by
  unfold World.cell?; rw [h]
theorem MagR.kept {w w' : World} {b o n c : Nat} {z : Int} (h : MagR w (some ⟨b, o, none⟩) n c z) (hk : w'.heap[b]? = w.heap[b]?) : MagR w' (some ⟨b, o, none⟩) n c z := by
  obtain ⟨xs, h1, h2, ⟨h3, h3'⟩, h4, h5⟩ := h
  refine ⟨xs, h1, h2, ⟨h3, fun h0 => ?_⟩, h4, h5⟩
  obtain ⟨b', o', e, hc⟩ := h3' h0
  refine ⟨b', o', e, fun j hj => ?_⟩
  injection e with e; injection e with e1 e2
  subst e1
  rw [cell_kept hk]
  exact hc j hj

theorem flat_len {α : Type} (c : α → List Value) (z : Nat) (hz : ∀ a, (c a).length = z) : ∀ xs : List α, (xs.flatMap c).length = xs.length * z
  | [] => by simp
  | x :: xs => by
    rw [List.flatMap_cons, List.length_append, flat_len c z hz xs, hz, List.length_cons, Nat.succ_mul]; omega
theorem flat_get {α : Type} (c : α → List Value) (z : Nat) (hz : ∀ a, (c a).length = z) : ∀ (xs : List α) (j i : Nat) (a : α), xs[j]? = some a → i < z → (xs.flatMap c)[j * z + i]? = (c a)[i]?
  | [], j, i, a, h, _ => by simp at h
  | x :: xs, 0, i, a, h, hi => by
    simp at h
    subst h
    rw [List.flatMap_cons, List.getElem?_append_left (by rw [hz]; omega)]
    simp
  | x :: xs, j + 1, i, a, h, hi => by
    rw [List.flatMap_cons, List.getElem?_append_right (by rw [hz, Nat.succ_mul]; omega), hz]
    have := flat_get c z hz xs j i a (by simpa using h) hi
    rw [← this]
    congr 1
    rw [Nat.succ_mul]; omega

theorem app_get {xs sp : List Value} {k : Nat} {v : Value} (h : xs[k]? = some v) : (xs ++ sp)[k]? = some v := by
  rw [List.getElem?_append_left]
  · exact h
  · exact (List.getElem?_eq_some_iff.1 h).1

/-- A row of fractions. -/
def RowF (w : World) (A : Option Addr) (n : Nat) (f : Nat → Rat) : Prop :=
  0 < n → ∃ b o, A = some ⟨b, o, none⟩ ∧ ∀ j, j < n → ∃ a : FV, w.cell? ⟨b, o + j * 2, none⟩ = some (.string a.p) ∧ w.cell? ⟨b, o + j * 2 + 1, none⟩ = some (.string a.q) ∧ FR a (f j)
def SlF (w : World) (v : Value) (n : Nat) (f : Nat → Rat) : Prop := ∃ A c, v = .slice A n c ∧ n ≤ c ∧ (A = none → n = 0 ∧ c = 0) ∧ RowF w A n f
/-- A row of rationals. -/
def RowQ (w : World) (A : Option Addr) (n : Nat) (f : Nat → Rat) : Prop :=
  0 < n → ∃ b o, A = some ⟨b, o, none⟩ ∧ ∀ j, j < n → ∃ a : QV, w.cell? ⟨b, o + j * 4, none⟩ = some (.bool a.s) ∧ w.cell? ⟨b, o + j * 4 + 1, none⟩ = some (.slice a.A a.n a.c) ∧ w.cell? ⟨b, o + j * 4 + 2, none⟩ = some (.bool a.t) ∧ w.cell? ⟨b, o + j * 4 + 3, none⟩ = some (.slice a.B a.m a.d) ∧ RatR w a (f j)
def SlQ (w : World) (v : Value) (n : Nat) (f : Nat → Rat) : Prop := ∃ A c, v = .slice A n c ∧ n ≤ c ∧ (A = none → n = 0 ∧ c = 0) ∧ RowQ w A n f
/-- A table: rows of one length. -/
def RowM (S : World → Value → Nat → (Nat → Rat) → Prop) (w : World) (A : Option Addr) (m c : Nat) (M : Nat → Nat → Rat) : Prop :=
  0 < m → ∃ b o, A = some ⟨b, o, none⟩ ∧ ∀ i, i < m → ∃ u, w.cell? ⟨b, o + i, none⟩ = some u ∧ S w u c (M i)
def SlM (S : World → Value → Nat → (Nat → Rat) → Prop) (w : World) (v : Value) (m c : Nat) (M : Nat → Nat → Rat) : Prop := ∃ A k, v = .slice A m k ∧ m ≤ k ∧ (A = none → m = 0 ∧ k = 0) ∧ RowM S w A m c M

theorem RowF.x {w w' : World} {A : Option Addr} {n : Nat} {f : Nat → Rat} (h : RowF w A n f) (hx : X w w') : RowF w' A n f := fun h0 => by
  obtain ⟨b, o, e, g⟩ := h h0
  refine ⟨b, o, e, fun j hj => ?_⟩
  obtain ⟨a, h1, h2, h3⟩ := g j hj
  exact ⟨a, hx.cell h1, hx.cell h2, h3⟩
theorem SlF.x {w w' : World} {v : Value} {n : Nat} {f : Nat → Rat} (h : SlF w v n f) (hx : X w w') : SlF w' v n f := by
  obtain ⟨A, c, h1, h2, h3, h4⟩ := h
  exact ⟨A, c, h1, h2, h3, h4.x hx⟩
theorem RowQ.x {w w' : World} {A : Option Addr} {n : Nat} {f : Nat → Rat} (h : RowQ w A n f) (hx : X w w') : RowQ w' A n f := fun h0 => by
  obtain ⟨b, o, e, g⟩ := h h0
  refine ⟨b, o, e, fun j hj => ?_⟩
  obtain ⟨a, h1, h2, h3, h4, h5⟩ := g j hj
  exact ⟨a, hx.cell h1, hx.cell h2, hx.cell h3, hx.cell h4, h5.x hx⟩
theorem SlQ.x {w w' : World} {v : Value} {n : Nat} {f : Nat → Rat} (h : SlQ w v n f) (hx : X w w') : SlQ w' v n f := by
  obtain ⟨A, c, h1, h2, h3, h4⟩ := h
  exact ⟨A, c, h1, h2, h3, h4.x hx⟩
theorem SlM.x {S : World → Value → Nat → (Nat → Rat) → Prop} (hS : ∀ {w w' : World} {v : Value} {n : Nat} {f : Nat → Rat}, S w v n f → X w w' → S w' v n f) {w w' : World} {v : Value} {m c : Nat} {M : Nat → Nat → Rat} (h : SlM S w v m c M) (hx : X w w') : SlM S w' v m c M := by
  obtain ⟨A, k, h1, h2, h3, h4⟩ := h
  refine ⟨A, k, h1, h2, h3, fun h0 => ?_⟩
  obtain ⟨b, o, e, g⟩ := h4 h0
  refine ⟨b, o, e, fun j hj => ?_⟩
  obtain ⟨u, h5, h6⟩ := g j hj
  exact ⟨u, hx.cell h5, hS h6 hx⟩
abbrev MatQ := SlM SlQ
abbrev MatF := SlM SlF
theorem MatQ.x {w w' : World} {v : Value} {m c : Nat} {M : Nat → Nat → Rat} (h : MatQ w v m c M) (hx : X w w') : MatQ w' v m c M := SlM.x (S := SlQ) (fun h x => h.x x) h hx
theorem MatF.x {w w' : World} {v : Value} {m c : Nat} {M : Nat → Nat → Rat} (h : MatF w v m c M) (hx : X w w') : MatF w' v m c M := SlM.x (S := SlF) (fun h x => h.x x) h hx

abbrev fcs (fs : List FV) : List Value := fs.flatMap fvc
abbrev qcs (qs : List QV) : List Value := qs.flatMap qvc
theorem fcs_snoc (fs : List FV) (a : FV) : fcs (fs ++ [a]) = fcs fs ++ fvc a := by simp [fcs]
theorem qcs_snoc (fs : List QV) (a : QV) : qcs (fs ++ [a]) = qcs fs ++ qvc a := by simp [qcs]

theorem SlF.nil (w : World) (f : Nat → Rat) : SlF w (.slice none 0 0) 0 f := ⟨none, 0, rfl, Nat.le_refl _, fun _ => ⟨rfl, rfl⟩, fun h => absurd h (by omega)⟩
theorem SlQ.nil (w : World) (f : Nat → Rat) : SlQ w (.slice none 0 0) 0 f := ⟨none, 0, rfl, Nat.le_refl _, fun _ => ⟨rfl, rfl⟩, fun h => absurd h (by omega)⟩
theorem SlM.nil (S : World → Value → Nat → (Nat → Rat) → Prop) (w : World) (c : Nat) (M : Nat → Nat → Rat) : SlM S w (.slice none 0 0) 0 c M := ⟨none, 0, rfl, Nat.le_refl _, fun _ => ⟨rfl, rfl⟩, fun h => absurd h (by omega)⟩

theorem SlF.own {w : World} {base : Nat} {v : Value} {n : Nat} {fs : List FV} {f : Nat → Rat} (h : w.ownsRow base 84 2 v n (fcs fs)) (hn : fs.length = n) (hf : ∀ j a, fs[j]? = some a → FR a (f j)) : SlF w v n f := by
  rcases own_parts h with ⟨rfl, rfl⟩ | ⟨g, cap, sp, rfl, h1, h2, h3, hB, hl⟩
  · exact SlF.nil w f
  · refine ⟨_, _, rfl, h3, by simp, fun h0 => ⟨g, 0, rfl, fun j hj => ?_⟩⟩
    have ha : fs[j]? = some fs[j] := List.getElem?_eq_getElem (by omega)
    refine ⟨fs[j], ?_, ?_, hf j _ ha⟩
    · rw [Nat.zero_add]
      exact hB.cell (app_get (by have := flat_get fvc 2 (fun _ => rfl) fs j 0 _ ha (by omega); rw [Nat.add_zero] at this; rw [this]; rfl))
    · rw [Nat.zero_add]
      exact hB.cell (app_get (by rw [flat_get fvc 2 (fun _ => rfl) fs j 1 _ ha (by omega)]; rfl))
theorem SlQ.own {w : World} {base : Nat} {v : Value} {n : Nat} {fs : List QV} {f : Nat → Rat} (h : w.ownsRow base 71 4 v n (qcs fs)) (hn : fs.length = n) (hf : ∀ j a, fs[j]? = some a → RatR w a (f j)) : SlQ w v n f := by
  rcases own_parts h with ⟨rfl, rfl⟩ | ⟨g, cap, sp, rfl, h1, h2, h3, hB, hl⟩
  · exact SlQ.nil w f
  · refine ⟨_, _, rfl, h3, by simp, fun h0 => ⟨g, 0, rfl, fun j hj => ?_⟩⟩
    have ha : fs[j]? = some fs[j] := List.getElem?_eq_getElem (by omega)
    refine ⟨fs[j], ?_, ?_, ?_, ?_, hf j _ ha⟩
    · rw [Nat.zero_add]
      exact hB.cell (app_get (by have := flat_get qvc 4 (fun _ => rfl) fs j 0 _ ha (by omega); rw [Nat.add_zero] at this; rw [this]; rfl))
    · rw [Nat.zero_add]
      exact hB.cell (app_get (by rw [flat_get qvc 4 (fun _ => rfl) fs j 1 _ ha (by omega)]; rfl))
    · rw [Nat.zero_add]
      exact hB.cell (app_get (by rw [flat_get qvc 4 (fun _ => rfl) fs j 2 _ ha (by omega)]; rfl))
    · rw [Nat.zero_add]
      exact hB.cell (app_get (by rw [flat_get qvc 4 (fun _ => rfl) fs j 3 _ ha (by omega)]; rfl))
theorem SlM.own {S : World → Value → Nat → (Nat → Rat) → Prop} {w : World} {base : Nat} {e : TypeId} {v : Value} {n c : Nat} {us : List Value} {M : Nat → Nat → Rat} (h : w.ownsRow base e 1 v n us) (hn : us.length = n) (hf : ∀ j u, us[j]? = some u → S w u c (M j)) : SlM S w v n c M := by
  rcases own_parts h with ⟨rfl, rfl⟩ | ⟨g, cap, sp, rfl, h1, h2, h3, hB, hl⟩
  · exact SlM.nil S w c M
  · refine ⟨_, _, rfl, h3, by simp, fun h0 => ⟨g, 0, rfl, fun j hj => ?_⟩⟩
    have ha : us[j]? = some us[j] := List.getElem?_eq_getElem (by omega)
    refine ⟨us[j], ?_, hf j _ ha⟩
    rw [Nat.zero_add]
    exact hB.cell (app_get ha)

theorem RowF.congr {w : World} {A : Option Addr} {n : Nat} {f g : Nat → Rat} (h : RowF w A n f) (e : ∀ j, j < n → f j = g j) : RowF w A n g := fun h0 => by
  obtain ⟨b, o, ha, hh⟩ := h h0
  refine ⟨b, o, ha, fun j hj => ?_⟩
  rw [← e j hj]; exact hh j hj
theorem SlF.congr {w : World} {v : Value} {n : Nat} {f g : Nat → Rat} (h : SlF w v n f) (e : ∀ j, j < n → f j = g j) : SlF w v n g := by
  obtain ⟨A, c, h1, h2, h3, h4⟩ := h
  exact ⟨A, c, h1, h2, h3, h4.congr e⟩
theorem RowQ.congr {w : World} {A : Option Addr} {n : Nat} {f g : Nat → Rat} (h : RowQ w A n f) (e : ∀ j, j < n → f j = g j) : RowQ w A n g := fun h0 => by
  obtain ⟨b, o, ha, hh⟩ := h h0
  refine ⟨b, o, ha, fun j hj => ?_⟩
  rw [← e j hj]; exact hh j hj
theorem SlQ.congr {w : World} {v : Value} {n : Nat} {f g : Nat → Rat} (h : SlQ w v n f) (e : ∀ j, j < n → f j = g j) : SlQ w v n g := by
  obtain ⟨A, c, h1, h2, h3, h4⟩ := h
  exact ⟨A, c, h1, h2, h3, h4.congr e⟩
theorem MatQ.congr {w : World} {v : Value} {m n : Nat} {M N : Nat → Nat → Rat} (h : MatQ w v m n M) (e : ∀ i, i < m → ∀ j, j < n → M i j = N i j) : MatQ w v m n N := by
  obtain ⟨A, c, h1, h2, h3, h4⟩ := h
  refine ⟨A, c, h1, h2, h3, fun h0 => ?_⟩
  obtain ⟨b, o, ha, hh⟩ := h4 h0
  refine ⟨b, o, ha, fun i hi => ?_⟩
  obtain ⟨u, h5, h6⟩ := hh i hi
  exact ⟨u, h5, h6.congr (e i hi)⟩
theorem MatF.congr {w : World} {v : Value} {m n : Nat} {M N : Nat → Nat → Rat} (h : MatF w v m n M) (e : ∀ i, i < m → ∀ j, j < n → M i j = N i j) : MatF w v m n N := by
  obtain ⟨A, c, h1, h2, h3, h4⟩ := h
  refine ⟨A, c, h1, h2, h3, fun h0 => ?_⟩
  obtain ⟨b, o, ha, hh⟩ := h4 h0
  refine ⟨b, o, ha, fun i hi => ?_⟩
  obtain ⟨u, h5, h6⟩ := hh i hi
  exact ⟨u, h5, h6.congr (e i hi)⟩

theorem info_F : (Tryz.prog.info? 84).map (fun i => (i.zero, i.size, i.bytes)) = some (some (.agg #[.string ⟨#[]⟩, .string ⟨#[]⟩]), 2, 32) := by kernel_rfl
theorem info_Q : (Tryz.prog.info? 71).map (fun i => (i.zero, i.size, i.bytes)) = some (some (.agg #[.bool false, .slice none 0 0, .bool false, .slice none 0 0]), 4, 64) := by kernel_rfl
theorem info_sF : (Tryz.prog.info? 51).map (fun i => (i.zero, i.size, i.bytes)) = some (some (.slice none 0 0), 1, 24) := by kernel_rfl
theorem info_sQ : (Tryz.prog.info? 49).map (fun i => (i.zero, i.size, i.bytes)) = some (some (.slice none 0 0), 1, 24) := by kernel_rfl
end Go.Proofs.YtogakaiibijjpaaGreatDoor

/- Package matrix, first part: columns, size. -/
set_option linter.unusedVariables false
set_option linter.unusedSimpArgs false
namespace Go.Proofs.YtogakaiibijjpaaGreatDoor
open Go.RowKit
open DDig

theorem mat_columns (w : World) (v : Value) (m c : Nat) (M : Nat → Nat → Rat) (h : MatQ w v m c M) (hm : m ≤ 9223372036854775807) (k : Nat) (hk : k = if m = 0 then 0 else c) :
    Calls Tryz.prog 53 #[v] w (Ret w fun w' v => v = .int .i64 k) := by
  obtain ⟨A, d, rfl, h1, h2, h3⟩ := h
  have HX := Hid.mk (X.refl w)
  by_cases h0 : m = 0
  · subst h0
    obtain rfl : k = 0 := by simpa using hk
    clear h3 h2 hk
    go_enter Tryz.func53, Tryz.ntmps53
    go_wp2
    go_ret
    exact ⟨⟨_, rfl, rfl⟩, HX.out⟩
  · obtain rfl : k = c := by simpa [h0] using hk
    obtain ⟨b, o, rfl, g⟩ := h3 (by omega)
    obtain ⟨u, e0, B, d', rfl, h4, h5, h6⟩ := g 0 (by omega)
    rw [Nat.add_zero] at e0
    have hb : ((m : Int) == 0) = false := by rw [beq_eq_false_iff_ne]; omega
    have hp : (0 : Int) < (m : Int) := by omega
    clear g h3 h2 h5 h6 hk
    go_enter Tryz.func53, Tryz.ntmps53
    go_wp2
    go_ret
    exact ⟨⟨_, rfl, rfl⟩, HX.out⟩

set_option maxHeartbeats 1000000 in
theorem mat_size (w : World) (v : Value) (m c : Nat) (M : Nat → Nat → Rat) (h : MatQ w v m c M) (hm : m ≤ 256) (hc : c ≤ 96) :
    Calls Tryz.prog 51 #[v] w (Ret w fun w' v => v = .int .i64 0) := by
  have H := Hid.mk h
  obtain ⟨A, d, rfl, h1, h2, h3⟩ := h
  have H3 := Hid.mk h3
  clear h2 h3 H
  go_enter Tryz.func51, Tryz.ntmps51
  go_wp2_with fail
  go_loopw [4, 10] (fun t4 t10 wr => ∃ k q : Nat, k ≤ m ∧ t10 = .int .i64 k ∧ wr = w.drewN q) (fun _ t _ => m - (intOf t).toNat)
  case atStart => exact ⟨0, 0, Nat.zero_le _, rfl, rfl⟩
  case round =>
    obtain ⟨k, q, hk, rfl, rfl⟩ := hrel
    by_cases hkm : k < m
    · have hkm' : (k : Int) < (m : Int) := by omega
      obtain ⟨b, o, rfl, g⟩ := H3.out (by omega)
      obtain ⟨u, e0, B, d', rfl, h4, -, -⟩ := g 0 (by omega)
      obtain ⟨u, e1, B2, d2, rfl, h5, -, -⟩ := g k hkm
      rw [Nat.add_zero] at e0
      clear g
      go_wp2
      go_roundw
      case rel => exact ⟨k + 1, _, by omega, by go_num, rfl⟩
      case measure => simp [intOf]; omega
    · go_wp2
      go_ret
      exact ⟨⟨_, rfl, rfl⟩, (X.refl w).drewN q⟩
end Go.Proofs.YtogakaiibijjpaaGreatDoor

/- Rows of the call's own whose cells are of one sort; what 'append' leaves as it is. -/
set_option linter.unusedVariables false
set_option linter.unusedSimpArgs false
namespace Go.Proofs.YtogakaiibijjpaaGreatDoor
open Go.RowKit
open DDig

/-- A row of the call's own, and of what sort all cells of its block are. -/
def OwnC (C : Value → Prop) (w : World) (base : Nat) (e : TypeId) (size : Nat) (v : Value) (n : Nat) (xs : List Value) : Prop :=
  w.ownsRow base e size v n xs ∧ ∀ g, v.ownBlock = some g → ∃ cs : List Value, Blk w g e cs ∧ ∀ u ∈ cs, C u
/-- What is not of a sort is as it was. -/
def Kp (C : Value → Prop) (w w' : World) : Prop := ∀ p u, w.cell? p = some u → ¬ C u → w'.cell? p = some u
theorem OwnC.nil (C : Value → Prop) (w : World) (base : Nat) (e : TypeId) (size : Nat) : OwnC C w base e size (.slice none 0 0) 0 [] :=
  ⟨World.ownsRow_nil _ _ _ _, fun g h => by simp [Value.ownBlock] at h⟩
theorem OwnC.x {C : Value → Prop} {w w' : World} {base : Nat} {e : TypeId} {size n : Nat} {v : Value} {xs : List Value} (h : OwnC C w base e size v n xs) (hx : X w w') : OwnC C w' base e size v n xs :=
  ⟨own_x h.1 hx, fun g hg => by obtain ⟨cs, h1, h2⟩ := h.2 g hg; exact ⟨cs, h1.x hx, h2⟩⟩
theorem OwnC.empty (C : Value → Prop) (w : World) (e : TypeId) (size : Nat) : OwnC C (w.alloc (.cells #[] e)) w.heap.size e size (.slice (some ⟨w.heap.size, 0, none⟩) 0 0) 0 [] := by
  refine ⟨World.ownsRow_made w #[] 0 (Nat.le_refl _) (by simp) (by simp), fun g hg => ?_⟩
  simp [Value.ownBlock] at hg
  subst hg
  exact ⟨[], Blk.new w #[] e, by simp⟩
theorem OwnC.kp {C : Value → Prop} {w w' : World} {base : Nat} {e : TypeId} {size n : Nat} {v : Value} {xs : List Value} (h : OwnC C w base e size v n xs) (hk : ∀ b, b < w.heap.size → v.ownBlock ≠ some b → w'.heap[b]? = w.heap[b]?) : Kp C w w' := by
  intro p u hp hu
  by_cases hb : v.ownBlock = some p.block
  · obtain ⟨cs, h1, h2⟩ := h.2 _ hb
    exfalso
    apply hu
    unfold World.cell? at hp
    unfold Blk at h1
    simp only [h1] at hp
    simp at hp
    exact h2 u (List.mem_of_getElem? hp.2)
  · rw [cell_kept (hk _ (World.block_lt_of_cell? _ _ hp) hb)]; exact hp

theorem Blk.ofA {w : World} {g : Nat} {e : TypeId} {A : Array Value} (h : w.heap[g]? = some (.cells A e (0, 0))) : Blk w g e A.toList := by
  unfold Blk; rw [h]
theorem zeroCells_mem {z : Array Value} {n : Nat} {u : Value} (h : u ∈ (Builtin.zeroCells z n).toList) : u ∈ z.toList := by
  obtain ⟨k, hk, rfl⟩ := List.getElem_of_mem h
  have hz : 0 < z.size := by
    apply Nat.pos_of_ne_zero
    intro h
    simp [Builtin.zeroCells, h] at hk
  have hm := Nat.mod_lt k hz
  simp [Builtin.zeroCells, hm]

theorem run_append_C {P : Program} (C : Value → Prop) (w : World) (base : Nat) (t ty e : TypeId) (z : Value) (size bytes : Nat) (ht : P.underlying t = some (.slice e)) (h2 : (P.info? e).map (fun i => (i.zero, i.size, i.bytes)) = some (some z, size, bytes)) (hzs : z.cells.size = size) (hsz : 0 < size) (hzc : ∀ u ∈ z.cells.toList, C u)
    (v : Value) (n : Nat) (xs : List Value) (hown : OwnC C w base e size v n xs)
    (a : Addr) (m c : Nat) (news : List Value) (hl : news.length = m * size) (hnews : ∀ j u, news[j]? = some u → w.cell? (a.add j) = some u) (h1 : ∀ u ∈ news, u.oneCell' = true) (hnc : ∀ u ∈ news, C u)
    (h63 : n + m ≤ maxLen) (hbytes : (n + m) * bytes ≤ 140737488355328) (hbase : base ≤ w.heap.size) :
    ∃ v' w', (Builtin.append_ #[t, t] ty #[v, .slice (some a) m c]).run P w = .ok v' w' ∧ OwnC C w' base e size v' (n + m) (xs ++ news) ∧ w.grownBy w' v.ownBlock := by
  obtain ⟨i, hi, e1, e2, e3⟩ := info_parts h2
  obtain ⟨v', w', hr, ho, hg, hnil⟩ := run_append_own (P := P) w base t ty e i z size bytes ht hi e1 e2 e3 hzs hsz v n xs hown.1 a m c news hl hnews h1 h63 hbytes hbase
  refine ⟨v', w', hr, ⟨ho, ?_⟩, hg⟩
  subst e2
  subst e3
  have hsmall : n + m ≤ 9223372036854775807 := by simp only [maxLen] at h63; omega
  rcases hown.1.2 with ⟨rfl, rfl⟩ | ⟨g, cap, cur, rfl, hbg, hgg, hnc', hcm, hcs, htake⟩
  · have hx : xs = [] := List.eq_nil_of_length_eq_zero (by simpa using hown.1.1)
    by_cases hm : m = 0
    · intro g hg
      have := hnil.2 ⟨rfl, hm⟩
      subst this
      simp [Value.ownBlock] at hg
    · have hr' := run_append_nil (P := P) w t ty e i z ht hi e1 a m c news hl hnews (by omega) (by omega) (by have hb := hbytes; simp only [Nat.zero_add] at hb; omega)
      rw [hr'] at hr
      injection hr with hv hw
      subst hv
      subst hw
      intro g hg
      simp [Value.ownBlock] at hg
      subst hg
      refine ⟨_, Blk.ofA (heap_alloc_new w.drew _), fun u hu => ?_⟩
      simp only [Array.toList_append, List.mem_append] at hu
      rcases hu with hu | hu
      · exact hnc u (by simpa using hu)
      · exact hzc u (zeroCells_mem hu)
  · obtain ⟨cs, hcB, hcC⟩ := hown.2 g (by simp [Value.ownBlock])
    have hcur : ∀ u ∈ cur.toList, C u := by
      unfold Blk at hcB
      rw [hgg] at hcB
      injection hcB with hcB
      injection hcB with hcB
      subst hcB
      simpa using hcC
    by_cases hroom : n + m ≤ cap
    · have hfit : n * i.size + news.length ≤ cur.size := by rw [hl, hcs, ← Nat.add_mul]; exact Nat.mul_le_mul_right _ hroom
      have hr' := run_append_room (P := P) w t ty e i ht hi g n cap cur hgg a m c news hl hnews h1 hroom hfit
      rw [hr'] at hr
      injection hr with hv hw
      subst hv
      subst hw
      intro g' hg'
      simp [Value.ownBlock] at hg'
      subst hg'
      refine ⟨_, Blk.ofA (setRow_heap w g cur _ e _ hgg), fun u hu => ?_⟩
      simp only [List.mem_append] at hu
      rcases hu with (hu | hu) | hu
      · exact hcur u (List.mem_of_mem_take hu)
      · exact hnc u hu
      · exact hcur u (List.mem_of_mem_drop hu)
    · have holds : ∀ j u, xs[j]? = some u → w.cell? ((⟨g, 0, none⟩ : Addr).add j) = some u := hown.1.cells (g := g) rfl
      have hr' := run_append_grow (P := P) w t ty e i z ht hi e1 ⟨g, 0, none⟩ n cap xs hown.1.1 holds a m c news hl hnews (by omega) (by omega) (growslice_fits (by omega) hbytes)
      rw [hr'] at hr
      injection hr with hv hw
      subst hv
      subst hw
      intro g' hg'
      simp [Value.ownBlock] at hg'
      subst hg'
      refine ⟨_, Blk.ofA (heap_alloc_new w.drew _), fun u hu => ?_⟩
      simp only [Array.toList_append, List.mem_append] at hu
      rcases hu with (hu | hu) | hu
      · have : u ∈ xs := by simpa using hu
        rw [← htake] at this
        exact hcur u (List.mem_of_mem_take this)
      · exact hnc u (by simpa using hu)
      · exact hzc u (zeroCells_mem hu)

/-- 'append(out, xs...)' onto a row of one sort. -/
theorem append_C {P : Program} (C : Value → Prop) (w0 w : World) {ops : Array Oper} {rest : List Oper} {o : Oper} {a : Act} {Q : Exit → Act → World → Prop} (hgd : o.guard = none) (s x : Operand) (t : TypeId)
    (ho : o.op = .call { callee := .builtin .append, args := #[s, x], argTypes := #[t, t] })
    (e : TypeId) (z : Value) (size bytes : Nat) (ht : P.underlying t = some (.slice e)) (h2 : (P.info? e).map (fun i => (i.zero, i.size, i.bytes)) = some (some z, size, bytes)) (hzs : z.cells.size = size) (hsz : 0 < size) (hzc : ∀ u ∈ z.cells.toList, C u)
    (v : Value) (n : Nat) (xs : List Value) (hs : a.eval s = v) (hown : OwnC C w w0.heap.size e size v n xs)
    (ad : Addr) (m c : Nat) (news : List Value) (hx : a.eval x = .slice (some ad) m c) (hl : news.length = m * size) (hnews : ∀ j u, news[j]? = some u → w.cell? (ad.add j) = some u) (h1 : ∀ u ∈ news, u.oneCell' = true) (hnc : ∀ u ∈ news, C u)
    (h63 : n + m ≤ 9223372036854775807) (hbytes : (n + m) * bytes ≤ 140737488355328) (hX : X w0 w)
    (h : ∀ v' w', OwnC C w' w0.heap.size e size v' (n + m) (xs ++ news) → X w0 w' → (∀ b, b < w.heap.size → v.ownBlock ≠ some b → w'.heap[b]? = w.heap[b]?) → wpList P ops Q rest (a.put o.dst v') w') : wpList P ops Q (o :: rest) a w := by
  refine wpList_plain hgd fun _ hK => ?_
  obtain ⟨v', w', hr, h3, h4⟩ := run_append_C (P := P) C w w0.heap.size t o.type e z size bytes ht h2 hzs hsz hzc v n xs hown ad m c news hl hnews h1 hnc (by simp only [maxLen]; omega) hbytes hX.size
  unfold Oper.wp execOp
  simp only [ho, resolve, invoke, builtin, Sem.run_bind, Sem.run_pure, Result.andThen_ok, List.map_toArray, List.map_cons, List.map_nil, hs, hx, hr]
  exact hK _ _ (h v' w' h3 (hX.grown h4 (own_ge hown.1)) (fun b hb1 hb2 => h4.block b hb1 (fun e => hb2 e.symm)))

/-- 'append(out, x)' onto a row of one sort. -/
theorem append_oneC {P : Program} (C : Value → Prop) (w0 w : World) {ops : Array Oper} {rest : List Oper} {o : Oper} {a : Act} {Q : Exit → Act → World → Prop} (hgd : o.guard = none) (s x : Operand) (t : TypeId)
    (ho : o.op = .call { callee := .builtin .append, args := #[s, x], argTypes := #[t, t] })
    (e : TypeId) (z : Value) (size bytes : Nat) (ht : P.underlying t = some (.slice e)) (h2 : (P.info? e).map (fun i => (i.zero, i.size, i.bytes)) = some (some z, size, bytes)) (hzs : z.cells.size = size) (hsz : 0 < size) (hzc : ∀ u ∈ z.cells.toList, C u)
    (v : Value) (n : Nat) (xs : List Value) (hs : a.eval s = v) (hown : OwnC C w w0.heap.size e size v n xs)
    (cs : Array Value) (e' : TypeId) (c : Nat) (hx : a.eval x = .slice (some ⟨w.heap.size, 0, none⟩) 1 c) (hl : cs.size = size) (h1 : ∀ u ∈ cs.toList, u.oneCell' = true) (hnc : ∀ u ∈ cs.toList, C u)
    (hb : (n + 1) * bytes ≤ 140737488355328) (h63 : n + 1 ≤ 9223372036854775807) (hX : X w0 w)
    (h : ∀ v' w', OwnC C w' w0.heap.size e size v' (n + 1) (xs ++ cs.toList) → X w0 w' → (∀ b, b < w.heap.size → v.ownBlock ≠ some b → w'.heap[b]? = w.heap[b]?) → wpList P ops Q rest (a.put o.dst v') w') : wpList P ops Q (o :: rest) a (w.alloc (.cells cs e')) := by
  refine append_C C w0 (w.alloc (.cells cs e')) hgd s x t ho e z size bytes ht h2 hzs hsz hzc v n xs hs (hown.x ((X.refl w).alloc _)) ⟨w.heap.size, 0, none⟩ 1 c cs.toList hx (by simpa using hl) ?_ h1 hnc h63 hb (hX.alloc _) (fun v' w' h3 h4 h5 => h v' w' h3 h4 (fun b hb1 hb2 => by
    rw [h5 b (by simp; omega) hb2]; exact heap_alloc_old w _ hb1))
  intro j u hj
  have := (Blk.new w cs e').cell hj
  have e2 : (⟨w.heap.size, 0, none⟩ : Addr).add j = ⟨w.heap.size, j, none⟩ := by unfold Addr.add; split <;> simp_all
  rw [e2]; exact this

/-- 'append(out, x)' onto a row of one sort, at a step of a region that draws its order. -/
theorem step_append_oneC {P : Program} (C : Value → Prop) (w0 w : World) {ops : Array Oper} {o : Oper} {a : Act} {K : Act → World → Prop} {Q : Exit → Act → World → Prop} {E : Prop} (hgd : o.guard = none) (s x : Operand) (t : TypeId)
    (ho : o.op = .call { callee := .builtin .append, args := #[s, x], argTypes := #[t, t] })
    (e : TypeId) (z : Value) (size bytes : Nat) (ht : P.underlying t = some (.slice e)) (h2 : (P.info? e).map (fun i => (i.zero, i.size, i.bytes)) = some (some z, size, bytes)) (hzs : z.cells.size = size) (hsz : 0 < size) (hzc : ∀ u ∈ z.cells.toList, C u)
    (v : Value) (n : Nat) (xs : List Value) (hs : a.eval s = v) (hown : OwnC C w w0.heap.size e size v n xs)
    (cs : Array Value) (e' : TypeId) (c : Nat) (hx : a.eval x = .slice (some ⟨w.heap.size, 0, none⟩) 1 c) (hl : cs.size = size) (h1 : ∀ u ∈ cs.toList, u.oneCell' = true) (hnc : ∀ u ∈ cs.toList, C u)
    (hb : (n + 1) * bytes ≤ 140737488355328) (h63 : n + 1 ≤ 9223372036854775807) (hX : X w0 w)
    (h : ∀ v' w', OwnC C w' w0.heap.size e size v' (n + 1) (xs ++ cs.toList) → X w0 w' → (∀ b, b < w.heap.size → v.ownBlock ≠ some b → w'.heap[b]? = w.heap[b]?) → K (a.put o.dst v') w') :
    if Region.wanted o (yielded ops a.tmps) = true then Oper.wp P o a (w.alloc (.cells cs e')) K Q else E := by
  have hw : Region.wanted o (yielded ops a.tmps) = true := by simp [Region.wanted, hgd]
  rw [if_pos hw]
  have hnews : ∀ j u, cs.toList[j]? = some u → (w.alloc (.cells cs e')).cell? ((⟨w.heap.size, 0, none⟩ : Addr).add j) = some u := by
    intro j u hj
    have := (Blk.new w cs e').cell hj
    have e2 : (⟨w.heap.size, 0, none⟩ : Addr).add j = ⟨w.heap.size, j, none⟩ := by unfold Addr.add; split <;> simp_all
    rw [e2]; exact this
  obtain ⟨v', w', hr, h3, h4⟩ := run_append_C (P := P) C (w.alloc (.cells cs e')) w0.heap.size t o.type e z size bytes ht h2 hzs hsz hzc v n xs (hown.x ((X.refl w).alloc _)) ⟨w.heap.size, 0, none⟩ 1 c cs.toList (by simpa using hl) hnews h1 hnc (by simp only [maxLen]; omega) hb (hX.alloc _).size
  unfold Oper.wp execOp
  simp only [ho, resolve, invoke, builtin, Sem.run_bind, Sem.run_pure, Result.andThen_ok, List.map_toArray, List.map_cons, List.map_nil, hs, hx, hr]
  exact h v' w' h3 ((hX.alloc _).grown h4 (own_ge hown.1)) (fun b hb1 hb2 => by
    rw [h4.block b (by simp; omega) (fun e => hb2 e.symm)]; exact heap_alloc_old w _ hb1)

/-- Sorts of cells: slices; whole numbers of a kind; texts. -/
def IsSl (u : Value) : Prop := ∃ A n c, u = .slice A n c
def IsI64 (u : Value) : Prop := ∃ x, u = .int .i64 x
theorem nisl_bool (b : Bool) : ¬ IsSl (.bool b) := fun ⟨_, _, _, h⟩ => by cases h
theorem nisl_int (k : IntKind) (x : Int) : ¬ IsSl (.int k x) := fun ⟨_, _, _, h⟩ => by cases h
theorem nisl_str (s : ByteArray) : ¬ IsSl (.string s) := fun ⟨_, _, _, h⟩ => by cases h
theorem ni64_bool (b : Bool) : ¬ IsI64 (.bool b) := fun ⟨_, h⟩ => by cases h
theorem ni64_sl (A : Option Addr) (n c : Nat) : ¬ IsI64 (.slice A n c) := fun ⟨_, h⟩ => by cases h
theorem ni64_str (s : ByteArray) : ¬ IsI64 (.string s) := fun ⟨_, h⟩ => by cases h
theorem ni64_u32 (x : Int) : ¬ IsI64 (.int .u32 x) := fun ⟨_, h⟩ => by cases h

theorem Rd.kp {C : Value → Prop} {w w' : World} {k : IntKind} {A : Option Addr} {xs : List Int} (h : Rd w k A xs) (hk : Kp C w w') (hC : ∀ x, ¬ C (.int k x)) : Rd w' k A xs :=
  ⟨h.1, fun h0 => by obtain ⟨b, o, e, hc⟩ := h.2 h0; exact ⟨b, o, e, fun j hj => hk _ _ (hc j hj) (hC _)⟩⟩
theorem IntR.kp {C : Value → Prop} {w w' : World} {a : IV} {z : Int} (h : IntR w a z) (hk : Kp C w w') (hC : ∀ x, ¬ C (.int .u32 x)) : IntR w' a z := by
  obtain ⟨m, ⟨xs, h1, h2, h3, h4, h5⟩, h6, h7⟩ := h
  exact ⟨m, ⟨xs, h1, h2, h3.kp hk hC, h4, h5⟩, h6, h7⟩
theorem RatR.kp {C : Value → Prop} {w w' : World} {a : QV} {q : Rat} (h : RatR w a q) (hk : Kp C w w') (hC : ∀ x, ¬ C (.int .u32 x)) : RatR w' a q := by
  obtain ⟨e, h1, h2, h3⟩ := h
  exact ⟨e, h1.kp hk hC, h2.kp hk hC, h3⟩
theorem RowQ.kp {C : Value → Prop} {w w' : World} {A : Option Addr} {n : Nat} {f : Nat → Rat} (h : RowQ w A n f) (hk : Kp C w w') (hC : ∀ x, ¬ C (.int .u32 x)) (hb : ∀ b, ¬ C (.bool b)) (hs : ∀ A n c, ¬ C (.slice A n c)) : RowQ w' A n f := fun h0 => by
  obtain ⟨b, o, e, g⟩ := h h0
  refine ⟨b, o, e, fun j hj => ?_⟩
  obtain ⟨a, h1, h2, h3, h4, h5⟩ := g j hj
  exact ⟨a, hk _ _ h1 (hb _), hk _ _ h2 (hs _ _ _), hk _ _ h3 (hb _), hk _ _ h4 (hs _ _ _), h5.kp hk hC⟩
theorem SlQ.ki {w w' : World} {v : Value} {n : Nat} {f : Nat → Rat} (h : SlQ w v n f) (hk : Kp IsI64 w w') : SlQ w' v n f := by
  obtain ⟨A, c, h1, h2, h3, h4⟩ := h
  exact ⟨A, c, h1, h2, h3, h4.kp hk ni64_u32 ni64_bool ni64_sl⟩
/-- A store into a block of slices, or whatever leaves all other blocks as they are, leaves rows as they are. -/
theorem SlQ.ks {w w' : World} {v : Value} {n : Nat} {f : Nat → Rat} (h : SlQ w v n f) {g : Nat} {e : TypeId} {cs : List Value} (hg : Blk w g e cs) (hs : ∀ u ∈ cs, IsSl u) (hk : ∀ p : Addr, p.block ≠ g → w'.cell? p = w.cell? p) : SlQ w' v n f := by
  have hkp : Kp IsSl w w' := by
    intro p u hp hu
    by_cases e : p.block = g
    · exfalso
      apply hu
      unfold World.cell? at hp
      unfold Blk at hg
      rw [e] at hp
      simp only [hg] at hp
      simp at hp
      exact hs u (List.mem_of_getElem? hp.2)
    · rw [hk p e]; exact hp
  obtain ⟨A, c, h1, h2, h3, h4⟩ := h
  refine ⟨A, c, h1, h2, h3, fun h0 => ?_⟩
  obtain ⟨b, o, e, gg⟩ := h4 h0
  refine ⟨b, o, e, fun j hj => ?_⟩
  obtain ⟨a, k1, k2, k3, k4, k5⟩ := gg j hj
  have hb : b ≠ g := by
    intro e
    subst e
    unfold World.cell? at k1
    unfold Blk at hg
    simp only [hg] at k1
    simp at k1
    exact nisl_bool _ (hs _ (List.mem_of_getElem? k1))
  refine ⟨a, ?_, ?_, ?_, ?_, k5.kp hkp (nisl_int _)⟩
  · rw [hk _ hb]; exact k1
  · rw [hk _ hb]; exact k2
  · rw [hk _ hb]; exact k3
  · rw [hk _ hb]; exact k4
theorem RowQ.all {w w' : World} {A : Option Addr} {n : Nat} {f : Nat → Rat} (h : RowQ w A n f) (hk : ∀ p u, w.cell? p = some u → w'.cell? p = some u) : RowQ w' A n f :=
  h.kp (C := fun _ => False) (fun p u hp _ => hk p u hp) (fun _ h => h) (fun _ h => h) (fun _ _ _ h => h)
/-- An append to a row of slices leaves rows as they are. -/
theorem SlQ.kApp {w w' : World} {base : Nat} {e : TypeId} {n c : Nat} {u v : Value} {xs : List Value} {f : Nat → Rat} (h : SlQ w u c f) (ho : OwnC IsSl w base e 1 v n xs) (hk : ∀ b, b < w.heap.size → v.ownBlock ≠ some b → w'.heap[b]? = w.heap[b]?) : SlQ w' u c f := by
  have hkp := ho.kp hk
  obtain ⟨A, d, h1, h2, h3, h4⟩ := h
  refine ⟨A, d, h1, h2, h3, fun h0 => ?_⟩
  obtain ⟨b, o, e, gg⟩ := h4 h0
  refine ⟨b, o, e, fun j hj => ?_⟩
  obtain ⟨a, k1, k2, k3, k4, k5⟩ := gg j hj
  have hb : v.ownBlock ≠ some b := by
    intro hb
    obtain ⟨cs, hB, hC⟩ := ho.2 b hb
    unfold World.cell? at k1
    unfold Blk at hB
    simp only [hB] at k1
    simp at k1
    exact nisl_bool _ (hC _ (List.mem_of_getElem? k1))
  have hbl : b < w.heap.size := World.block_lt_of_cell? _ _ k1
  have hs := hk b hbl hb
  refine ⟨a, ?_, ?_, ?_, ?_, k5.kp hkp (nisl_int _)⟩
  · rw [cell_kept hs]; exact k1
  · rw [cell_kept hs]; exact k2
  · rw [cell_kept hs]; exact k3
  · rw [cell_kept hs]; exact k4
theorem SlF.kApp {w w' : World} {base : Nat} {e : TypeId} {n c : Nat} {u v : Value} {xs : List Value} {f : Nat → Rat} (h : SlF w u c f) (ho : OwnC IsSl w base e 1 v n xs) (hk : ∀ b, b < w.heap.size → v.ownBlock ≠ some b → w'.heap[b]? = w.heap[b]?) : SlF w' u c f := by
  have hkp := ho.kp hk
  obtain ⟨A, d, h1, h2, h3, h4⟩ := h
  refine ⟨A, d, h1, h2, h3, fun h0 => ?_⟩
  obtain ⟨b, o, e, gg⟩ := h4 h0
  refine ⟨b, o, e, fun j hj => ?_⟩
  obtain ⟨a, k1, k2, k3⟩ := gg j hj
  exact ⟨a, hkp _ _ k1 (nisl_str _), hkp _ _ k2 (nisl_str _), k3⟩
end Go.Proofs.YtogakaiibijjpaaGreatDoor

/- Package matrix, second part: copies of rows and of tables. -/
set_option linter.unusedVariables false
set_option linter.unusedSimpArgs false
namespace Go.Proofs.YtogakaiibijjpaaGreatDoor
open Go.RowKit
open DDig

theorem list_of {α : Type} {P : Nat → α → Prop} : ∀ n : Nat, (∀ j, j < n → ∃ a, P j a) → ∃ l : List α, l.length = n ∧ ∀ j a, l[j]? = some a → P j a
  | 0, _ => ⟨[], rfl, by simp⟩
  | n + 1, h => by
    obtain ⟨l, h1, h2⟩ := list_of n (fun j hj => h j (by omega))
    obtain ⟨a, ha⟩ := h n (by omega)
    refine ⟨l ++ [a], by simp [h1], fun j b hb => ?_⟩
    rcases Nat.lt_or_ge j n with hj | hj
    · rw [List.getElem?_append_left (by omega)] at hb; exact h2 j b hb
    · rw [List.getElem?_append_right (by omega), h1] at hb
      have : j = n := by
        have := (List.getElem?_eq_some_iff.1 hb).1
        simp at this; omega
      subst this
      simp at hb
      subst hb; exact ha

theorem flat_inv {α : Type} (c : α → List Value) (z : Nat) (hz : ∀ a, (c a).length = z) (hz0 : 0 < z) (xs : List α) {i : Nat} {v : Value} (h : (xs.flatMap c)[i]? = some v) : ∃ a, xs[i / z]? = some a ∧ (c a)[i % z]? = some v := by
  have hl := (List.getElem?_eq_some_iff.1 h).1
  rw [flat_len c z hz] at hl
  have hj : i / z < xs.length := Nat.div_lt_of_lt_mul (by rw [Nat.mul_comm]; exact hl)
  have ha : xs[i / z]? = some xs[i / z] := List.getElem?_eq_getElem hj
  refine ⟨xs[i / z], ha, ?_⟩
  rw [← flat_get c z hz xs (i / z) (i % z) _ ha (Nat.mod_lt _ hz0)]
  rw [show i / z * z + i % z = i by rw [Nat.mul_comm]; exact Nat.div_add_mod i z]
  exact h

theorem RowQ.list {w : World} {A : Option Addr} {n : Nat} {f : Nat → Rat} (h : RowQ w A n f) :
    ∃ qs : List QV, qs.length = n ∧ (∀ j a, qs[j]? = some a → RatR w a (f j)) ∧ ∀ b o, A = some ⟨b, o, none⟩ → ∀ i v, (qcs qs)[i]? = some v → w.cell? ⟨b, o + i, none⟩ = some v := by
  by_cases h0 : 0 < n
  · obtain ⟨b, o, rfl, g⟩ := h h0
    obtain ⟨qs, h1, h2⟩ := list_of n g
    refine ⟨qs, h1, fun j a ha => (h2 j a ha).2.2.2.2, fun b' o' e i v hv => ?_⟩
    injection e with e; injection e with e1 e2
    subst e1 e2
    obtain ⟨a, ha, hc⟩ := flat_inv qvc 4 (fun _ => rfl) (by omega) qs hv
    obtain ⟨c0, c1, c2, c3, -⟩ := h2 _ a ha
    have hlt : i % 4 < 4 := Nat.mod_lt _ (by omega)
    have hi : i = i / 4 * 4 + i % 4 := by omega
    rw [hi]
    obtain ⟨r, hr⟩ : ∃ r, r = i % 4 := ⟨_, rfl⟩
    rw [← hr] at hc hlt ⊢
    match r, hlt with
    | 0, _ => injection hc with hc; subst hc; simpa using c0
    | 1, _ => injection hc with hc; subst hc; simpa [Nat.add_assoc] using c1
    | 2, _ => injection hc with hc; subst hc; simpa [Nat.add_assoc] using c2
    | 3, _ => injection hc with hc; subst hc; simpa [Nat.add_assoc] using c3
  · obtain rfl : n = 0 := by omega
    exact ⟨[], rfl, by simp, by simp⟩

theorem add_off (b o i : Nat) : (⟨b, o, none⟩ : Addr).add i = ⟨b, o + i, none⟩ := by unfold Addr.add; split <;> simp_all

theorem qcs_one (qs : List QV) : ∀ u ∈ qcs qs, u.oneCell' = true := by
  intro u hu
  simp only [qcs, List.mem_flatMap] at hu
  obtain ⟨a, _, ha⟩ := hu
  simp [qvc] at ha
  rcases ha with rfl | rfl | rfl | rfl <;> rfl

set_option maxRecDepth 100000 in
set_option maxHeartbeats 1000000 in
theorem clone_q (w : World) (v : Value) (n : Nat) (f : Nat → Rat) (h : SlQ w v n f) (hn : n ≤ 1000000) :
    Calls Tryz.prog 54 #[v] w (Ret w fun w' v' => ∃ qs : List QV, qs.length = n ∧ w'.ownsRow w.heap.size 71 4 v' n (qcs qs) ∧ ∀ j a, qs[j]? = some a → RatR w' a (f j)) := by
  obtain ⟨A, c, rfl, h1, h2, h3⟩ := h
  cases A with
  | none =>
    obtain ⟨rfl, rfl⟩ := h2 rfl
    clear h1 h2 h3
    have heq := fun (w : World) (n c : Nat) => Lib.run_eql_slice_nil (P := Tryz.prog) w 49 71 none n c 0 0 Tryz.underlying49
    go_enter Tryz.func54, Tryz.ntmps54
    go_wp2
    go_ret
    exact ⟨⟨_, rfl, [], rfl, World.ownsRow_nil _ _ _ _, by simp⟩, X.refl w⟩
  | some ad =>
    obtain ⟨qs, hl, hq, hc⟩ := h3.list
    have HQ := Hid.mk hq
    have hnews : Hid (∀ j u, (qcs qs)[j]? = some u → w.cell? (ad.add j) = some u) := by
      intro j u hu
      by_cases h0 : 0 < n
      · obtain ⟨b, o, e, -⟩ := h3 h0
        injection e with e
        subst e
        rw [add_off]
        exact hc b o rfl j u hu
      · have : qs = [] := List.eq_nil_of_length_eq_zero (by omega)
        subst this
        simp [qcs] at hu
    have hql : (qcs qs).length = n * 4 := by rw [qcs, flat_len qvc 4 (fun _ => rfl), hl]
    clear h1 h2 h3 hq hc
    have heq := fun (w : World) (n c : Nat) => Lib.run_eql_slice_nil (P := Tryz.prog) w 49 71 (some ad) n c 0 0 Tryz.underlying49
    go_enter Tryz.func54, Tryz.ntmps54
    go_wp2_with (at_builtin; refine append_own _ rfl _ _ 49 rfl w.heap.size 71 (.agg #[.bool false, .slice none 0 0, .bool false, .slice none 0 0]) 4 64 Tryz.underlying49 info_Q rfl (by omega) (.slice (some ⟨w.heap.size, 0, none⟩) 0 0) 0 [] rfl (World.ownsRow_made w #[] 0 (Nat.le_refl _) (by simp) rfl) ad n c (qcs qs) rfl hql (fun j u hu => by exact ((X.refl w).alloc _).cell (hnews.out j u hu)) (qcs_one qs) (by omega) (by omega) (by simp) ?_; intro v1 w1 ho1 hg1; have HO := Hid.mk ho1; have HX := Hid.mk (((X.refl w).alloc _).grown hg1 (fun k hk => by injection hk with hk; subst hk; exact Nat.le_refl _)); clear ho1 hg1)
    go_ret
    have ho := HO.out
    rw [Nat.zero_add, List.nil_append] at ho
    exact ⟨⟨_, rfl, qs, hl, ho, fun j a ha => (HQ.out j a ha).x HX.out⟩, HX.out⟩

theorem RowM.list {S : World → Value → Nat → (Nat → Rat) → Prop} {w : World} {A : Option Addr} {m c : Nat} {M : Nat → Nat → Rat} (h : RowM S w A m c M) :
    ∃ us : List Value, us.length = m ∧ (∀ j u, us[j]? = some u → S w u c (M j)) ∧ ∀ b o, A = some ⟨b, o, none⟩ → ∀ i v, us[i]? = some v → w.cell? ⟨b, o + i, none⟩ = some v := by
  by_cases h0 : 0 < m
  · obtain ⟨b, o, rfl, g⟩ := h h0
    obtain ⟨us, h1, h2⟩ := list_of m g
    refine ⟨us, h1, fun j a ha => (h2 j a ha).2, fun b' o' e i v hv => ?_⟩
    injection e with e; injection e with e1 e2
    subst e1 e2
    exact (h2 i v hv).1
  · obtain rfl : m = 0 := by omega
    exact ⟨[], rfl, by simp, by simp⟩

theorem SlQ.cell1 {w : World} {v : Value} {n : Nat} {f : Nat → Rat} (h : SlQ w v n f) : v.oneCell' = true := by
  obtain ⟨A, c, rfl, -⟩ := h; rfl
theorem SlF.cell1 {w : World} {v : Value} {n : Nat} {f : Nat → Rat} (h : SlF w v n f) : v.oneCell' = true := by
  obtain ⟨A, c, rfl, -⟩ := h; rfl

set_option maxRecDepth 100000 in
set_option maxHeartbeats 1000000 in
theorem clone_m (w0 w : World) (v : Value) (m c : Nat) (M : Nat → Nat → Rat) (h : MatQ w0 v m c M) (hx0 : X w0 w) (hn : m ≤ 1000000) :
    Calls Tryz.prog 88 #[v] w (Ret w fun w' v' => ∃ us : List Value, us.length = m ∧ OwnC IsSl w' w.heap.size 49 1 v' m us ∧ ∀ j u, us[j]? = some u → SlQ w0 u c (M j)) := by
  obtain ⟨A, d, rfl, h1, h2, h3⟩ := h
  cases A with
  | none =>
    obtain ⟨rfl, rfl⟩ := h2 rfl
    clear h1 h2 h3
    have heq := fun (w : World) (n c : Nat) => Lib.run_eql_slice_nil (P := Tryz.prog) w 29 49 none n c 0 0 Tryz.underlying29
    go_enter Tryz.func88, Tryz.ntmps88
    go_wp2
    go_ret
    exact ⟨⟨_, rfl, [], rfl, OwnC.nil _ _ _ _ _, by simp⟩, X.refl w⟩
  | some ad =>
    obtain ⟨us, hl, hq, hc⟩ := h3.list
    have HQ := Hid.mk hq
    have hone : ∀ u ∈ us, u.oneCell' = true := by
      intro u hu
      obtain ⟨i, hi, e⟩ := List.getElem_of_mem hu
      exact (hq i u (by rw [List.getElem?_eq_getElem hi, e])).cell1
    have HONE := Hid.mk hone
    have hsl : Hid (∀ u ∈ us, IsSl u) := by
      intro u hu
      obtain ⟨i, hi, e⟩ := List.getElem_of_mem hu
      obtain ⟨B, d', e', -⟩ := hq i u (by rw [List.getElem?_eq_getElem hi, e])
      exact ⟨B, c, d', e'⟩
    have hnews : Hid (∀ j u, us[j]? = some u → w.cell? (ad.add j) = some u) := by
      intro j u hu
      by_cases h0 : 0 < m
      · obtain ⟨b, o, e, -⟩ := h3 h0
        injection e with e
        subst e
        rw [add_off]
        exact hx0.cell (hc b o rfl j u hu)
      · have : us = [] := List.eq_nil_of_length_eq_zero (by omega)
        subst this
        simp at hu
    have hql : us.length = m * 1 := by omega
    clear h1 h2 h3 hq hc hone
    have heq := fun (w : World) (n c : Nat) => Lib.run_eql_slice_nil (P := Tryz.prog) w 29 49 (some ad) n c 0 0 Tryz.underlying29
    go_enter Tryz.func88, Tryz.ntmps88
    go_wp2_with (at_builtin; refine append_C IsSl w _ rfl _ _ 29 rfl 49 (.slice none 0 0) 1 24 Tryz.underlying29 info_sQ rfl (by omega) (fun u hu => ⟨none, 0, 0, by simpa [Value.cells] using hu⟩) (.slice (some ⟨w.heap.size, 0, none⟩) 0 0) 0 [] rfl (OwnC.empty IsSl w _ 1) ad m d us rfl hql (fun j u hu => by exact ((X.refl w).alloc _).cell (hnews.out j u hu)) HONE.out hsl.out (by omega) (by omega) ((X.refl w).alloc _) ?_; intro v1 w1 ho1 hx1 _; have HO := Hid.mk ho1; have HX := Hid.mk hx1; clear ho1 hx1)
    go_ret
    have ho := HO.out
    rw [Nat.zero_add, List.nil_append] at ho
    exact ⟨⟨_, rfl, us, hl, ho, HQ.out⟩, HX.out⟩
end Go.Proofs.YtogakaiibijjpaaGreatDoor

/- Package rational, fifth part: Compare, Div. -/
set_option linter.unusedVariables false
set_option linter.unusedSimpArgs false
namespace Go.Proofs.YtogakaiibijjpaaGreatDoor
open Go.RowKit
open DDig

/-- What Compare answers. -/
def rcmp (x y : Rat) : Int := Int.sign (x.num * y.den - y.num * x.den)
theorem rcmp_lt {x y : Rat} : rcmp x y < 0 ↔ x < y := by
  rw [rcmp, Int.sign_neg_iff, Rat.lt_iff]
  omega
theorem rcmp_gt {x y : Rat} : 0 < rcmp x y ↔ y < x := by
  rw [rcmp, Int.sign_pos_iff, Rat.lt_iff]
  omega
theorem rcmp_eq {x y : Rat} : rcmp x y = 0 ↔ x = y := by
  rw [rcmp, Int.sign_eq_zero_iff_zero, Rat.eq_iff_mul_eq_mul]
  omega

set_option maxRecDepth 100000 in
set_option maxHeartbeats 4000000 in
theorem rat_compare (w : World) (a b : QV) (x y : Rat) (ha : RatR w a x) (hb : RatR w b y) (k l : Nat) (hx : RSz x k) (hy : RSz y l) (hkl : k + l + 1 ≤ 549755813888) :
    Calls Tryz.prog 47 #[a.v, b.v] w (Ret w fun w' v => v = .int .i64 (rcmp x y)) := by
  have HA := Hid.mk ha
  have HB := Hid.mk hb
  have SX := Hid.mk hx
  have SY := Hid.mk hy
  clear hx hy
  clear ha hb
  go_enter Tryz.func47, Tryz.ntmps47
  go_upto_region 1 with (fail)
  obtain ⟨W, hW, hX, b0, b1⟩ := setup2 w #[.bool a.s, .slice a.A a.n a.c, .bool a.t, .slice a.B a.m a.d] #[.bool b.s, .slice b.A b.n b.c, .bool b.t, .slice b.B b.m b.d] 71 71
  rw [hW]
  clear hW
  go_cut [10] (fun t10 wc => ∃ bb : Bool, t10 = .bool bb ∧ (bb = true → x.den = 1 ∧ y.den = 1) ∧ X W wc)
  case first =>
    have HC := Hid.mk (fun w' (h : X W w') => (⟨(b0.x h).cell (j := 0) rfl, (b0.x h).cell (j := 1) rfl, (b0.x h).cell (j := 2) rfl, (b0.x h).cell (j := 3) rfl, (b1.x h).cell (j := 0) rfl, (b1.x h).cell (j := 1) rfl, (b1.x h).cell (j := 2) rfl, (b1.x h).cell (j := 3) rfl⟩ : w'.cell? ⟨w.heap.size, 0, none⟩ = some (.bool a.s) ∧ w'.cell? ⟨w.heap.size, 1, none⟩ = some (.slice a.A a.n a.c) ∧ w'.cell? ⟨w.heap.size, 2, none⟩ = some (.bool a.t) ∧ w'.cell? ⟨w.heap.size, 3, none⟩ = some (.slice a.B a.m a.d) ∧ w'.cell? ⟨w.heap.size + 1, 0, none⟩ = some (.bool b.s) ∧ w'.cell? ⟨w.heap.size + 1, 1, none⟩ = some (.slice b.A b.n b.c) ∧ w'.cell? ⟨w.heap.size + 1, 2, none⟩ = some (.bool b.t) ∧ w'.cell? ⟨w.heap.size + 1, 3, none⟩ = some (.slice b.B b.m b.d)))
    have hS := HC.out W (X.refl W)
    by_cases hx1 : x.den = 1
    · go_wp2_with fail
      refine (rat_whole_at _ a x true (HA.out.x hX) (by simpa using hx1)).mono ?_
      rintro e w1 ⟨⟨v, rfl, rfl⟩, hz1⟩
      have hS1 := HC.out w1 hz1
      go_wp2_with fail
      refine (rat_whole_at _ b y (decide (y.den = 1)) (HB.out.x (hX.trans hz1)) rfl).mono ?_
      rintro e w2 ⟨⟨v, rfl, rfl⟩, hz2⟩
      go_wp2_with fail
      go_meet
      exact ⟨_, rfl, fun h => ⟨hx1, by simpa using h⟩, hz1.trans hz2⟩
    · go_wp2_with fail
      refine (rat_whole_at _ a x false (HA.out.x hX) (by simpa using hx1)).mono ?_
      rintro e w1 ⟨⟨v, rfl, rfl⟩, hz1⟩
      go_wp2_with fail
      go_meet
      exact ⟨false, rfl, by simp, hz1⟩
  case rest =>
    obtain ⟨bb, rfl, hbb, hx0⟩ := hcut
    replace hX := hX.trans hx0
    replace b0 := b0.x hx0
    replace b1 := b1.x hx0
    clear hx0 W
    have HC := Hid.mk (fun w' (h : X wc w') => (⟨(b0.x h).cell (j := 0) rfl, (b0.x h).cell (j := 1) rfl, (b0.x h).cell (j := 2) rfl, (b0.x h).cell (j := 3) rfl, (b1.x h).cell (j := 0) rfl, (b1.x h).cell (j := 1) rfl, (b1.x h).cell (j := 2) rfl, (b1.x h).cell (j := 3) rfl⟩ : w'.cell? ⟨w.heap.size, 0, none⟩ = some (.bool a.s) ∧ w'.cell? ⟨w.heap.size, 1, none⟩ = some (.slice a.A a.n a.c) ∧ w'.cell? ⟨w.heap.size, 2, none⟩ = some (.bool a.t) ∧ w'.cell? ⟨w.heap.size, 3, none⟩ = some (.slice a.B a.m a.d) ∧ w'.cell? ⟨w.heap.size + 1, 0, none⟩ = some (.bool b.s) ∧ w'.cell? ⟨w.heap.size + 1, 1, none⟩ = some (.slice b.A b.n b.c) ∧ w'.cell? ⟨w.heap.size + 1, 2, none⟩ = some (.bool b.t) ∧ w'.cell? ⟨w.heap.size + 1, 3, none⟩ = some (.slice b.B b.m b.d)))
    cases bb with
    | true =>
      obtain ⟨hx1, hy1⟩ := hbb rfl
      have hS := HC.out wc (X.refl wc)
      have e0 : Int.sign (x.num - y.num) = rcmp x y := by rw [rcmp, hx1, hy1]; simp
      go_wp2_with fail
      refine (int_compare_at _ ⟨a.s, a.A, a.n, a.c⟩ ⟨b.s, b.A, b.n, b.c⟩ x.num y.num _ (HA.out.x hX).num (HB.out.x hX).num e0).mono ?_
      rintro e w1 ⟨⟨v, rfl, rfl⟩, hx2⟩
      have HX := Hid.mk (hX.trans hx2)
      clear b0 b1 hX hx2 HC hS e0
      go_wp2
      go_ret
      exact ⟨⟨_, rfl, rfl⟩, HX.out⟩
    | false =>
      clear hbb
      have sn1 : a.n ≤ 549755813888 := by have := (HA.out.x hX).num.size SX.out.1; simp at this; omega
      have sn2 : b.n ≤ 549755813888 := by have := (HB.out.x hX).num.size SY.out.1; simp at this; omega
      have s1 : ∀ {w : World} {r : IV}, IntR w r x.den → r.n ≤ 549755813888 := fun h => by have := h.size (k := k) (by simpa using SX.out.2); omega
      have s2 : ∀ {w : World} {r : IV}, IntR w r y.den → r.n ≤ 549755813888 := fun h => by have := h.size (k := l) (by simpa using SY.out.2); omega
      have sp1 : ((x.num * y.den).natAbs : Int) < pw B32 (k + l) := natAbs_lt_pw SX.out.1 (by simpa using SY.out.2)
      have sp2 : ((y.num * x.den).natAbs : Int) < pw B32 (k + l) := by
        have := natAbs_lt_pw SY.out.1 (b := x.den) (l := k) (by simpa using SX.out.2)
        rw [Nat.add_comm] at this; exact this
      have s3 : ∀ {w : World} {r : IV}, IntR w r (x.num * y.den) → r.n ≤ 549755813888 := fun h => by have := h.size sp1; omega
      have s4 : ∀ {w : World} {r : IV}, IntR w r (y.num * x.den) → r.n ≤ 549755813888 := fun h => by have := h.size sp2; omega
      clear sp1 sp2
      go_wp2_with fail
      have hz0 : X wc wc.drew := ⟨rfl, rfl, rfl, Nat.le_refl _, fun _ _ => rfl⟩
      have hS0 := HC.out wc (X.refl _)
      go_region_held3 (fun w' => w'.cell? ⟨w.heap.size, 0, none⟩ = some (.bool a.s) ∧ w'.cell? ⟨w.heap.size, 1, none⟩ = some (.slice a.A a.n a.c) ∧ w'.cell? ⟨w.heap.size, 2, none⟩ = some (.bool a.t) ∧ w'.cell? ⟨w.heap.size, 3, none⟩ = some (.slice a.B a.m a.d) ∧ w'.cell? ⟨w.heap.size + 1, 0, none⟩ = some (.bool b.s) ∧ w'.cell? ⟨w.heap.size + 1, 1, none⟩ = some (.slice b.A b.n b.c) ∧ w'.cell? ⟨w.heap.size + 1, 2, none⟩ = some (.bool b.t) ∧ w'.cell? ⟨w.heap.size + 1, 3, none⟩ = some (.slice b.B b.m b.d))
        (go_keep)
        (first
          | (have hguard := hz4; go_at_call 83; refine (int_compare_at _ r2 r4 (x.num * y.den) (y.num * x.den) _ hr2 hr4 rfl).mono ?_; rintro e w5 ⟨⟨v5, rfl, rfl⟩, hx5⟩; have hz5 : X wc w5 := hz4.trans hx5; have hr1 := hr1.x hx5; have hr2 := hr2.x hx5; have hr3 := hr3.x hx5; have hr4 := hr4.x hx5; have hS5 := HC.out w5 hz5)
          | (have hguard := hz3; go_at_call 84; refine (int_mul _ ⟨b.s, b.A, b.n, b.c⟩ r3 y.num x.den (by exact (HB.out.x (hX.trans hz3)).num) hr3 (by show b.n ≤ _; omega) (by have := s1 hr3; omega)).mono ?_; rintro e w4 ⟨⟨v4, rfl, r4, rfl, hr4⟩, hx4⟩; have hz4 : X wc w4 := hz3.trans hx4; have hr1 := hr1.x hx4; have hr2 := hr2.x hx4; have hr3 := hr3.x hx4; have hS4 := HC.out w4 hz4)
          | (have hguard := hz2; go_at_call 85; refine (rat_den _ a x (HA.out.x (hX.trans hz2))).mono ?_; rintro e w3 ⟨⟨v3, rfl, r3, rfl, hr3⟩, hx3⟩; have hz3 : X wc w3 := hz2.trans hx3; have hr1 := hr1.x hx3; have hr2 := hr2.x hx3; have hS3 := HC.out w3 hz3)
          | (have hguard := hz1; go_at_call 84; refine (int_mul _ ⟨a.s, a.A, a.n, a.c⟩ r1 x.num y.den (by exact (HA.out.x (hX.trans hz1)).num) hr1 (by show a.n ≤ _; omega) (by have := s2 hr1; omega)).mono ?_; rintro e w2 ⟨⟨v2, rfl, r2, rfl, hr2⟩, hx2⟩; have hz2 : X wc w2 := hz1.trans hx2; have hr1 := hr1.x hx2; have hS2 := HC.out w2 hz2)
          | (have hguard := hz0; go_at_call 85; refine (rat_den _ b y (HB.out.x (hX.trans hz0))).mono ?_; rintro e w1 ⟨⟨v1, rfl, r1, rfl, hr1⟩, hx1⟩; have hz1 : X wc w1 := hz0.trans hx1; have hS1 := HC.out w1 hz1))
      have HX := Hid.mk (hX.trans hz5)
      clear b0 b1 hX HC
      go_wp2
      go_ret
      exact ⟨⟨_, rfl, rfl⟩, HX.out⟩

theorem rat_num_zero {y : Rat} : y.num = 0 ↔ y = 0 := Rat.num_eq_zero
theorem div_divInt (x y : Rat) : Rat.divInt (x.num * y.den) (x.den * y.num) = x / y := by
  rw [Rat.div_def, Rat.inv_def]
  conv => rhs; rw [← Rat.num_divInt_den x]
  rw [Rat.divInt_mul_divInt]
theorem rat_sign_at (w : World) (a : QV) (x : Rat) (s : Int) (ha : RatR w a x) (hs : Int.sign x.num = s) : Calls Tryz.prog 32 #[a.v] w (Ret w fun _ v => v = .int .i64 s) := by
  subst hs
  exact rat_sign w a x ha

set_option maxRecDepth 100000 in
set_option maxHeartbeats 4000000 in
theorem rat_div (w : World) (a b : QV) (x y : Rat) (ha : RatR w a x) (hb : RatR w b y) (k l : Nat) (hx : RSz x k) (hy : RSz y l) (hkl : k + l ≤ 549755813888) :
    Calls Tryz.prog 113 #[a.v, b.v] w (Ret w fun w' v => ∃ r : QV, v = .tuple #[r.v, .int .i64 (if y = 0 then 19 else 0)] ∧ RatR w' r (if y = 0 then 0 else x / y)) := by
  have HA := Hid.mk ha
  have HB := Hid.mk hb
  have SX := Hid.mk hx
  have SY := Hid.mk hy
  clear hx hy
  clear ha hb
  go_enter Tryz.func113, Tryz.ntmps113
  go_upto_region 1 with (fail)
  obtain ⟨W, hW, hX, b0, b1, b2⟩ := setup3 w #[.bool a.s, .slice a.A a.n a.c, .bool a.t, .slice a.B a.m a.d] #[.bool b.s, .slice b.A b.n b.c, .bool b.t, .slice b.B b.m b.d] #[.bool false, .slice none 0 0, .bool false, .slice none 0 0] 71 71 71
  rw [hW]
  clear hW
  have HC := Hid.mk (fun w' (h : X W w') => (⟨(b0.x h).cell (j := 0) rfl, (b0.x h).cell (j := 1) rfl, (b0.x h).cell (j := 2) rfl, (b0.x h).cell (j := 3) rfl, (b1.x h).cell (j := 0) rfl, (b1.x h).cell (j := 1) rfl, (b1.x h).cell (j := 2) rfl, (b1.x h).cell (j := 3) rfl⟩ : w'.cell? ⟨w.heap.size, 0, none⟩ = some (.bool a.s) ∧ w'.cell? ⟨w.heap.size, 1, none⟩ = some (.slice a.A a.n a.c) ∧ w'.cell? ⟨w.heap.size, 2, none⟩ = some (.bool a.t) ∧ w'.cell? ⟨w.heap.size, 3, none⟩ = some (.slice a.B a.m a.d) ∧ w'.cell? ⟨w.heap.size + 1, 0, none⟩ = some (.bool b.s) ∧ w'.cell? ⟨w.heap.size + 1, 1, none⟩ = some (.slice b.A b.n b.c) ∧ w'.cell? ⟨w.heap.size + 1, 2, none⟩ = some (.bool b.t) ∧ w'.cell? ⟨w.heap.size + 1, 3, none⟩ = some (.slice b.B b.m b.d)))
  have hS := HC.out W (X.refl W)
  obtain ⟨z, hz⟩ : ∃ z, Int.sign y.num = z := ⟨_, rfl⟩
  go_wp2_with fail
  refine (rat_sign_at _ b y z (HB.out.x hX) hz).mono ?_
  rintro e W1 ⟨⟨v, rfl, rfl⟩, hz1⟩
  by_cases hy0 : y = 0
  · obtain rfl : z = 0 := by rw [← hz, hy0]; rfl
    have p2 := b2.x hz1
    have k0 := p2.cell (j := 0) rfl; have k1 := p2.cell (j := 1) rfl; have k2 := p2.cell (j := 2) rfl; have k3 := p2.cell (j := 3) rfl; have f0 := p2.frozen 0; have f1 := p2.frozen 1; have f2 := p2.frozen 2; have f3 := p2.frozen 3
    have K := four_cells p2 (.bool false) (.slice none 0 0) (.bool false) (.slice none 0 0)
    have hR : RatR W1 ⟨false, none, 0, 0, false, none, 0, 0⟩ 0 := RatR.whole (IntR.zero W1)
    have HR := Hid.mk (hR.put4 p2 ⟨false, none, 0, 0, false, none, 0, 0⟩)
    have HX := Hid.mk ((hX.trans hz1).put4 (g := w.heap.size + 1 + 1) (by omega) ⟨false, none, 0, 0, false, none, 0, 0⟩)
    clear b0 b1 b2 hX HC p2 hz1 hR
    go_wp2
    refine bodyPost_ret (v := .tuple #[.agg #[.bool false, .slice none 0 0, .bool false, .slice none 0 0], .int .i64 19]) ?_ rfl ⟨⟨_, rfl, ⟨false, none, 0, 0, false, none, 0, 0⟩, by first | rfl | rw [if_pos hy0], by first | exact HR.out | (rw [if_pos hy0]; exact HR.out)⟩, HX.out⟩
    simp [results, Tryz.results113, go_sem, K.1, K.2.1, K.2.2.1, K.2.2.2]
  · have hyn : y.num ≠ 0 := fun h => hy0 (rat_num_zero.1 h)
    have hzn : ¬ z = 0 := by rw [← hz, Int.sign_eq_zero_iff_zero]; exact hyn
    replace b0 := b0.x hz1
    replace b1 := b1.x hz1
    replace b2 := b2.x hz1
    replace hX := hX.trans hz1
    clear HC hS hz1
    have HC := Hid.mk (fun w' (h : X W1 w') => (⟨(b0.x h).cell (j := 0) rfl, (b0.x h).cell (j := 1) rfl, (b0.x h).cell (j := 2) rfl, (b0.x h).cell (j := 3) rfl, (b1.x h).cell (j := 0) rfl, (b1.x h).cell (j := 1) rfl, (b1.x h).cell (j := 2) rfl, (b1.x h).cell (j := 3) rfl⟩ : w'.cell? ⟨w.heap.size, 0, none⟩ = some (.bool a.s) ∧ w'.cell? ⟨w.heap.size, 1, none⟩ = some (.slice a.A a.n a.c) ∧ w'.cell? ⟨w.heap.size, 2, none⟩ = some (.bool a.t) ∧ w'.cell? ⟨w.heap.size, 3, none⟩ = some (.slice a.B a.m a.d) ∧ w'.cell? ⟨w.heap.size + 1, 0, none⟩ = some (.bool b.s) ∧ w'.cell? ⟨w.heap.size + 1, 1, none⟩ = some (.slice b.A b.n b.c) ∧ w'.cell? ⟨w.heap.size + 1, 2, none⟩ = some (.bool b.t) ∧ w'.cell? ⟨w.heap.size + 1, 3, none⟩ = some (.slice b.B b.m b.d)))
    have n1 : ¬ w.heap.size + 1 + 1 = w.heap.size := by omega
    have n2 : ¬ w.heap.size + 1 + 1 = w.heap.size + 1 := by omega
    have sn1 : a.n ≤ 549755813888 := by have := (HA.out.x hX).num.size SX.out.1; simp at this; omega
    have sn2 : b.n ≤ 549755813888 := by have := (HB.out.x hX).num.size SY.out.1; simp at this; omega
    have s1 : ∀ {w : World} {r : IV}, IntR w r x.den → r.n ≤ 549755813888 := fun h => by have := h.size (k := k) (by simpa using SX.out.2); omega
    have s2 : ∀ {w : World} {r : IV}, IntR w r y.den → r.n ≤ 549755813888 := fun h => by have := h.size (k := l) (by simpa using SY.out.2); omega
    have sp1 : ((x.num * y.den).natAbs : Int) < pw B32 (k + l) := natAbs_lt_pw SX.out.1 (by simpa using SY.out.2)
    have sp2 : ((x.den * y.num).natAbs : Int) < pw B32 (k + l) := natAbs_lt_pw (a := x.den) (by simpa using SX.out.2) SY.out.1
    have s3 : ∀ {w : World} {r : IV}, IntR w r (x.num * y.den) → r.n ≤ 549755813888 := fun h => by have := h.size sp1; omega
    have s4 : ∀ {w : World} {r : IV}, IntR w r (x.den * y.num) → r.n ≤ 549755813888 := fun h => by have := h.size sp2; omega
    have hd : (x.den : Int) * y.num ≠ 0 := by
      have := x.den_pos
      exact Int.mul_ne_zero (by omega) hyn
    clear sp1 sp2 hyn hz
    go_wp2_with fail
    have hz0 : X W1 W1.drew := ⟨rfl, rfl, rfl, Nat.le_refl _, fun _ _ => rfl⟩
    have hS0 := HC.out W1 (X.refl _)
    go_region_held3 (fun w' => w'.cell? ⟨w.heap.size, 0, none⟩ = some (.bool a.s) ∧ w'.cell? ⟨w.heap.size, 1, none⟩ = some (.slice a.A a.n a.c) ∧ w'.cell? ⟨w.heap.size, 2, none⟩ = some (.bool a.t) ∧ w'.cell? ⟨w.heap.size, 3, none⟩ = some (.slice a.B a.m a.d) ∧ w'.cell? ⟨w.heap.size + 1, 0, none⟩ = some (.bool b.s) ∧ w'.cell? ⟨w.heap.size + 1, 1, none⟩ = some (.slice b.A b.n b.c) ∧ w'.cell? ⟨w.heap.size + 1, 2, none⟩ = some (.bool b.t) ∧ w'.cell? ⟨w.heap.size + 1, 3, none⟩ = some (.slice b.B b.m b.d))
      (go_keep)
      (first
        | (have hguard := hz4; go_at_call 86; refine (rat_reduced _ r2 r4 (x.num * y.den) (x.den * y.num) hr2 hr4 (s3 hr2) (s4 hr4) hd).mono ?_; rintro e w5 ⟨⟨v5, rfl, r5, rfl, hr5⟩, hx5⟩; have hz5 : X W1 w5 := hz4.trans hx5; have hr1 := hr1.x hx5; have hr2 := hr2.x hx5; have hr3 := hr3.x hx5; have hr4 := hr4.x hx5; have hS5 := HC.out w5 hz5; have p2 := b2.x hz5; have k0 := p2.cell (j := 0) rfl; have k1 := p2.cell (j := 1) rfl; have k2 := p2.cell (j := 2) rfl; have k3 := p2.cell (j := 3) rfl; have f0 := p2.frozen 0; have f1 := p2.frozen 1; have f2 := p2.frozen 2; have f3 := p2.frozen 3)
        | (have hguard := hz3; go_at_call 84; refine (int_mul _ r3 ⟨b.s, b.A, b.n, b.c⟩ x.den y.num hr3 (by exact (HB.out.x (hX.trans hz3)).num) (by have := s1 hr3; omega) (by show b.n ≤ _; omega)).mono ?_; rintro e w4 ⟨⟨v4, rfl, r4, rfl, hr4⟩, hx4⟩; have hz4 : X W1 w4 := hz3.trans hx4; have hr1 := hr1.x hx4; have hr2 := hr2.x hx4; have hr3 := hr3.x hx4; have hS4 := HC.out w4 hz4)
        | (have hguard := hz2; go_at_call 85; refine (rat_den _ a x (HA.out.x (hX.trans hz2))).mono ?_; rintro e w3 ⟨⟨v3, rfl, r3, rfl, hr3⟩, hx3⟩; have hz3 : X W1 w3 := hz2.trans hx3; have hr1 := hr1.x hx3; have hr2 := hr2.x hx3; have hS3 := HC.out w3 hz3)
        | (have hguard := hz1; go_at_call 84; refine (int_mul _ ⟨a.s, a.A, a.n, a.c⟩ r1 x.num y.den (by exact (HA.out.x (hX.trans hz1)).num) hr1 (by show a.n ≤ _; omega) (by have := s2 hr1; omega)).mono ?_; rintro e w2 ⟨⟨v2, rfl, r2, rfl, hr2⟩, hx2⟩; have hz2 : X W1 w2 := hz1.trans hx2; have hr1 := hr1.x hx2; have hS2 := HC.out w2 hz2)
        | (have hguard := hz0; go_at_call 85; refine (rat_den _ b y (HB.out.x (hX.trans hz0))).mono ?_; rintro e w1 ⟨⟨v1, rfl, r1, rfl, hr1⟩, hx1⟩; have hz1 : X W1 w1 := hz0.trans hx1; have hS1 := HC.out w1 hz1))
    rw [div_divInt] at hr5
    have K := four_cells p2 (.bool r5.s) (.slice r5.A r5.n r5.c) (.bool r5.t) (.slice r5.B r5.m r5.d)
    have HR := Hid.mk (hr5.put4 p2 r5)
    have HX := Hid.mk ((hX.trans hz5).put4 (g := w.heap.size + 1 + 1) (by omega) r5)
    clear b0 b1 b2 hX HC p2
    go_wp2
    refine bodyPost_ret (v := .tuple #[r5.v, .int .i64 0]) ?_ rfl ⟨⟨_, rfl, r5, by first | rfl | rw [if_neg hy0], by first | exact HR.out | (rw [if_neg hy0]; exact HR.out)⟩, HX.out⟩
    simp [results, Tryz.results113, go_sem, K.1, K.2.1, K.2.2.1, K.2.2.2]
end Go.Proofs.YtogakaiibijjpaaGreatDoor

/- Package matrix, third part: the closures of over and less. -/
set_option linter.unusedVariables false
set_option linter.unusedSimpArgs false
namespace Go.Proofs.YtogakaiibijjpaaGreatDoor
open Go.RowKit
open DDig

theorem RSz.of_divInt {a b : Int} {k : Nat} (hb : b ≠ 0) (h1 : (a.natAbs : Int) < pw B32 k) (h2 : (b.natAbs : Int) < pw B32 k) : RSz (Rat.divInt a b) k := by
  have key : ∀ {a b : Int}, 0 < b → (a.natAbs : Int) < pw B32 k → (b.natAbs : Int) < pw B32 k → RSz (Rat.divInt a b) k := by
    intro a b hb h1 h2
    obtain ⟨e1, e2⟩ := divInt_parts (x := a) hb
    have hg : 0 < (Int.gcd a b : Int) := by
      have : 0 < Int.gcd a b := Int.gcd_pos_of_ne_zero_right _ (by omega)
      omega
    constructor
    · rw [e1]
      have := Int.natAbs_ediv_le_natAbs a (Int.gcd a b : Int)
      omega
    · rw [e2]
      have := Int.natAbs_ediv_le_natAbs b (Int.gcd a b : Int)
      have h3 : 0 ≤ b / (Int.gcd a b : Int) := Int.ediv_nonneg (by omega) (by omega)
      omega
  by_cases h : 0 < b
  · exact key h h1 h2
  · rw [← Rat.neg_divInt_neg]
    exact key (by omega) (by rw [Int.natAbs_neg]; exact h1) (by rw [Int.natAbs_neg]; exact h2)
theorem RSz.mul {x y : Rat} {k l : Nat} (h : RSz x k) (g : RSz y l) : RSz (x * y) (k + l) := by
  have e0 : x * y = Rat.divInt (x.num * y.num) (x.den * y.den) := by
    rw [Rat.mul_def', ← Rat.divInt_ofNat, Int.natCast_mul]
  have := x.den_pos
  have := y.den_pos
  rw [e0]
  exact RSz.of_divInt (Int.mul_ne_zero (by omega) (by omega)) (natAbs_lt_pw h.1 g.1) (natAbs_lt_pw (by rw [Int.natAbs_natCast]; exact h.2) (by rw [Int.natAbs_natCast]; exact g.2))
theorem RSz.add {x y : Rat} {k l : Nat} (h : RSz x k) (g : RSz y l) : RSz (x + y) (k + l + 1) := by
  have := x.den_pos
  have := y.den_pos
  rw [← add_divInt]
  have h1 := natAbs_lt_pw h.1 (b := y.den) (l := l) (by rw [Int.natAbs_natCast]; exact g.2)
  have h2 := natAbs_lt_pw g.1 (b := x.den) (l := k) (by rw [Int.natAbs_natCast]; exact h.2)
  rw [Nat.add_comm] at h2
  have h3 := natAbs_lt_pw (a := x.den) (b := y.den) (k := k) (l := l) (by rw [Int.natAbs_natCast]; exact h.2) (by rw [Int.natAbs_natCast]; exact g.2)
  exact RSz.of_divInt (Int.mul_ne_zero (by omega) (by omega)) (add_lt_pw h1 h2) (Int.lt_of_lt_of_le h3 (pw_mono B32_one (by omega)))
theorem RSz.sub {x y : Rat} {k l : Nat} (h : RSz x k) (g : RSz y l) : RSz (x - y) (k + l + 1) := by
  rw [Rat.sub_eq_add_neg]; exact h.add g.neg
theorem RSz.div {x y : Rat} {k l : Nat} (h : RSz x k) (g : RSz y l) (hy : y ≠ 0) : RSz (x / y) (k + l) := by
  have := x.den_pos
  have hyn : y.num ≠ 0 := fun h => hy (rat_num_zero.1 h)
  rw [← div_divInt]
  exact RSz.of_divInt (Int.mul_ne_zero (by omega) hyn) (natAbs_lt_pw h.1 (by rw [Int.natAbs_natCast]; exact g.2)) (natAbs_lt_pw (by rw [Int.natAbs_natCast]; exact h.2) g.1)

/-- A rational that lies in a cell. -/
def CellQ (w : World) (g : Nat) (x : Rat) : Prop := ∃ a : QV, w.cell? ⟨g, 0, none⟩ = some (.bool a.s) ∧ w.cell? ⟨g, 1, none⟩ = some (.slice a.A a.n a.c) ∧ w.cell? ⟨g, 2, none⟩ = some (.bool a.t) ∧ w.cell? ⟨g, 3, none⟩ = some (.slice a.B a.m a.d) ∧ RatR w a x
theorem CellQ.x {w w' : World} {g : Nat} {q : Rat} (h : CellQ w g q) (hx : X w w') : CellQ w' g q := by
  obtain ⟨a, h1, h2, h3, h4, h5⟩ := h
  exact ⟨a, hx.cell h1, hx.cell h2, hx.cell h3, hx.cell h4, h5.x hx⟩
theorem Blk.cellQ {w : World} {g : Nat} {e : TypeId} {a : QV} {x : Rat} (h : Blk w g e (qvc a)) (hr : RatR w a x) : CellQ w g x :=
  ⟨a, h.cell rfl, h.cell rfl, h.cell rfl, h.cell rfl, hr⟩

theorem Blk.q4o {w : World} {g k : Nat} {e : TypeId} {cs : List Value} (hb : Blk w g e cs) (hk : k ≠ g) (r : QV) : Blk (Go.Proofs.YtogakaiibijjpaaGreatDoor.put4 w k r) g e cs :=
  (((hb.other (p := ⟨k, 0, none⟩) hk _).other (p := ⟨k, 1, none⟩) hk _).other (p := ⟨k, 2, none⟩) hk _).other (p := ⟨k, 3, none⟩) hk _
/-- A result that is stored into a block of its own. -/
theorem store4 {w w1 : World} {r : QV} {x : Rat} {t : TypeId} (hX : X w w1) (hr : RatR w1 r x) :
    ∃ W, w1.alloc (.cells #[.bool r.s, .slice r.A r.n r.c, .bool r.t, .slice r.B r.m r.d] t) = W ∧ X w1 W ∧ X w W ∧ Blk W w1.heap.size t (qvc r) ∧ RatR W r x := by
  have hXa := (X.refl w1).alloc (.cells #[.bool r.s, .slice r.A r.n r.c, .bool r.t, .slice r.B r.m r.d] t)
  exact ⟨_, rfl, hXa, hX.trans hXa, Blk.new w1 _ t, hr.x hXa⟩

set_option maxRecDepth 100000 in
set_option maxHeartbeats 4000000 in
theorem over_fn (w : World) (g : Nat) (a b : QV) (x z : Rat) (hg : CellQ w g z) (ha : RatR w a x) (k l : Nat) (hx : RSz x k) (hy : RSz z l) (hkl : k + l ≤ 549755813888) (hz0 : z ≠ 0) :
    Calls Tryz.prog 112 #[a.v, b.v, .pointer (some ⟨g, 0, none⟩)] w (Ret w fun w' v => ∃ r : QV, v = r.v ∧ RatR w' r (x / z)) := by
  obtain ⟨c, d0, d1, d2, d3, hc⟩ := hg
  have hgl := World.block_lt_of_cell? _ _ d0
  have HA := Hid.mk ha
  have HC := Hid.mk hc
  clear ha hc
  go_enter Tryz.func112, Tryz.ntmps112
  go_upto_region 1 with (fail)
  obtain ⟨W, hW, hX, b0, b1, b2⟩ := setup3 w #[.bool a.s, .slice a.A a.n a.c, .bool a.t, .slice a.B a.m a.d] #[.bool b.s, .slice b.A b.n b.c, .bool b.t, .slice b.B b.m b.d] #[.bool false, .slice none 0 0, .bool false, .slice none 0 0] 71 71 71
  rw [hW]
  clear hW
  have e0 := hX.cell d0
  have e1 := hX.cell d1
  have e2 := hX.cell d2
  have e3 := hX.cell d3
  have c0 := b0.cell (j := 0) rfl
  have c1 := b0.cell (j := 1) rfl
  have c2 := b0.cell (j := 2) rfl
  have c3 := b0.cell (j := 3) rfl
  go_wp2_with fail
  refine (rat_div _ a c x z (HA.out.x hX) (HC.out.x hX) k l hx hy hkl).mono ?_
  rintro e w1 ⟨⟨v, rfl, r, rfl, hr⟩, hx1⟩
  rw [if_neg hz0] at hr ⊢
  replace b2 := b2.x hx1
  replace hX := hX.trans hx1
  clear b0 b1 c0 c1 c2 c3 e0 e1 e2 e3 d0 d1 d2 d3 hx1
  have hg3 : w.heap.size + 1 + 1 < w1.heap.size := b2.lt
  go_upto_region 2 with (fail)
  obtain ⟨W3, hW3, hX13, hX3, p3, hr3⟩ := store4 (t := 71) hX hr
  have p2 := b2.x hX13
  rw [hW3]
  clear hW3 b2 hX hr
  have c0 := p3.cell (j := 0) rfl; have c1 := p3.cell (j := 1) rfl; have c2 := p3.cell (j := 2) rfl; have c3 := p3.cell (j := 3) rfl
  have k0 := p2.cell (j := 0) rfl; have k1 := p2.cell (j := 1) rfl; have k2 := p2.cell (j := 2) rfl; have k3 := p2.cell (j := 3) rfl; have f0 := p2.frozen 0; have f1 := p2.frozen 1; have f2 := p2.frozen 2; have f3 := p2.frozen 3
  have K := four_cells p2 (.bool r.s) (.slice r.A r.n r.c) (.bool r.t) (.slice r.B r.m r.d)
  have HR := Hid.mk (hr3.put4 p2 r)
  have HX := Hid.mk (hX3.put4 (g := w.heap.size + 1 + 1) (by omega) r)
  clear hr3 hX3 hX13 p2 p3
  go_wp2
  exact bodyPost_ret (v := r.v) (by simp [results, Tryz.results112, go_sem, K.1, K.2.1, K.2.2.1, K.2.2.2]) rfl ⟨⟨_, rfl, r, rfl, HR.out⟩, HX.out⟩

set_option maxRecDepth 100000 in
set_option maxHeartbeats 4000000 in
theorem less_fn (w : World) (g : Nat) (a b : QV) (x y z : Rat) (hg : CellQ w g z) (ha : RatR w a x) (hb : RatR w b y) (k l j : Nat) (hx : RSz x k) (hy : RSz y l) (hzs : RSz z j) (hkl : k + (j + l) + 1 ≤ 549755813888) :
    Calls Tryz.prog 114 #[a.v, b.v, .pointer (some ⟨g, 0, none⟩)] w (Ret w fun w' v => ∃ r : QV, v = r.v ∧ RatR w' r (x - z * y)) := by
  obtain ⟨c, d0, d1, d2, d3, hc⟩ := hg
  have hgl := World.block_lt_of_cell? _ _ d0
  have HA := Hid.mk ha
  have HB := Hid.mk hb
  have HC := Hid.mk hc
  have HSX := Hid.mk hx
  have HSM := Hid.mk (hzs.mul hy)
  have HSZ := Hid.mk hzs
  have HSY := Hid.mk hy
  clear ha hb hc hx hy hzs
  go_enter Tryz.func114, Tryz.ntmps114
  go_upto_region 1 with (fail)
  obtain ⟨W, hW, hX, b0, b1, b2⟩ := setup3 w #[.bool a.s, .slice a.A a.n a.c, .bool a.t, .slice a.B a.m a.d] #[.bool b.s, .slice b.A b.n b.c, .bool b.t, .slice b.B b.m b.d] #[.bool false, .slice none 0 0, .bool false, .slice none 0 0] 71 71 71
  rw [hW]
  clear hW
  have HCC := Hid.mk (fun w' (h : X W w') => (⟨(b0.x h).cell (j := 0) rfl, (b0.x h).cell (j := 1) rfl, (b0.x h).cell (j := 2) rfl, (b0.x h).cell (j := 3) rfl, (b1.x h).cell (j := 0) rfl, (b1.x h).cell (j := 1) rfl, (b1.x h).cell (j := 2) rfl, (b1.x h).cell (j := 3) rfl, h.cell (hX.cell d0), h.cell (hX.cell d1), h.cell (hX.cell d2), h.cell (hX.cell d3)⟩ : w'.cell? ⟨w.heap.size, 0, none⟩ = some (.bool a.s) ∧ w'.cell? ⟨w.heap.size, 1, none⟩ = some (.slice a.A a.n a.c) ∧ w'.cell? ⟨w.heap.size, 2, none⟩ = some (.bool a.t) ∧ w'.cell? ⟨w.heap.size, 3, none⟩ = some (.slice a.B a.m a.d) ∧ w'.cell? ⟨w.heap.size + 1, 0, none⟩ = some (.bool b.s) ∧ w'.cell? ⟨w.heap.size + 1, 1, none⟩ = some (.slice b.A b.n b.c) ∧ w'.cell? ⟨w.heap.size + 1, 2, none⟩ = some (.bool b.t) ∧ w'.cell? ⟨w.heap.size + 1, 3, none⟩ = some (.slice b.B b.m b.d) ∧ w'.cell? ⟨g, 0, none⟩ = some (.bool c.s) ∧ w'.cell? ⟨g, 1, none⟩ = some (.slice c.A c.n c.c) ∧ w'.cell? ⟨g, 2, none⟩ = some (.bool c.t) ∧ w'.cell? ⟨g, 3, none⟩ = some (.slice c.B c.m c.d)))
  have hS := HCC.out W (X.refl W)
  obtain ⟨s, hs⟩ : ∃ s, Int.sign y.num = s := ⟨_, rfl⟩
  go_wp2_with fail
  refine (rat_sign_at _ b y s (HB.out.x hX) hs).mono ?_
  rintro e W1 ⟨⟨v, rfl, rfl⟩, hy1⟩
  clear d0 d1 d2 d3
  by_cases hy0 : y = 0
  · obtain rfl : s = 0 := by rw [← hs, hy0]; rfl
    have hS1 := HCC.out W1 hy1
    have p2 := b2.x hy1
    have k0 := p2.cell (j := 0) rfl; have k1 := p2.cell (j := 1) rfl; have k2 := p2.cell (j := 2) rfl; have k3 := p2.cell (j := 3) rfl; have f0 := p2.frozen 0; have f1 := p2.frozen 1; have f2 := p2.frozen 2; have f3 := p2.frozen 3
    have K := four_cells p2 (.bool a.s) (.slice a.A a.n a.c) (.bool a.t) (.slice a.B a.m a.d)
    have HR : Hid (RatR (Go.Proofs.YtogakaiibijjpaaGreatDoor.put4 W1 (w.heap.size + 1 + 1) a) a (x - z * y)) := by
      have e : x - z * y = x := by rw [hy0, Rat.mul_zero, Rat.sub_eq_add_neg, Rat.neg_zero, Rat.add_zero]
      rw [e]
      exact (HA.out.x (hX.trans hy1)).put4 p2 a
    have HX := Hid.mk ((hX.trans hy1).put4 (g := w.heap.size + 1 + 1) (by omega) a)
    clear b0 b1 b2 p2 hX HCC hy1 hs
    go_wp2
    exact bodyPost_ret (v := a.v) (by simp [results, Tryz.results114, go_sem, K.1, K.2.1, K.2.2.1, K.2.2.2]) rfl ⟨⟨_, rfl, a, rfl, HR.out⟩, HX.out⟩
  · have hsn : ¬ s = 0 := by
      rw [← hs, Int.sign_eq_zero_iff_zero]; exact fun h => hy0 (rat_num_zero.1 h)
    replace b2 := b2.x hy1
    have HCD := Hid.mk (fun w' (h : X W1 w') => HCC.out w' (hy1.trans h))
    have hX1 := hX.trans hy1
    clear b0 b1 hX hs hS
    have n1 : ¬ w.heap.size + 1 + 1 = w.heap.size := by omega
    have n2 : ¬ w.heap.size + 1 + 1 = w.heap.size + 1 := by omega
    have n3 : ¬ w.heap.size + 1 + 1 = g := by omega
    clear hy1 HCC
    go_wp2_with fail
    have hz0 : X W1 W1.drew := ⟨rfl, rfl, rfl, Nat.le_refl _, fun _ _ => rfl⟩
    have hS0 := HCD.out W1 (X.refl _)
    go_region_held3 (fun w' => w'.cell? ⟨w.heap.size, 0, none⟩ = some (.bool a.s) ∧ w'.cell? ⟨w.heap.size, 1, none⟩ = some (.slice a.A a.n a.c) ∧ w'.cell? ⟨w.heap.size, 2, none⟩ = some (.bool a.t) ∧ w'.cell? ⟨w.heap.size, 3, none⟩ = some (.slice a.B a.m a.d) ∧ w'.cell? ⟨w.heap.size + 1, 0, none⟩ = some (.bool b.s) ∧ w'.cell? ⟨w.heap.size + 1, 1, none⟩ = some (.slice b.A b.n b.c) ∧ w'.cell? ⟨w.heap.size + 1, 2, none⟩ = some (.bool b.t) ∧ w'.cell? ⟨w.heap.size + 1, 3, none⟩ = some (.slice b.B b.m b.d) ∧ w'.cell? ⟨g, 0, none⟩ = some (.bool c.s) ∧ w'.cell? ⟨g, 1, none⟩ = some (.slice c.A c.n c.c) ∧ w'.cell? ⟨g, 2, none⟩ = some (.bool c.t) ∧ w'.cell? ⟨g, 3, none⟩ = some (.slice c.B c.m c.d))
      (go_keep)
      (first
        | (have hguard := hz1; go_at_call 115; refine (rat_sub _ a r1 x (z * y) (by exact HA.out.x (hX1.trans hz1)) hr1 k (j + l) HSX.out HSM.out (by omega)).mono ?_; rintro e w2 ⟨⟨v2, rfl, r2, rfl, hr2⟩, hx2⟩; have hz2 : X W1 w2 := hz1.trans hx2; have hr1 := hr1.x hx2; have hS2 := HCD.out w2 hz2; have p2 := b2.x hz2; have k0 := p2.cell (j := 0) rfl; have k1 := p2.cell (j := 1) rfl; have k2 := p2.cell (j := 2) rfl; have k3 := p2.cell (j := 3) rfl; have f0 := p2.frozen 0; have f1 := p2.frozen 1; have f2 := p2.frozen 2; have f3 := p2.frozen 3)
        | (have hguard := hz0; go_at_call 48; refine (rat_mul _ c b z y (by exact HC.out.x (hX1.trans hz0)) (by exact HB.out.x (hX1.trans hz0)) j l HSZ.out HSY.out (by omega)).mono ?_; rintro e w1 ⟨⟨v1, rfl, r1, rfl, hr1⟩, hx1⟩; have hz1 : X W1 w1 := hz0.trans hx1; have hS1 := HCD.out w1 hz1))
    have K := four_cells p2 (.bool r2.s) (.slice r2.A r2.n r2.c) (.bool r2.t) (.slice r2.B r2.m r2.d)
    have HR := Hid.mk (hr2.put4 p2 r2)
    have HX := Hid.mk ((hX1.trans hz2).put4 (g := w.heap.size + 1 + 1) (by omega) r2)
    clear b2 hX1 HCD p2 hr2 hz0 hz1 hz2
    go_wp2
    exact bodyPost_ret (v := r2.v) (by simp [results, Tryz.results114, go_sem, K.1, K.2.1, K.2.2.1, K.2.2.2]) rfl ⟨⟨_, rfl, r2, rfl, HR.out⟩, HX.out⟩
end Go.Proofs.YtogakaiibijjpaaGreatDoor

/- Package matrix, fourth part: each, over, less. -/
set_option linter.unusedVariables false
set_option linter.unusedSimpArgs false
namespace Go.Proofs.YtogakaiibijjpaaGreatDoor
open Go.RowKit
open DDig

theorem madeCells_at (zc : Array Value) (n k : Nat) (hk : k < n) (hz : 0 < zc.size) : (madeCells zc n).toList[k]? = zc[k % zc.size]? := by
  have hm := Nat.mod_lt k hz
  rw [Array.getElem?_toList, Array.getElem?_eq_getElem (by simpa [madeCells] using hk), Array.getElem?_eq_getElem hm]
  simp [madeCells, hm]
theorem madeCells_get (zc : Array Value) (n j i : Nat) (hj : j < n) (hi : i < zc.size) : (madeCells zc (n * zc.size)).toList[j * zc.size + i]? = zc[i]? := by
  have h1 : j * zc.size + i < n * zc.size := by
    have : (j + 1) * zc.size ≤ n * zc.size := Nat.mul_le_mul_right _ (by omega)
    rw [Nat.succ_mul] at this
    omega
  have h2 : (j * zc.size + i) % zc.size = i := by
    rw [Nat.add_comm, Nat.add_mul_mod_self_right, Nat.mod_eq_of_lt hi]
  rw [madeCells_at _ _ _ h1 (by omega), h2]
theorem madeCells_len (zc : Array Value) (n : Nat) : (madeCells zc n).toList.length = n := by simp [madeCells]

/-- 'make([]T, n)'. -/
theorem make_blkz {P : Program} (w : World) {ops : Array Oper} {rest : List Oper} {o : Oper} {a : Act} {Q : Exit → Act → World → Prop}
    (hg : o.guard = none) (l c : Operand) (t : TypeId) (hop : o.op = Op.makeSlice t l c)
    (e : TypeId) (z : Value) (size bytes : Nat) (h1 : P.underlying t = some (.slice e)) (h2 : (P.info? e).map (fun i => (i.zero, i.size, i.bytes)) = some (some z, size, bytes)) (hz : z.cells.size = size)
    (kl kc : IntKind) (L C : Int) (n : Nat) (hl : a.eval l = .int kl L) (hc : a.eval c = .int kc C) (hL : L = (n : Int)) (hC : C = (n : Int)) (b2 : bytes * n ≤ 281474976710656) (b3 : n ≤ 9223372036854775807)
    (hK : ∀ w' cs, Blk w' w.heap.size e cs → cs.length = n * size → (∀ j i, j < n → i < size → cs[j * size + i]? = z.cells[i]?) → (∀ v ∈ cs, v ∈ z.cells.toList) → X w w' → wpList P ops Q rest (a.put o.dst (.slice (some ⟨w.heap.size, 0, none⟩) n n)) w') :
    wpList P ops Q (o :: rest) a w := by
  refine wpList_plain hg fun K hK' => ?_
  obtain ⟨i, hi, e1, e2, e3⟩ := info_parts h2
  subst hL
  subst hC
  have hb : ((bytes * n : Nat) : Int) ≤ 281474976710656 := by omega
  rw [Int.natCast_mul] at hb
  have hrun := run_make (P := P) w t e i z h1 hi e1 kl kc (n : Int) (n : Int) (by omega) (Int.le_refl _) (by rw [e3]; exact hb) (by omega)
  simp only [Int.toNat_natCast] at hrun
  unfold Oper.wp
  simp [execOp, hop, hl, hc, hrun, Result.andThen]
  rw [e2, ← hz]
  have hzp : ∀ k, k < n * z.cells.size → 0 < z.cells.size := fun k hk => by
    apply Nat.pos_of_ne_zero
    intro h
    rw [h] at hk
    omega
  refine hK' _ _ (hK _ (madeCells z.cells (n * z.cells.size)).toList ?_ ?_ ?_ ?_ ((X.refl w).alloc _))
  · show (w.heap.push _)[w.heap.size]? = _
    simp
  · rw [madeCells_len, hz]
  · intro j i hj hi
    rw [← hz] at hi ⊢
    exact madeCells_get _ n j i hj hi
  · intro v hv
    obtain ⟨k, hk, rfl⟩ := List.getElem_of_mem hv
    have hk' := hk
    rw [madeCells_len] at hk'
    have h0 := hzp k hk'
    have h3 := madeCells_at z.cells _ k hk' h0
    rw [List.getElem?_eq_getElem hk, Array.getElem?_eq_getElem (Nat.mod_lt k h0)] at h3
    injection h3 with h3
    rw [h3]
    simp

/-- A row of the call's own that is being filled: its cells. -/
def Fil (w : World) (g : Nat) (n k : Nat) (f : Nat → Rat) : Prop :=
  ∃ cs : List Value, Blk w g 71 cs ∧ cs.length = n * 4 ∧ NoInt cs ∧ ∀ j, j < k → ∃ a : QV, cs[j * 4]? = some (.bool a.s) ∧ cs[j * 4 + 1]? = some (.slice a.A a.n a.c) ∧ cs[j * 4 + 2]? = some (.bool a.t) ∧ cs[j * 4 + 3]? = some (.slice a.B a.m a.d) ∧ RatR w a (f j)
theorem Fil.x {w w' : World} {g n k : Nat} {f : Nat → Rat} (h : Fil w g n k f) (hx : X w w') : Fil w' g n k f := by
  obtain ⟨cs, h1, h2, h3, h4⟩ := h
  refine ⟨cs, h1.x hx, h2, h3, fun j hj => ?_⟩
  obtain ⟨a, g0, g1, g2, g3, g4⟩ := h4 j hj
  exact ⟨a, g0, g1, g2, g3, g4.x hx⟩
theorem Fil.row {w : World} {g n : Nat} {f : Nat → Rat} (h : Fil w g n n f) : RowQ w (some ⟨g, 0, none⟩) n f := fun h0 => by
  obtain ⟨cs, h1, h2, h3, h4⟩ := h
  refine ⟨g, 0, rfl, fun j hj => ?_⟩
  obtain ⟨a, g0, g1, g2, g3, g4⟩ := h4 j hj
  simp only [Nat.zero_add]
  exact ⟨a, h1.cell g0, h1.cell g1, h1.cell g2, h1.cell g3, g4⟩
/-- The four stores at a place of a row. -/
abbrev put4at (w : World) (g o : Nat) (r : QV) : World := (((w.setCell ⟨g, o, none⟩ (.bool r.s)).setCell ⟨g, o + 1, none⟩ (.slice r.A r.n r.c)).setCell ⟨g, o + 2, none⟩ (.bool r.t)).setCell ⟨g, o + 3, none⟩ (.slice r.B r.m r.d)
theorem Fil.put {w : World} {g n k : Nat} {f : Nat → Rat} (h : Fil w g n k f) (hk : k < n) {r : QV} (hr : RatR w r (f k)) : Fil (put4at w g (k * 4) r) g n (k + 1) f := by
  obtain ⟨cs, h1, h2, h3, h4⟩ := h
  have q1 := h1.set (k * 4) (.bool r.s)
  have q2 := q1.set (k * 4 + 1) (.slice r.A r.n r.c)
  have q3 := q2.set (k * 4 + 2) (.bool r.t)
  have q4 := q3.set (k * 4 + 3) (.slice r.B r.m r.d)
  have n1 := h3.set (k * 4) (v := .bool r.s) (by simp)
  have n2 := n1.set (k * 4 + 1) (v := .slice r.A r.n r.c) (by simp)
  have n3 := n2.set (k * 4 + 2) (v := .bool r.t) (by simp)
  have n4 := n3.set (k * 4 + 3) (v := .slice r.B r.m r.d) (by simp)
  have rr : ∀ {a : QV} {x : Rat}, RatR w a x → RatR (put4at w g (k * 4) r) a x := fun h => (((h.put h1 h3 _ _).put q1 n1 _ _).put q2 n2 _ _).put q3 n3 _ _
  refine ⟨_, q4, by simpa using h2, n4, fun j hj => ?_⟩
  by_cases e : j = k
  · subst e
    refine ⟨r, ?_, ?_, ?_, ?_, rr hr⟩
    · rw [List.getElem?_set_ne (by omega), List.getElem?_set_ne (by omega), List.getElem?_set_ne (by omega), List.getElem?_set_self (by omega)]
    · rw [List.getElem?_set_ne (by omega), List.getElem?_set_ne (by omega), List.getElem?_set_self (by simp; omega)]
    · rw [List.getElem?_set_ne (by omega), List.getElem?_set_self (by simp; omega)]
    · rw [List.getElem?_set_self (by simp; omega)]
  · obtain ⟨a, g0, g1, g2, g3, g4⟩ := h4 j (by omega)
    refine ⟨a, ?_, ?_, ?_, ?_, rr g4⟩
    · rw [List.getElem?_set_ne (by omega), List.getElem?_set_ne (by omega), List.getElem?_set_ne (by omega), List.getElem?_set_ne (by omega)]; exact g0
    · rw [List.getElem?_set_ne (by omega), List.getElem?_set_ne (by omega), List.getElem?_set_ne (by omega), List.getElem?_set_ne (by omega)]; exact g1
    · rw [List.getElem?_set_ne (by omega), List.getElem?_set_ne (by omega), List.getElem?_set_ne (by omega), List.getElem?_set_ne (by omega)]; exact g2
    · rw [List.getElem?_set_ne (by omega), List.getElem?_set_ne (by omega), List.getElem?_set_ne (by omega), List.getElem?_set_ne (by omega)]; exact g3
theorem Fil.cells {w : World} {g n k : Nat} {f : Nat → Rat} (h : Fil w g n k f) {j : Nat} (hj : j < n) :
    ∃ v0 v1 v2 v3, w.cell? ⟨g, j * 4, none⟩ = some v0 ∧ w.cell? ⟨g, j * 4 + 1, none⟩ = some v1 ∧ w.cell? ⟨g, j * 4 + 2, none⟩ = some v2 ∧ w.cell? ⟨g, j * 4 + 3, none⟩ = some v3 ∧ w.frozen? ⟨g, j * 4, none⟩ = false ∧ w.frozen? ⟨g, j * 4 + 1, none⟩ = false ∧ w.frozen? ⟨g, j * 4 + 2, none⟩ = false ∧ w.frozen? ⟨g, j * 4 + 3, none⟩ = false := by
  obtain ⟨cs, h1, h2, h3, h4⟩ := h
  exact ⟨_, _, _, _, h1.cell (List.getElem?_eq_getElem (by omega)), h1.cell (List.getElem?_eq_getElem (by omega)), h1.cell (List.getElem?_eq_getElem (by omega)), h1.cell (List.getElem?_eq_getElem (by omega)), h1.frozen _, h1.frozen _, h1.frozen _, h1.frozen _⟩
theorem X.put4at {w w' : World} (h : X w w') {g : Nat} (hg : w.heap.size ≤ g) (o : Nat) (r : QV) : X w (Go.Proofs.YtogakaiibijjpaaGreatDoor.put4at w' g o r) :=
  (((h.set (p := ⟨g, o, none⟩) hg _).set (p := ⟨g, o + 1, none⟩) hg _).set (p := ⟨g, o + 2, none⟩) hg _).set (p := ⟨g, o + 3, none⟩) hg _
theorem Fil.start {w : World} {g n : Nat} {cs : List Value} (f : Nat → Rat) (h : Blk w g 71 cs) (hl : cs.length = n * 4) (hz : ∀ v ∈ cs, v ∈ (Value.agg #[.bool false, .slice none 0 0, .bool false, .slice none 0 0]).cells.toList) : Fil w g n 0 f := by
  refine ⟨cs, h, hl, fun v hv k x => ?_, fun j hj => by omega⟩
  have : v = .bool false ∨ v = .slice none 0 0 ∨ v = .bool false ∨ v = .slice none 0 0 := by
    have h1 := hz v hv
    have h2 : (Value.agg #[.bool false, .slice none 0 0, .bool false, .slice none 0 0]).cells.toList = [.bool false, .slice none 0 0, .bool false, .slice none 0 0] := by rfl
    rw [h2] at h1
    simpa using h1
  rcases this with rfl | rfl | rfl | rfl <;> simp
end Go.Proofs.YtogakaiibijjpaaGreatDoor

/- Contracts of the shelf at this translation, in plain words (written by the shelf's own tool). -/
set_option linter.unusedVariables false
set_option linter.unusedSimpArgs false
namespace Go.Proofs
open Go.Shelf
def Tryz.lays156_ren : Go.Shelf.Ren := ⟨fun | 156 => 106 | 165 => 134 | 166 => 135 | 169 => 137 | 240 => 162 | 241 => 163 | 276 => 181 | 277 => 182 | n => n, fun | 31 => 59 | 9 => 9 | 3 => 3 | 4 => 4 | 0 => 0 | 20 => 20 | 72 => 178 | 76 => 182 | 70 => 175 | 37 => 176 | 75 => 181 | 127 => 207 | 164 => 223 | 5 => 5 | 80 => 129 | n => n, fun | n => n⟩
theorem Tryz.lays156 : Go.Proofs.Lays.n156 Tryz.prog Tryz.lays156_ren := {
  mixed := by kernel_rfl
  f156 := Tryz.func106.trans (congrArg some (by kernel_rfl))
  f165 := Tryz.func134.trans (congrArg some (by kernel_rfl))
  f166 := Tryz.func135.trans (congrArg some (by kernel_rfl))
  f169 := Tryz.func137.trans (congrArg some (by kernel_rfl))
  f240 := Tryz.func162.trans (congrArg some (by kernel_rfl))
  f241 := Tryz.func163.trans (congrArg some (by kernel_rfl))
  f276 := Tryz.func181.trans (congrArg some (by kernel_rfl))
  f277 := Tryz.func182.trans (congrArg some (by kernel_rfl))
  t0 := Tryz.underlying0
  a0 := Tryz.isAgg0
  z0 := Tryz.sizeOf0
  v0 := Tryz.zeroValue0
  t3 := Tryz.underlying3
  a3 := Tryz.isAgg3
  z3 := Tryz.sizeOf3
  v3 := Tryz.zeroValue3
  t4 := Tryz.underlying4
  a4 := Tryz.isAgg4
  z4 := Tryz.sizeOf4
  v4 := Tryz.zeroValue4
  t9 := Tryz.underlying9
  a9 := Tryz.isAgg9
  z9 := Tryz.sizeOf9
  v9 := Tryz.zeroValue9
  t20 := Tryz.underlying20
  a20 := Tryz.isAgg20
  z20 := Tryz.sizeOf20
  v20 := Tryz.zeroValue20
  t31 := Tryz.underlying59
  a31 := Tryz.isAgg59
  z31 := Tryz.sizeOf59
  v31 := Tryz.zeroValue59
  t37 := Tryz.underlying176
  a37 := Tryz.isAgg176
  z37 := Tryz.sizeOf176
  v37 := Tryz.zeroValue176
  t70 := Tryz.underlying175
  a70 := Tryz.isAgg175
  z70 := Tryz.sizeOf175
  v70 := Tryz.zeroValue175
  t72 := Tryz.underlying178
  a72 := Tryz.isAgg178
  z72 := Tryz.sizeOf178
  v72 := Tryz.zeroValue178
  t75 := Tryz.underlying181
  a75 := Tryz.isAgg181
  z75 := Tryz.sizeOf181
  v75 := Tryz.zeroValue181
  t76 := Tryz.underlying182
  a76 := Tryz.isAgg182
  z76 := Tryz.sizeOf182
  v76 := Tryz.zeroValue182
  t127 := Tryz.underlying207
  a127 := Tryz.isAgg207
  z127 := Tryz.sizeOf207
  v127 := Tryz.zeroValue207
  t164 := Tryz.underlying223
  a164 := Tryz.isAgg223
  z164 := Tryz.sizeOf223
  v164 := Tryz.zeroValue223 }
theorem Tryz.Builder_Extra_156 : Builder.Extra Tryz.prog Tryz.lays156_ren := {
  sizeBuilder := by kernel_rfl
  liesBuilder := by kernel_rfl
  t5 := Tryz.underlying5
  a5 := Tryz.isAgg5
  z5 := Tryz.sizeOf5
  v5 := Tryz.zeroValue5
  infoByte := by kernel_rfl
  cellsByte := by kernel_rfl
  sizeByte := by kernel_rfl
  neB5 := by decide }
open Go.RowKit in
theorem Tryz.strings_Join (bk o c : Nat) (xs : List ByteArray) (sep : ByteArray) (w : World) (hcells : ∀ (j : Nat) x, xs[j]? = some x → w.cell? ⟨bk, o + j, none⟩ = some (.string x)) (hbk : bk < w.heap.size) (hN : xs.length ≤ 140737488355328) (hcap : xs.length ≤ c) (hlen : (Lib.join (xs.map (·.data.toList)) sep.data.toList).length ≤ 140737488355328) :
    Calls Tryz.prog 106 #[.slice (some ⟨bk, o, none⟩) xs.length c, .string sep] w fun e w' => e = .returned (.string ⟨(Lib.join (xs.map (·.data.toList)) sep.data.toList).toArray⟩) ∧ Below w.heap.size w w' := Any.strings_Join Tryz.lays156 Tryz.Builder_Extra_156 bk o c xs sep w hcells hbk hN hcap hlen
def Tryz.laysM171_ren : Go.Shelf.Ren := ⟨fun | 171 => 103 | 243 => 131 | 246 => 158 | 283 => 177 | 284 => 178 | 285 => 179 | 286 => 180 | 129 => 200 | 317 => 199 | 318 => 201 | 319 => 202 | 320 => 203 | 337 => 210 | 338 => 211 | n => n, fun | 3 => 3 | 9 => 9 | 2 => 2 | 4 => 4 | 171 => 218 | 0 => 0 | 53 => 152 | 37 => 176 | 5 => 5 | 173 => 221 | 212 => 236 | 51 => 145 | 20 => 20 | 213 => 237 | 46 => 153 | 232 => 251 | 233 => 252 | n => n, fun | 17 => 1 | 18 => 6 | 19 => 7 | n => n⟩
theorem Tryz.laysM171 : Go.Proofs.LaysM.n171 Tryz.prog Tryz.laysM171_ren := {
  mixed := by kernel_rfl
  f129 := Tryz.func200.trans (congrArg some (by kernel_rfl))
  f171 := Tryz.func103.trans (congrArg some (by kernel_rfl))
  f243 := Tryz.func131.trans (congrArg some (by kernel_rfl))
  f246 := Tryz.func158.trans (congrArg some (by kernel_rfl))
  f283 := Tryz.func177.trans (congrArg some (by kernel_rfl))
  f284 := Tryz.func178.trans (congrArg some (by kernel_rfl))
  f285 := Tryz.func179.trans (congrArg some (by kernel_rfl))
  f286 := Tryz.func180.trans (congrArg some (by kernel_rfl))
  f317 := Tryz.func199.trans (congrArg some (by kernel_rfl))
  f318 := Tryz.func201.trans (congrArg some (by kernel_rfl))
  f319 := Tryz.func202.trans (congrArg some (by kernel_rfl))
  f320 := Tryz.func203.trans (congrArg some (by kernel_rfl))
  f337 := Tryz.func210.trans (congrArg some (by kernel_rfl))
  f338 := Tryz.func211.trans (congrArg some (by kernel_rfl))
  t0 := Tryz.underlying0
  a0 := Tryz.isAgg0
  z0 := Tryz.sizeOf0
  v0 := Tryz.zeroValue0
  t2 := Tryz.underlying2
  a2 := Tryz.isAgg2
  z2 := Tryz.sizeOf2
  v2 := Tryz.zeroValue2
  t3 := Tryz.underlying3
  a3 := Tryz.isAgg3
  z3 := Tryz.sizeOf3
  v3 := Tryz.zeroValue3
  t4 := Tryz.underlying4
  a4 := Tryz.isAgg4
  z4 := Tryz.sizeOf4
  v4 := Tryz.zeroValue4
  t5 := Tryz.underlying5
  a5 := Tryz.isAgg5
  z5 := Tryz.sizeOf5
  v5 := Tryz.zeroValue5
  t9 := Tryz.underlying9
  a9 := Tryz.isAgg9
  z9 := Tryz.sizeOf9
  v9 := Tryz.zeroValue9
  t20 := Tryz.underlying20
  a20 := Tryz.isAgg20
  z20 := Tryz.sizeOf20
  v20 := Tryz.zeroValue20
  t37 := Tryz.underlying176
  a37 := Tryz.isAgg176
  z37 := Tryz.sizeOf176
  v37 := Tryz.zeroValue176
  t46 := Tryz.underlying153
  a46 := Tryz.isAgg153
  z46 := Tryz.sizeOf153
  v46 := Tryz.zeroValue153
  t51 := Tryz.underlying145
  a51 := Tryz.isAgg145
  z51 := Tryz.sizeOf145
  v51 := Tryz.zeroValue145
  t53 := Tryz.underlying152
  a53 := Tryz.isAgg152
  z53 := Tryz.sizeOf152
  v53 := Tryz.zeroValue152
  t171 := Tryz.underlying218
  a171 := Tryz.isAgg218
  z171 := Tryz.sizeOf218
  v171 := Tryz.zeroValue218
  t173 := Tryz.underlying221
  a173 := Tryz.isAgg221
  z173 := Tryz.sizeOf221
  v173 := Tryz.zeroValue221
  t212 := Tryz.underlying236
  a212 := Tryz.isAgg236
  z212 := Tryz.sizeOf236
  v212 := Tryz.zeroValue236
  t213 := Tryz.underlying237
  a213 := Tryz.isAgg237
  z213 := Tryz.sizeOf237
  t232 := Tryz.underlying251
  a232 := Tryz.isAgg251
  z232 := Tryz.sizeOf251
  v232 := Tryz.zeroValue251
  t233 := Tryz.underlying252
  a233 := Tryz.isAgg252
  z233 := Tryz.sizeOf252
  v233 := Tryz.zeroValue252
  g17 := by kernel_rfl
  g18 := by kernel_rfl
  g19 := by kernel_rfl
  i0 := by kernel_rfl
  i2 := by kernel_rfl
  i3 := by kernel_rfl
  i4 := by kernel_rfl
  i5 := by kernel_rfl
  i9 := by kernel_rfl
  i20 := by kernel_rfl
  i37 := by kernel_rfl
  i46 := by kernel_rfl
  i51 := by kernel_rfl
  i53 := by kernel_rfl
  i171 := by kernel_rfl
  i173 := by kernel_rfl
  i212 := by kernel_rfl
  i232 := by kernel_rfl
  i233 := by kernel_rfl
  m17 := by kernel_rfl
  m18 := by kernel_rfl
  m19 := by kernel_rfl }
open Go.RowKit Go.Sort Go.Lib in
theorem Tryz.strconv_Itoa (n : Int) (h0 : -9223372036854775808 ≤ n) (h1 : n ≤ 9223372036854775807) (w : World) (htab : Lib.TabIs Tryz.prog w "internal/strconv.uint64pow10" .u64 Lib.pow10Tab) :
    Calls Tryz.prog 103 #[.int .i64 n] w fun e w' => e = .returned (.string ⟨(Lib.itoa n).toArray⟩) ∧ ∃ k os, w' = grow (w.drewN k) os := Any.strconv_Itoa Tryz.laysM171 n h0 h1 w htab
def Tryz.lays105_ren : Go.Shelf.Ren := ⟨fun | 105 => 104 | 212 => 132 | 99 => 133 | 165 => 134 | 166 => 135 | 170 => 136 | 169 => 137 | 263 => 159 | 264 => 160 | 206 => 161 | 240 => 162 | 241 => 163 | 276 => 181 | 277 => 182 | n => n, fun | 9 => 9 | 3 => 3 | 4 => 4 | 20 => 20 | 0 => 0 | 46 => 153 | 109 => 172 | 5 => 5 | 72 => 178 | 76 => 182 | 51 => 145 | 146 => 203 | 53 => 152 | 148 => 205 | 70 => 175 | 37 => 176 | 75 => 181 | 127 => 207 | 164 => 223 | 80 => 129 | n => n, fun | n => n⟩
theorem Tryz.lays105 : Go.Proofs.Lays.n105 Tryz.prog Tryz.lays105_ren := {
  mixed := by kernel_rfl
  f99 := Tryz.func133.trans (congrArg some (by kernel_rfl))
  f105 := Tryz.func104.trans (congrArg some (by kernel_rfl))
  f165 := Tryz.func134.trans (congrArg some (by kernel_rfl))
  f166 := Tryz.func135.trans (congrArg some (by kernel_rfl))
  f169 := Tryz.func137.trans (congrArg some (by kernel_rfl))
  f170 := Tryz.func136.trans (congrArg some (by kernel_rfl))
  f206 := Tryz.func161.trans (congrArg some (by kernel_rfl))
  f212 := Tryz.func132.trans (congrArg some (by kernel_rfl))
  f240 := Tryz.func162.trans (congrArg some (by kernel_rfl))
  f241 := Tryz.func163.trans (congrArg some (by kernel_rfl))
  f263 := Tryz.func159.trans (congrArg some (by kernel_rfl))
  f264 := Tryz.func160.trans (congrArg some (by kernel_rfl))
  f276 := Tryz.func181.trans (congrArg some (by kernel_rfl))
  f277 := Tryz.func182.trans (congrArg some (by kernel_rfl))
  t0 := Tryz.underlying0
  a0 := Tryz.isAgg0
  z0 := Tryz.sizeOf0
  v0 := Tryz.zeroValue0
  t3 := Tryz.underlying3
  a3 := Tryz.isAgg3
  z3 := Tryz.sizeOf3
  v3 := Tryz.zeroValue3
  t4 := Tryz.underlying4
  a4 := Tryz.isAgg4
  z4 := Tryz.sizeOf4
  v4 := Tryz.zeroValue4
  t5 := Tryz.underlying5
  a5 := Tryz.isAgg5
  z5 := Tryz.sizeOf5
  v5 := Tryz.zeroValue5
  t9 := Tryz.underlying9
  a9 := Tryz.isAgg9
  z9 := Tryz.sizeOf9
  v9 := Tryz.zeroValue9
  t20 := Tryz.underlying20
  a20 := Tryz.isAgg20
  z20 := Tryz.sizeOf20
  v20 := Tryz.zeroValue20
  t37 := Tryz.underlying176
  a37 := Tryz.isAgg176
  z37 := Tryz.sizeOf176
  v37 := Tryz.zeroValue176
  t46 := Tryz.underlying153
  a46 := Tryz.isAgg153
  z46 := Tryz.sizeOf153
  v46 := Tryz.zeroValue153
  t51 := Tryz.underlying145
  a51 := Tryz.isAgg145
  z51 := Tryz.sizeOf145
  v51 := Tryz.zeroValue145
  t53 := Tryz.underlying152
  a53 := Tryz.isAgg152
  z53 := Tryz.sizeOf152
  v53 := Tryz.zeroValue152
  t70 := Tryz.underlying175
  a70 := Tryz.isAgg175
  z70 := Tryz.sizeOf175
  v70 := Tryz.zeroValue175
  t72 := Tryz.underlying178
  a72 := Tryz.isAgg178
  z72 := Tryz.sizeOf178
  v72 := Tryz.zeroValue178
  t75 := Tryz.underlying181
  a75 := Tryz.isAgg181
  z75 := Tryz.sizeOf181
  v75 := Tryz.zeroValue181
  t76 := Tryz.underlying182
  a76 := Tryz.isAgg182
  z76 := Tryz.sizeOf182
  v76 := Tryz.zeroValue182
  t109 := Tryz.underlying172
  a109 := Tryz.isAgg172
  z109 := Tryz.sizeOf172
  v109 := Tryz.zeroValue172
  t127 := Tryz.underlying207
  a127 := Tryz.isAgg207
  z127 := Tryz.sizeOf207
  v127 := Tryz.zeroValue207
  t146 := Tryz.underlying203
  a146 := Tryz.isAgg203
  z146 := Tryz.sizeOf203
  v146 := Tryz.zeroValue203
  t148 := Tryz.underlying205
  a148 := Tryz.isAgg205
  z148 := Tryz.sizeOf205
  v148 := Tryz.zeroValue205
  t164 := Tryz.underlying223
  a164 := Tryz.isAgg223
  z164 := Tryz.sizeOf223
  v164 := Tryz.zeroValue223 }
theorem Tryz.Builder_Extra_105 : Builder.Extra Tryz.prog Tryz.lays105_ren := {
  sizeBuilder := by kernel_rfl
  liesBuilder := by kernel_rfl
  t5 := Tryz.underlying5
  a5 := Tryz.isAgg5
  z5 := Tryz.sizeOf5
  v5 := Tryz.zeroValue5
  infoByte := by kernel_rfl
  cellsByte := by kernel_rfl
  sizeByte := by kernel_rfl
  neB5 := by decide }
open Go.RowKit Go.Lib in
theorem Tryz.strings_Repeat (s : ByteArray) (c : Nat) (w : World) (hc : c ≤ 9223372036854775807) (hlen : s.size * c ≤ 140737488355328) :
    Calls Tryz.prog 104 #[.string s, .int .i64 c] w fun e w' => e = .returned (.string ⟨(Lib.repeatL s.data.toList c).toArray⟩) ∧ Below w.heap.size w w' := Any.strings_Repeat Tryz.lays105 Tryz.Builder_Extra_105 s c w hc hlen
def Tryz.laysNm217_ren : Go.Shelf.Ren := ⟨fun | 17 => 105 | n => n, fun | 24 => 59 | 9 => 9 | 3 => 3 | 4 => 4 | 0 => 0 | n => n, fun | n => n⟩
theorem Tryz.laysNm217 : Go.Proofs.Lays2.n17 Tryz.prog Tryz.laysNm217_ren := {
  mixed := by kernel_rfl
  f17 := Tryz.func105.trans (congrArg some (by kernel_rfl))
  t0 := Tryz.underlying0
  a0 := Tryz.isAgg0
  z0 := Tryz.sizeOf0
  v0 := Tryz.zeroValue0
  t3 := Tryz.underlying3
  a3 := Tryz.isAgg3
  z3 := Tryz.sizeOf3
  v3 := Tryz.zeroValue3
  t4 := Tryz.underlying4
  a4 := Tryz.isAgg4
  z4 := Tryz.sizeOf4
  v4 := Tryz.zeroValue4
  t9 := Tryz.underlying9
  a9 := Tryz.isAgg9
  z9 := Tryz.sizeOf9
  v9 := Tryz.zeroValue9
  t24 := Tryz.underlying59
  a24 := Tryz.isAgg59
  z24 := Tryz.sizeOf59
  v24 := Tryz.zeroValue59 }
open Go.RowKit Go.Lib Go.Sort in
theorem Tryz.slices_Reverse_string_cells (b off n c : Nat) (Sx : Nat → ByteArray) (w : World) (hbig : n ≤ 9223372036854775807) (hc : ∀ i, i < n → w.cell? ⟨b, off + i, none⟩ = some (.string (Sx i))) (hf : ∀ j, j < n → w.frozen? ⟨b, off + j, none⟩ = false) :
    Calls Tryz.prog 105 #[.slice (some ⟨b, off, none⟩) n c] w fun e w' => e = .returned (.tuple #[]) ∧ ∃ q, w' = (w.drewN q).setCells b off ((Lib.strsOf Sx n).reverse.map encStr) := Any.slices_Reverse_string_cells Tryz.laysNm217 b off n c Sx w hbig hc hf
end Go.Proofs

/- Decimal numerals: the shelf's numeral and zeros ahead of it as digits. -/
set_option linter.unusedVariables false
set_option linter.unusedSimpArgs false
namespace Go.Proofs.YtogakaiibijjpaaGreatDoor
open Go.RowKit
open DDig

/-- The digits of a number, the lowest one first (one for 0). -/
def d10 (u : Nat) : List Int := if h : u < 10 then [(u : Int)] else ((u % 10 : Nat) : Int) :: d10 (u / 10)
termination_by u
decreasing_by omega

theorem d10_dig (u : Nat) : Dig 10 (d10 u) := by
  induction u using d10.induct with
  | case1 u h => rw [d10, dif_pos h]; exact Dig.cons (by omega) (by omega) (Dig.nil _)
  | case2 u h ih => rw [d10, dif_neg h]; exact Dig.cons (by omega) (by omega) ih
theorem d10_val (u : Nat) : val 10 (d10 u) = u := by
  induction u using d10.induct with
  | case1 u h => rw [d10, dif_pos h]; simp [val]
  | case2 u h ih => rw [d10, dif_neg h, val_cons, ih]; omega
theorem d10_ne (u : Nat) : d10 u ≠ [] := by
  rw [d10]; split <;> simp
theorem norm_cons {d : Int} {xs : List Int} (h : Norm xs) (hx : xs ≠ []) : Norm (d :: xs) := by
  intro h'
  rw [List.getLast_cons hx]
  exact h hx
theorem d10_norm (u : Nat) (h0 : 0 < u) : Norm (d10 u) := by
  induction u using d10.induct with
  | case1 u h => rw [d10, dif_pos h]; intro _; simp; omega
  | case2 u h ih => rw [d10, dif_neg h]; exact norm_cons (ih (by omega)) (d10_ne _)
theorem dby_nat' (n : Nat) : dby (n : Int) = UInt8.ofNat (48 + n) := by
  unfold dby
  congr 1
theorem d10_bytes (u : Nat) : Lib.decDigits u = (d10 u).reverse.map dby := by
  induction u using d10.induct with
  | case1 u h => rw [Lib.decDigits, dif_pos h, d10, dif_pos h]; simp only [List.reverse_singleton, List.map_cons, List.map_nil, dby_nat']
  | case2 u h ih => rw [Lib.decDigits, dif_neg h, d10, dif_neg h, ih, List.reverse_cons, List.map_append, List.map_cons, List.map_nil, dby_nat']
theorem d10_length {u n : Nat} (hn : 0 < n) (h : (u : Int) < pw 10 n) : (d10 u).length ≤ n := by
  by_cases h0 : u = 0
  · rw [h0, d10, dif_pos (by omega)]; simp; omega
  · have h1 := val_ge (by decide : (0 : Int) < 10) (d10_dig u) (d10_norm u (by omega)) (d10_ne u)
    rw [d10_val] at h1
    apply Nat.le_of_not_lt
    intro hlt
    have := pw_mono (b := 10) (by decide) (show n ≤ (d10 u).length - 1 by omega)
    omega
/-- Nine digits. -/
def d10z (u n : Nat) : List Int := d10 u ++ List.replicate (n - (d10 u).length) 0
theorem rep_bytes (n : Nat) : Lib.repeatL [48] n = List.replicate n (48 : UInt8) := by
  induction n with
  | zero => rfl
  | succ n ih => rw [Lib.repeatL, ih]; rfl
theorem d10z_bytes (u n : Nat) : Lib.repeatL [48] (n - (d10 u).length) ++ Lib.decDigits u = (d10z u n).reverse.map dby := by
  rw [rep_bytes, d10_bytes, d10z, List.reverse_append, List.map_append, List.reverse_replicate, List.map_replicate]
  rfl
theorem d10z_dig (u n : Nat) : Dig 10 (d10z u n) := (d10_dig u).append (Dig.replicate (by decide) _)
theorem d10z_val (u n : Nat) : val 10 (d10z u n) = u := by
  rw [d10z, val_append, val_zeros, d10_val]; simp
theorem d10z_length {u n : Nat} (h : (d10 u).length ≤ n) : (d10z u n).length = n := by
  rw [d10z, List.length_append, List.length_replicate]; omega
theorem dec_length (u : Nat) : (Lib.decDigits u).length = (d10 u).length := by rw [d10_bytes]; simp
end Go.Proofs.YtogakaiibijjpaaGreatDoor
