/- Lemmas for the proof, part 6: Lin, M6, L1, L4, L5, U1, L2. -/
import Derived.Test.YtdgeodnfacnnmaaGreatDoorW5
import Derived.Test.YtdgeodnfacnnmaaGreatDoorCards
import Derived.Test.YtdgeodnfacnnmaaGreatDoorTie
import Derived.ProofKit
import Derived.OpenShut
import Derived.Lib.SmallJoins
import Derived.Deep.SlicePairs
import Derived.Deep.DeepHandedRow
import Derived.Deep.DeepWitnessRowRef
import Derived.Lib.LaidTab
import Derived.Carry
import Derived.Lay
import Derived.MakeChecks
import Derived.Shelf.LaysM
/- Elimination, kernels, ranks, determinants, inverses of matrices of rational numbers: plain facts on functions of two indices. -/
set_option linter.unusedVariables false
namespace Go.Proofs.YtdgeodnfacnnmaaGreatDoor.DLin

/-- The sum of the first numbers of a sequence. -/
def sm : Nat → (Nat → Rat) → Rat
  | 0, _ => 0
  | n + 1, f => sm n f + f n

theorem sm_zero (f : Nat → Rat) : sm 0 f = 0 := rfl
theorem sm_succ (n : Nat) (f : Nat → Rat) : sm (n + 1) f = sm n f + f n := rfl

theorem sm_congr {n : Nat} {f g : Nat → Rat} (h : ∀ i, i < n → f i = g i) : sm n f = sm n g := by
  induction n with
  | zero => rfl
  | succ n ih => rw [sm_succ, sm_succ, ih (fun i hi => h i (by omega)), h n (by omega)]

theorem sm_add (n : Nat) (f g : Nat → Rat) : sm n (fun i => f i + g i) = sm n f + sm n g := by
  induction n with
  | zero => simp only [sm_zero]; grind
  | succ n ih => simp only [sm_succ, ih]; grind

theorem sm_sub (n : Nat) (f g : Nat → Rat) : sm n (fun i => f i - g i) = sm n f - sm n g := by
  induction n with
  | zero => simp only [sm_zero]; grind
  | succ n ih => simp only [sm_succ, ih]; grind

theorem sm_mul (n : Nat) (c : Rat) (f : Nat → Rat) : sm n (fun i => c * f i) = c * sm n f := by
  induction n with
  | zero => simp [sm]
  | succ n ih => simp only [sm_succ, ih]; grind

theorem sm_mul' (n : Nat) (c : Rat) (f : Nat → Rat) : sm n (fun i => f i * c) = sm n f * c := by
  induction n with
  | zero => simp [sm]
  | succ n ih => simp only [sm_succ, ih]; grind

theorem sm_neg (n : Nat) (f : Nat → Rat) : sm n (fun i => - f i) = - sm n f := by
  induction n with
  | zero => simp [sm]
  | succ n ih => simp only [sm_succ, ih]; grind

theorem sm_nul (n : Nat) : sm n (fun _ => 0) = 0 := by
  induction n with
  | zero => rfl
  | succ n ih => rw [sm_succ, ih]; grind

theorem sm_null {n : Nat} {f : Nat → Rat} (h : ∀ i, i < n → f i = 0) : sm n f = 0 := by
  rw [sm_congr h, sm_nul]

theorem sm_comm (n m : Nat) (f : Nat → Nat → Rat) : sm n (fun i => sm m (fun j => f i j)) = sm m (fun j => sm n (fun i => f i j)) := by
  induction n with
  | zero => simp [sm, sm_nul]
  | succ n ih => simp only [sm_succ, ih, sm_add]

/-- Only one of the numbers is not 0. -/
theorem sm_one {n k : Nat} {f : Nat → Rat} (hk : k < n) (h : ∀ i, i < n → i ≠ k → f i = 0) : sm n f = f k := by
  induction n with
  | zero => omega
  | succ n ih =>
    rw [sm_succ]
    by_cases e : k = n
    · subst e
      rw [sm_null (fun i hi => h i (by omega) (by omega))]; grind
    · rw [ih (by omega) (fun i hi => h i (by omega)), h n (by omega) (by omega)]; grind

/-- A single number taken out of the sum. -/
theorem sm_out {n k : Nat} {f : Nat → Rat} (hk : k < n) : sm n f = f k + sm n (fun i => if i = k then 0 else f i) := by
  have e : sm n f = sm n (fun i => (if i = k then f k else 0) + (if i = k then 0 else f i)) := by
    apply sm_congr; intro i _; by_cases h : i = k
    · subst h; simp; grind
    · simp [h]; grind
  rw [e, sm_add, sm_one hk (fun i _ hne => by simp [hne])]
  simp

theorem sm_split (n m : Nat) (f : Nat → Rat) : sm (n + m) f = sm n f + sm m (fun i => f (n + i)) := by
  induction m with
  | zero => simp only [sm_zero, Nat.add_zero]; grind
  | succ m ih => rw [← Nat.add_assoc, sm_succ, ih, sm_succ]; grind

abbrev Mat := Nat → Nat → Rat

/-- The product with a column. -/
def ap (c : Nat) (M : Mat) (x : Nat → Rat) (i : Nat) : Rat := sm c fun j => M i j * x j

def swapped (M : Mat) (a b : Nat) : Mat := fun i => if i = a then M b else if i = b then M a else M i
def scaled (M : Mat) (r : Nat) (p : Rat) : Mat := fun i j => if i = r then M r j / p else M i j
def cleared (M : Mat) (r k : Nat) : Mat := fun i j => if i = r then M r j else M i j - M i k * M r j

/-- The first row from i on, among the next d ones, whose number in column k is not 0. -/
def findRow (M : Mat) (k : Nat) : Nat → Nat → Option Nat
  | 0, _ => none
  | d + 1, i => if M i k = 0 then findRow M k d (i + 1) else some i

theorem findRow_none {M : Mat} {k : Nat} : ∀ {d i : Nat}, findRow M k d i = none → ∀ t, i ≤ t → t < i + d → M t k = 0
  | 0, _, _, t, h1, h2 => by omega
  | d + 1, i, h, t, h1, h2 => by
    unfold findRow at h
    split at h
    · by_cases e : t = i
      · subst e; assumption
      · exact findRow_none h t (by omega) (by omega)
    · cases h

theorem findRow_some {M : Mat} {k t : Nat} : ∀ {d i : Nat}, findRow M k d i = some t → i ≤ t ∧ t < i + d ∧ M t k ≠ 0 ∧ ∀ s, i ≤ s → s < t → M s k = 0
  | 0, _, h => by simp [findRow] at h
  | d + 1, i, h => by
    unfold findRow at h
    split at h
    · rename_i h0
      obtain ⟨a, b, c, e⟩ := findRow_some h
      refine ⟨by omega, by omega, c, fun s h1 h2 => ?_⟩
      by_cases e' : s = i
      · subst e'; assumption
      · exact e s (by omega) h2
    · rename_i h0
      cases h
      exact ⟨by omega, by omega, h0, fun s h1 h2 => by omega⟩

/-- What elimination keeps: the rows, the pivots, and the determinant of the steps. -/
structure St where
  M : Mat
  piv : List Nat
  det : Rat

/-- One column of the elimination, m rows. -/
def step (m : Nat) (s : St) (k : Nat) : St :=
  match findRow s.M k (m - s.piv.length) s.piv.length with
  | none => s
  | some i =>
    let r := s.piv.length
    let A := swapped s.M r i
    ⟨cleared (scaled A r (A r k)) r k, s.piv ++ [k], (if i = r then s.det else - s.det) * A r k⟩

/-- The first n columns. -/
def steps (m : Nat) (M : Mat) : Nat → St
  | 0 => ⟨M, [], 1⟩
  | n + 1 => step m (steps m M n) n

/-- A row operation that loses nothing: what is orthogonal to all rows of one is so to all rows of the other, and each row of one is a combination of rows of the other. -/
structure Alike (m : Nat) (M N : Mat) : Prop where
  comb : ∃ Q : Mat, ∀ i, i < m → ∀ j, N i j = sm m fun t => Q i t * M t j
  back : ∃ Q : Mat, ∀ i, i < m → ∀ j, M i j = sm m fun t => Q i t * N t j

theorem comb_trans {m : Nat} {A B C : Mat} (h : ∃ Q : Mat, ∀ i, i < m → ∀ j, B i j = sm m fun t => Q i t * A t j) (g : ∃ Q : Mat, ∀ i, i < m → ∀ j, C i j = sm m fun t => Q i t * B t j) : ∃ Q : Mat, ∀ i, i < m → ∀ j, C i j = sm m fun t => Q i t * A t j := by
  obtain ⟨P, hP⟩ := h
  obtain ⟨Q, hQ⟩ := g
  refine ⟨fun i t => sm m fun s => Q i s * P s t, fun i hi j => ?_⟩
  rw [hQ i hi j, sm_congr (g := fun t => sm m fun s => Q i t * P t s * A s j) (fun t ht => by rw [hP t ht j, ← sm_mul]; exact sm_congr fun s _ => by grind), sm_comm]
  exact sm_congr fun t _ => by rw [← sm_mul']

theorem Alike.refl (m : Nat) (M : Mat) : Alike m M M :=
  have h : ∃ Q : Mat, ∀ i, i < m → ∀ j, M i j = sm m fun t => Q i t * M t j :=
    ⟨fun i t => if t = i then 1 else 0, fun i hi j => by rw [sm_one hi (fun t _ ht => by simp [ht])]; simp⟩
  ⟨h, h⟩

theorem Alike.trans {m : Nat} {A B C : Mat} (h : Alike m A B) (g : Alike m B C) : Alike m A C := ⟨comb_trans h.comb g.comb, comb_trans g.back h.back⟩

theorem Alike.symm {m : Nat} {A B : Mat} (h : Alike m A B) : Alike m B A := ⟨h.back, h.comb⟩

theorem swapped_comb {m : Nat} (M : Mat) {a b : Nat} (ha : a < m) (hb : b < m) : ∃ Q : Mat, ∀ i, i < m → ∀ j, swapped M a b i j = sm m fun t => Q i t * M t j := by
  refine ⟨fun i t => if i = a then (if t = b then 1 else 0) else if i = b then (if t = a then 1 else 0) else if t = i then 1 else 0, fun i hi j => ?_⟩
  unfold swapped
  by_cases h1 : i = a
  · simp only [h1, if_true]
    rw [sm_one hb (fun t _ ht => by simp [ht])]; simp
  · by_cases h2 : i = b
    · simp only [h2, if_true]
      rw [sm_one ha (fun t _ ht => by subst h2; simp [ht, h1])]; subst h2; simp [h1]
    · simp only [h1, h2, if_false]
      rw [sm_one hi (fun t _ ht => by simp [ht])]; simp

theorem swapped_swapped (M : Mat) (a b : Nat) : swapped (swapped M a b) a b = M := by
  funext i j; unfold swapped; by_cases h1 : i = a <;> by_cases h2 : i = b <;> by_cases h3 : a = b <;> simp_all

theorem alike_swapped {m : Nat} (M : Mat) {a b : Nat} (ha : a < m) (hb : b < m) : Alike m M (swapped M a b) :=
  ⟨swapped_comb M ha hb, by have := swapped_comb (m := m) (swapped M a b) ha hb; rwa [swapped_swapped] at this⟩

theorem alike_scaled {m : Nat} (M : Mat) {r : Nat} {p : Rat} (hp : p ≠ 0) : Alike m M (scaled M r p) := by
  constructor
  · refine ⟨fun i t => if t = i then (if i = r then p⁻¹ else 1) else 0, fun i hi j => ?_⟩
    rw [sm_one hi (fun t _ ht => by simp [ht])]
    unfold scaled; by_cases h : i = r <;> simp [h] <;> grind
  · refine ⟨fun i t => if t = i then (if i = r then p else 1) else 0, fun i hi j => ?_⟩
    rw [sm_one hi (fun t _ ht => by simp [ht])]
    unfold scaled; by_cases h : i = r <;> simp [h] <;> grind

theorem alike_cleared {m : Nat} (M : Mat) {r k : Nat} (hr : r < m) : Alike m M (cleared M r k) := by
  constructor
  · refine ⟨fun i t => if i = r then (if t = r then 1 else 0) else (if t = i then 1 else 0) + (if t = r then - M i k else 0), fun i hi j => ?_⟩
    unfold cleared
    by_cases h : i = r
    · simp only [h, if_true]
      rw [sm_one hr (fun t _ ht => by simp [ht])]; simp
    · simp only [h, if_false]
      have e : ∀ t, ((if t = i then (1:Rat) else 0) + (if t = r then - M i k else 0)) * M t j = (if t = i then M i j else 0) + (if t = r then - M i k * M r j else 0) := by
        intro t; by_cases h1 : t = i <;> by_cases h2 : t = r <;> simp_all <;> grind
      rw [sm_congr (fun t _ => e t), sm_add, sm_one hi (fun t _ ht => by simp [ht]), sm_one hr (fun t _ ht => by simp [ht])]
      simp; grind
  · refine ⟨fun i t => if i = r then (if t = r then 1 else 0) else (if t = i then 1 else 0) + (if t = r then M i k else 0), fun i hi j => ?_⟩
    unfold cleared
    by_cases h : i = r
    · simp only [h, if_true]
      rw [sm_one hr (fun t _ ht => by simp [ht])]; simp
    · simp only [h, if_false]
      have e : ∀ t, ((if t = i then (1:Rat) else 0) + (if t = r then M i k else 0)) * (if t = r then M r j else M t j - M t k * M r j) = (if t = i then M i j - M i k * M r j else 0) + (if t = r then M i k * M r j else 0) := by
        intro t; by_cases h1 : t = i <;> by_cases h2 : t = r <;> simp_all <;> grind
      rw [sm_congr (fun t _ => e t), sm_add, sm_one hi (fun t _ ht => by simp [ht]), sm_one hr (fun t _ ht => by simp [ht])]
      simp; grind

/-- What holds after k columns. -/
structure Inv (m : Nat) (M0 : Mat) (s : St) (k : Nat) : Prop where
  len : s.piv.length ≤ m
  lt : ∀ t, t < s.piv.length → s.piv.getD t 0 < k
  inc : ∀ t u, t < u → u < s.piv.length → s.piv.getD t 0 < s.piv.getD u 0
  unit : ∀ t, t < s.piv.length → ∀ i, i < m → s.M i (s.piv.getD t 0) = if i = t then 1 else 0
  left : ∀ t, t < s.piv.length → ∀ j, j < s.piv.getD t 0 → s.M t j = 0
  below : ∀ i, s.piv.length ≤ i → i < m → ∀ j, j < k → s.M i j = 0
  alike : Alike m M0 s.M

theorem inv_start (m : Nat) (M : Mat) : Inv m M ⟨M, [], 1⟩ 0 :=
  ⟨by simp, by simp, by simp, by simp, by simp, by simp, Alike.refl m M⟩

theorem getD_snoc_lt {l : List Nat} {x t : Nat} (h : t < l.length) : (l ++ [x]).getD t 0 = l.getD t 0 := by
  simp [List.getD_eq_getElem?_getD, List.getElem?_append_left h]
theorem getD_snoc_eq {l : List Nat} {x : Nat} : (l ++ [x]).getD l.length 0 = x := by
  simp [List.getD_eq_getElem?_getD]

theorem step_some {m k i : Nat} {s : St} (h : findRow s.M k (m - s.piv.length) s.piv.length = some i) :
    step m s k = ⟨cleared (scaled (swapped s.M s.piv.length i) s.piv.length (swapped s.M s.piv.length i s.piv.length k)) s.piv.length k, s.piv ++ [k], (if i = s.piv.length then s.det else - s.det) * swapped s.M s.piv.length i s.piv.length k⟩ := by
  unfold step; rw [h]

theorem step_none {m k : Nat} {s : St} (h : findRow s.M k (m - s.piv.length) s.piv.length = none) : step m s k = s := by
  unfold step; rw [h]

theorem inv_step {m : Nat} {M0 : Mat} {s : St} {k : Nat} (h : Inv m M0 s k) : Inv m M0 (step m s k) (k + 1) := by
  cases hf : findRow s.M k (m - s.piv.length) s.piv.length with
  | none =>
    rw [step_none hf]
    have h0 := findRow_none hf
    refine ⟨h.len, fun t ht => Nat.lt_succ_of_lt (h.lt t ht), h.inc, h.unit, h.left, fun i h1 h2 j hj => ?_, h.alike⟩
    by_cases e : j = k
    · subst e; exact h0 i h1 (by omega)
    · exact h.below i h1 h2 j (by omega)
  | some i =>
    rw [step_some hf]
    obtain ⟨h1, h2, h3, h4⟩ := findRow_some hf
    obtain ⟨r, hr⟩ : ∃ r, r = s.piv.length := ⟨_, rfl⟩
    rw [← hr] at h1 h2 ⊢
    have hA : swapped s.M r i r = s.M i := by simp [swapped]
    have hlen := h.len
    rw [hA]
    have hp : s.M i k ≠ 0 := h3
    -- the rows of the new matrix
    have hNr : ∀ j, cleared (scaled (swapped s.M r i) r (s.M i k)) r k r j = s.M i j / s.M i k := by
      intro j; simp [cleared, scaled, hA]
    have hN : ∀ x, x ≠ r → ∀ j, cleared (scaled (swapped s.M r i) r (s.M i k)) r k x j = swapped s.M r i x j - swapped s.M r i x k * (s.M i j / s.M i k) := by
      intro x hx j; simp [cleared, scaled, hx, hA]
    have hS : ∀ x, x < r → swapped s.M r i x = s.M x := by
      intro x hx; unfold swapped; rw [if_neg (by omega), if_neg (by omega)]
    have hS2 : ∀ x, r < x → x < m → ∀ j, j < k → swapped s.M r i x j = 0 := by
      intro x hx hm j hj
      unfold swapped; rw [if_neg (by omega)]
      split
      · exact h.below r (by omega) (by omega) j hj
      · exact h.below x (by omega) hm j hj
    have hi0 : ∀ j, j < k → s.M i j = 0 := fun j hj => h.below i (by omega) (by omega) j hj
    have hlow : ∀ x, x ≠ r → ∀ j, j < k → cleared (scaled (swapped s.M r i) r (s.M i k)) r k x j = swapped s.M r i x j := by
      intro x hx j hj; rw [hN x hx, hi0 j hj]; grind
    have hk1 : ∀ x, x ≠ r → cleared (scaled (swapped s.M r i) r (s.M i k)) r k x k = 0 := by
      intro x hx; rw [hN x hx]; grind
    have hk2 : cleared (scaled (swapped s.M r i) r (s.M i k)) r k r k = 1 := by rw [hNr]; grind
    refine ⟨?_, ?_, ?_, ?_, ?_, ?_, ?_⟩
    · simp; omega
    · intro t ht
      simp at ht
      by_cases e : t = r
      · subst e; rw [hr, getD_snoc_eq]; omega
      · rw [getD_snoc_lt (by omega)]; have := h.lt t (by omega); omega
    · intro t u htu hu
      simp at hu
      rw [getD_snoc_lt (by omega)]
      by_cases e : u = r
      · subst e; rw [hr, getD_snoc_eq]; exact h.lt t (by omega)
      · rw [getD_snoc_lt (by omega)]; exact h.inc t u htu (by omega)
    · intro t ht x hx
      simp at ht
      by_cases e : t = r
      · have e2 : (s.piv ++ [k]).getD t 0 = k := by rw [e, hr, getD_snoc_eq]
        simp only [e2]
        by_cases hxr : x = r
        · rw [hxr, hk2, e]; simp
        · rw [hk1 x hxr, if_neg (by omega)]
      · have htr : t < s.piv.length := by omega
        simp only [getD_snoc_lt htr]
        have hlt := h.lt t htr
        by_cases hxr : x = r
        · rw [hxr, hNr, hi0 _ hlt, if_neg (by omega)]; grind
        · rw [hlow x hxr _ hlt]
          by_cases hxl : x < r
          · rw [hS x hxl]; exact h.unit t htr x hx
          · rw [hS2 x (by omega) hx _ hlt, if_neg (by omega)]
    · intro t ht j hj
      simp at ht
      by_cases e : t = r
      · have e2 : (s.piv ++ [k]).getD t 0 = k := by rw [e, hr, getD_snoc_eq]
        rw [e2] at hj
        rw [e]; show cleared _ r k r j = 0
        rw [hNr, hi0 j hj]; grind
      · have htr : t < s.piv.length := by omega
        rw [getD_snoc_lt htr] at hj
        have hlt := h.lt t htr
        show cleared _ r k t j = 0
        rw [hlow t e j (by omega), hS t (by omega)]
        exact h.left t htr j hj
    · intro x hx hxm j hj
      simp at hx
      show cleared _ r k x j = 0
      by_cases e : j = k
      · rw [e, hk1 x (by omega)]
      · rw [hlow x (by omega) j (by omega), hS2 x (by omega) hxm j (by omega)]
    · refine h.alike.trans (((alike_swapped s.M (a := r) (b := i) (by omega) (by omega))).trans ((alike_scaled _ hp).trans (alike_cleared _ (by omega))))

theorem inv_steps (m : Nat) (M : Mat) : ∀ n, Inv m M (steps m M n) n
  | 0 => inv_start m M
  | n + 1 => inv_step (inv_steps m M n)

/-- The columns without a pivot. -/
def free (piv : List Nat) (f : Nat) : Prop := ∀ t, t < piv.length → piv.getD t 0 ≠ f

/-- The vector of the kernel that belongs to a column without a pivot. -/
def kerv (s : St) (f : Nat) (j : Nat) : Rat := if j = f then 1 else if j ∈ s.piv then - s.M (s.piv.idxOf j) f else 0

theorem idxOf_getD {l : List Nat} {t : Nat} (ht : t < l.length) (inc : ∀ t u, t < u → u < l.length → l.getD t 0 < l.getD u 0) : l.idxOf (l.getD t 0) = t := by
  have hm : l.getD t 0 ∈ l := by simp [List.getD_eq_getElem?_getD, ht]
  have hi : l.idxOf (l.getD t 0) < l.length := List.idxOf_lt_length_of_mem hm
  have he : l.getD (l.idxOf (l.getD t 0)) 0 = l.getD t 0 := by
    rw [List.getD_eq_getElem?_getD (i := l.idxOf (l.getD t 0)), List.getElem?_eq_getElem hi, Option.getD_some]
    exact List.getElem_idxOf hi
  have ⟨a, b⟩ : ¬ l.idxOf (l.getD t 0) < t ∧ ¬ t < l.idxOf (l.getD t 0) := by
    constructor
    · intro h; have := inc _ _ h ht; omega
    · intro h; have := inc _ _ h hi; omega
  omega

theorem mem_iff_getD {l : List Nat} {x : Nat} : x ∈ l ↔ ∃ t, t < l.length ∧ l.getD t 0 = x := by
  constructor
  · intro h
    obtain ⟨t, ht, e⟩ := List.mem_iff_getElem.1 h
    exact ⟨t, ht, by simp [List.getD_eq_getElem?_getD, ht, e]⟩
  · rintro ⟨t, ht, rfl⟩
    simp [List.getD_eq_getElem?_getD, ht]

/-- A sum over n columns of the products with a row of a reduced matrix, parted into pivots and others. -/
theorem sm_pivots {n : Nat} {l : List Nat} (lt : ∀ t, t < l.length → l.getD t 0 < n) (inc : ∀ t u, t < u → u < l.length → l.getD t 0 < l.getD u 0) (f : Nat → Rat) :
    sm n f = sm l.length (fun t => f (l.getD t 0)) + sm n (fun j => if j ∈ l then 0 else f j) := by
  have gen : ∀ d, d ≤ l.length → sm n f = sm d (fun t => f (l.getD t 0)) + sm n (fun j => if (∃ t, t < d ∧ l.getD t 0 = j) then 0 else f j) := by
    intro d
    induction d with
    | zero => intro _; rw [sm_zero]; simp; grind
    | succ d ih =>
      intro hd
      rw [ih (by omega), sm_succ, sm_out (lt d (by omega)) (f := fun j => if (∃ t, t < d ∧ l.getD t 0 = j) then 0 else f j)]
      rw [if_neg (by rintro ⟨t, h1, h2⟩; have := inc t d h1 (by omega); omega)]
      have e : sm n (fun j => if j = l.getD d 0 then 0 else if (∃ t, t < d ∧ l.getD t 0 = j) then 0 else f j) = sm n (fun j => if (∃ t, t < d + 1 ∧ l.getD t 0 = j) then 0 else f j) := by
        apply sm_congr; intro j _
        by_cases h1 : j = l.getD d 0
        · rw [if_pos h1, if_pos ⟨d, by omega, h1.symm⟩]
        · by_cases h2 : ∃ t, t < d ∧ l.getD t 0 = j
          · obtain ⟨t, h3, h4⟩ := h2
            rw [if_neg h1, if_pos ⟨t, h3, h4⟩, if_pos ⟨t, by omega, h4⟩]
          · rw [if_neg h1, if_neg h2, if_neg]
            rintro ⟨t, h3, h4⟩
            by_cases e : t = d
            · subst e; exact h1 h4.symm
            · exact h2 ⟨t, by omega, h4⟩
      rw [e]; grind
  rw [gen l.length (Nat.le_refl _)]
  congr 1
  apply sm_congr; intro j _
  by_cases h : j ∈ l
  · rw [if_pos h, if_pos (mem_iff_getD.1 h)]
  · rw [if_neg h, if_neg (fun g => h (mem_iff_getD.2 g))]

/-- The rows of the reduced matrix are orthogonal to each vector of the basis. -/
theorem kerv_reduced {m n : Nat} {M0 : Mat} {s : St} (h : Inv m M0 s n) {f : Nat} (hf : f < n) (hff : f ∉ s.piv) : ∀ i, i < m → ap n s.M (kerv s f) i = 0 := by
  intro i hi
  unfold ap
  rw [sm_pivots h.lt h.inc]
  have e1 : sm n (fun j => if j ∈ s.piv then 0 else s.M i j * kerv s f j) = s.M i f := by
    rw [sm_one hf]
    · rw [if_neg hff]; simp [kerv]
    · intro j hj hne
      by_cases hm : j ∈ s.piv
      · rw [if_pos hm]
      · rw [if_neg hm]; simp [kerv, hne, hm]
  have e2 : sm s.piv.length (fun t => s.M i (s.piv.getD t 0) * kerv s f (s.piv.getD t 0)) = - s.M i f := by
    have : ∀ t, t < s.piv.length → s.M i (s.piv.getD t 0) * kerv s f (s.piv.getD t 0) = if i = t then - s.M i f else 0 := by
      intro t ht
      have hmem : s.piv.getD t 0 ∈ s.piv := mem_iff_getD.2 ⟨t, ht, rfl⟩
      have hne : s.piv.getD t 0 ≠ f := fun e => hff (e ▸ hmem)
      rw [h.unit t ht i hi]
      unfold kerv
      rw [if_neg hne, if_pos hmem, idxOf_getD ht h.inc]
      by_cases e : i = t
      · subst e; simp
      · simp [e]
    rw [sm_congr this]
    by_cases hil : i < s.piv.length
    · rw [sm_one hil (fun t _ ht => by rw [if_neg (Ne.symm ht)])]; simp
    · rw [sm_null (fun t ht => by rw [if_neg (by omega)])]
      have := h.below i (by omega) hi f hf
      rw [this]; rfl
  rw [e1, e2]; grind

theorem ap_comb {m c : Nat} {A B : Mat} (h : ∃ Q : Mat, ∀ i, i < m → ∀ j, B i j = sm m fun t => Q i t * A t j) {x : Nat → Rat} (hx : ∀ i, i < m → ap c A x i = 0) : ∀ i, i < m → ap c B x i = 0 := by
  obtain ⟨Q, hQ⟩ := h
  intro i hi
  unfold ap
  rw [sm_congr (g := fun j => sm m fun t => Q i t * (A t j * x j)) (fun j _ => by rw [hQ i hi j, ← sm_mul']; exact sm_congr fun t _ => by grind), sm_comm]
  apply sm_null
  intro t ht
  rw [sm_mul]
  have := hx t ht
  unfold ap at this
  rw [this]; grind

theorem Alike.kernel {m c : Nat} {A B : Mat} (h : Alike m A B) (x : Nat → Rat) : (∀ i, i < m → ap c A x i = 0) ↔ (∀ i, i < m → ap c B x i = 0) :=
  ⟨fun g => ap_comb h.comb g, fun g => ap_comb h.back g⟩

/-- Each vector of the basis is a solution. -/
theorem kerv_kernel {m n : Nat} {M : Mat} {f : Nat} (hf : f < n) (hff : f ∉ (steps m M n).piv) : ∀ i, i < m → ap n M (kerv (steps m M n) f) i = 0 :=
  ((inv_steps m M n).alike.kernel _).2 (kerv_reduced (inv_steps m M n) hf hff)

/-- A list of increasing numbers below n that is shorter than n leaves one out. -/
theorem left_out : ∀ {n : Nat} {l : List Nat}, l.length < n → ∃ f, f < n ∧ f ∉ l
  | 0, _, h => by omega
  | n + 1, l, h => by
    by_cases hn : n ∈ l
    · have : (l.filter (fun x => x != n)).length < n := by
        have h2 := List.length_filter_lt_length_iff_exists (p := fun x => x != n) (l := l)
        have : (l.filter (fun x => x != n)).length < l.length := h2.2 ⟨n, hn, by simp⟩
        omega
      obtain ⟨f, h1, h2⟩ := left_out this
      refine ⟨f, by omega, fun h3 => h2 ?_⟩
      simp [List.mem_filter, h3]; omega
    · exact ⟨n, by omega, hn⟩

/-- The identity of n rows is no product over fewer than n. -/
theorem identity_rank {n r : Nat} {A B : Mat} (h : ∀ i, i < n → ∀ j, j < n → (sm r fun t => A i t * B t j) = if i = j then 1 else 0) : n ≤ r := by
  apply Nat.le_of_not_lt
  intro hlt
  have hi := inv_steps r B n
  obtain ⟨f, h1, h2⟩ := left_out (Nat.lt_of_le_of_lt hi.len hlt)
  have hk := kerv_kernel (m := r) (M := B) h1 h2
  obtain ⟨y, hy⟩ : ∃ y, y = kerv (steps r B n) f := ⟨_, rfl⟩
  have hyf : y f = 1 := by rw [hy]; simp [kerv]
  rw [← hy] at hk
  have e1 : y f = sm n fun j => (sm r fun t => A f t * B t j) * y j := by
    rw [sm_one h1 (fun j hj hne => by rw [h f h1 j hj, if_neg (Ne.symm hne)]; grind), h f h1 f h1]; simp
  have e2 : (sm n fun j => (sm r fun t => A f t * B t j) * y j) = 0 := by
    rw [sm_congr (g := fun j => sm r fun t => A f t * (B t j * y j)) (fun j _ => by rw [← sm_mul']; exact sm_congr fun t _ => by grind), sm_comm]
    apply sm_null; intro t ht
    rw [sm_mul]
    have := hk t ht
    unfold ap at this
    rw [this]; grind
  rw [e1, e2] at hyf
  exact absurd hyf (by decide)

def transposed (M : Mat) : Mat := fun i j => M j i

/-- Each row is the combination of the reduced rows by its numbers in the columns of the pivots. -/
theorem row_of_pivots {m n : Nat} {M : Mat} {s : St} (h : Inv m M s n) : ∀ i, i < m → ∀ j, j < n → M i j = sm s.piv.length fun t => M i (s.piv.getD t 0) * s.M t j := by
  obtain ⟨Q, hQ⟩ := h.alike.back
  have hlen := h.len
  have hcut : ∀ i, i < m → ∀ j, j < n → M i j = sm s.piv.length fun t => Q i t * s.M t j := by
    intro i hi j hj
    rw [hQ i hi j]
    obtain ⟨d, hd⟩ : ∃ d, m = s.piv.length + d := ⟨m - s.piv.length, by omega⟩
    rw [hd, sm_split, sm_null (n := d) (fun t ht => by rw [h.below _ (by omega) (by omega) j hj]; grind)]
    grind
  intro i hi j hj
  rw [hcut i hi j hj]
  apply sm_congr
  intro t ht
  rw [hcut i hi _ (h.lt t ht), sm_one ht (fun u hu hne => by rw [h.unit t ht u (by omega), if_neg hne]; grind), h.unit t ht t (by omega)]
  simp

/-- The rank of the transpose is not greater. -/
theorem rank_le {m n : Nat} (M : Mat) : (steps n (transposed M) m).piv.length ≤ (steps m M n).piv.length := by
  have h := inv_steps m M n
  have g := inv_steps n (transposed M) m
  obtain ⟨s, hs⟩ : ∃ s, s = steps m M n := ⟨_, rfl⟩
  obtain ⟨s', hs'⟩ : ∃ s', s' = steps n (transposed M) m := ⟨_, rfl⟩
  rw [← hs] at h ⊢
  rw [← hs'] at g ⊢
  obtain ⟨Q, hQ⟩ := g.alike.comb
  have hgl := g.len
  apply identity_rank (A := fun u t => sm n fun j => Q u j * s.M t j) (B := fun t u => M (s'.piv.getD u 0) (s.piv.getD t 0))
  intro u hu v hv
  have e : s'.M u (s'.piv.getD v 0) = if u = v then 1 else 0 := g.unit v hv u (by omega)
  rw [← e, hQ u (by omega)]
  have hm : s'.piv.getD v 0 < m := g.lt v hv
  rw [sm_congr (n := n) (g := fun j => sm s.piv.length fun t => Q u j * s.M t j * M (s'.piv.getD v 0) (s.piv.getD t 0)) (fun j hj => by
    rw [show transposed M j (s'.piv.getD v 0) = M (s'.piv.getD v 0) j from rfl, row_of_pivots h _ hm j hj, ← sm_mul]
    exact sm_congr fun t _ => by grind), sm_comm]
  exact sm_congr fun t _ => by rw [← sm_mul']

theorem rank_transposed {m n : Nat} (M : Mat) : (steps n (transposed M) m).piv.length = (steps m M n).piv.length :=
  Nat.le_antisymm (rank_le M) (rank_le (transposed M))

/-- 1 or -1. -/
def sg : Nat → Rat
  | 0 => 1
  | n + 1 => - sg n

def skip (k j : Nat) : Nat := if j < k then j else j + 1
def minor (M : Mat) (k : Nat) : Mat := fun i j => M (i + 1) (skip k j)

/-- The determinant, by the first row. -/
def det : Nat → Mat → Rat
  | 0, _ => 1
  | n + 1, M => sm (n + 1) fun k => sg k * (M 0 k * det n (minor M k))

theorem det_succ (n : Nat) (M : Mat) : det (n + 1) M = sm (n + 1) fun k => sg k * (M 0 k * det n (minor M k)) := rfl

theorem skip_lt {k j n : Nat} (h : j < n) : skip k j < n + 1 := by unfold skip; split <;> omega

theorem det_congr : ∀ {n : Nat} {A B : Mat}, (∀ i, i < n → ∀ j, j < n → A i j = B i j) → det n A = det n B
  | 0, _, _, _ => rfl
  | n + 1, A, B, h => by
    rw [det_succ, det_succ]
    apply sm_congr
    intro k hk
    rw [h 0 (by omega) k hk, det_congr (A := minor A k) (B := minor B k) (fun i hi j hj => h (i + 1) (by omega) _ (skip_lt hj))]

def setRow (M : Mat) (r : Nat) (v : Nat → Rat) : Mat := fun i => if i = r then v else M i

theorem minor_setRow_zero (M : Mat) (v : Nat → Rat) (k : Nat) : minor (setRow M 0 v) k = minor M k := by
  funext i j; simp [minor, setRow]
theorem minor_setRow_succ (M : Mat) (r : Nat) (v : Nat → Rat) (k : Nat) : minor (setRow M (r + 1) v) k = setRow (minor M k) r (fun j => v (skip k j)) := by
  funext i j; simp only [minor, setRow]; by_cases h : i = r <;> simp [h, minor]

/-- The determinant is linear in each row. -/
theorem det_linear : ∀ {n r : Nat} (M : Mat) (a b : Rat) (u v : Nat → Rat), r < n → det n (setRow M r fun j => a * u j + b * v j) = a * det n (setRow M r u) + b * det n (setRow M r v)
  | 0, _, _, _, _, _, _, h => by omega
  | n + 1, 0, M, a, b, u, v, _ => by
    simp only [det_succ, minor_setRow_zero]
    rw [← sm_mul, ← sm_mul, ← sm_add]
    apply sm_congr; intro k _
    simp only [setRow, if_true]; grind
  | n + 1, r + 1, M, a, b, u, v, h => by
    simp only [det_succ, minor_setRow_succ]
    rw [← sm_mul, ← sm_mul, ← sm_add]
    apply sm_congr; intro k _
    rw [det_linear (minor M k) a b (fun j => u (skip k j)) (fun j => v (skip k j)) (by omega)]
    have e : ∀ w, setRow M (r + 1) w 0 = M 0 := fun w => by simp [setRow]
    rw [e, e, e]; grind

theorem sm_skip (n k : Nat) (hk : k < n + 1) (f : Nat → Rat) : sm n (fun l => f (skip k l)) = sm (n + 1) (fun p => if p = k then 0 else f p) := by
  induction n with
  | zero =>
    obtain rfl : k = 0 := by omega
    simp only [sm_succ, sm_zero, if_true]; grind
  | succ n ih =>
    by_cases e : k = n + 1
    · subst e
      rw [sm_succ (n + 1)]
      simp only [if_true]
      rw [sm_congr (g := fun p => if p = n + 1 then 0 else f p) (fun l hl => by simp [skip, hl]; omega)]
      grind
    · rw [sm_succ, ih (by omega), sm_succ (n + 1)]
      rw [if_neg (by omega)]
      congr 1
      unfold skip; rw [if_neg (by omega)]

theorem skip_skip (k p l : Nat) (hp : p ≠ k) : skip k (skip (if p < k then p else p - 1) l) = skip p (skip (if k < p then k else k - 1) l) := by
  unfold skip
  by_cases h1 : p < k
  · rw [if_pos h1, if_neg (show ¬ k < p by omega)]
    repeat' split
    all_goals omega
  · rw [if_neg h1, if_pos (show k < p by omega)]
    repeat' split
    all_goals omega

/-- The determinant by the first two rows. -/
theorem det_two (n : Nat) (M : Mat) : det (n + 2) M = sm (n + 2) fun k => sm (n + 2) fun p => if p = k then 0 else sg k * sg p * (if p < k then 1 else -1) * (M 0 k * M 1 p) * det n (fun i j => M (i + 2) (skip k (skip (if p < k then p else p - 1) j))) := by
  rw [det_succ]
  apply sm_congr
  intro k hk
  rw [det_succ, ← sm_mul, ← sm_mul]
  have e := sm_skip (n + 1) k hk (fun p => sg k * sg p * (if p < k then 1 else -1) * (M 0 k * M 1 p) * det n (fun i j => M (i + 2) (skip k (skip (if p < k then p else p - 1) j))))
  rw [← e]
  apply sm_congr
  intro l hl
  have e1 : (if skip k l < k then skip k l else skip k l - 1) = l := by
    unfold skip
    repeat' split
    all_goals omega
  rw [e1]
  have e2 : det n (minor (minor M k) l) = det n (fun i j => M (i + 2) (skip k (skip l j))) := rfl
  rw [e2]
  have e3 : minor M k 0 l = M 1 (skip k l) := rfl
  rw [e3]
  have e4 : sg (skip k l) * (if skip k l < k then 1 else -1) = sg l := by
    unfold skip
    by_cases h : l < k
    · simp [h]
    · rw [if_neg h, if_neg (by omega)]; simp only [sg]; grind
  rw [← e4]; grind

theorem swapped_minor (M : Mat) (a b k : Nat) : minor (swapped M (a + 1) (b + 1)) k = swapped (minor M k) a b := by
  funext i j; simp only [minor, swapped]
  by_cases h1 : i = a
  · simp [h1, minor]
  · by_cases h2 : i = b
    · have h3 : ¬ b = a := fun e => h1 (h2.trans e)
      simp [h2, h3, minor]
    · simp [h1, h2, minor]

theorem sm_sm_neg {n : Nat} {F G : Nat → Nat → Rat} (h : ∀ k, k < n → ∀ p, p < n → G k p = - F p k) : sm n (fun k => sm n fun p => G k p) = - sm n (fun k => sm n fun p => F k p) := by
  rw [sm_comm n n F, ← sm_neg]
  apply sm_congr; intro k hk
  rw [← sm_neg]
  exact sm_congr fun p hp => h k hk p hp

/-- Two neighbouring rows change places: the sign changes. -/
theorem det_adjacent : ∀ {n r : Nat} (M : Mat), r + 1 < n → det n (swapped M r (r + 1)) = - det n M
  | 0, _, _, h => by omega
  | 1, _, _, h => by omega
  | n + 2, 0, M, _ => by
    rw [det_two, det_two]
    apply sm_sm_neg
    intro k hk p hp
    by_cases e : p = k
    · subst e; simp
    · rw [if_neg e, if_neg (Ne.symm e)]
      have e1 : swapped M 0 1 0 k = M 1 k := by simp [swapped]
      have e2 : swapped M 0 1 1 p = M 0 p := by simp [swapped]
      have e3 : (fun i j => swapped M 0 1 (i + 2) (skip k (skip (if p < k then p else p - 1) j))) = (fun i j => M (i + 2) (skip p (skip (if k < p then k else k - 1) j))) := by
        funext i j
        rw [skip_skip k p j e]
        simp [swapped]
      rw [e1, e2, e3]
      by_cases h : p < k
      · rw [if_pos h, if_neg (show ¬ k < p by omega)]; grind
      · rw [if_neg h, if_pos (show k < p by omega)]; grind
  | n + 2, r + 1, M, h => by
    rw [det_succ, det_succ, ← sm_neg]
    apply sm_congr
    intro k _
    rw [swapped_minor, det_adjacent _ (by omega)]
    have e : swapped M (r + 1) (r + 1 + 1) 0 = M 0 := by simp [swapped]
    rw [e]; grind

theorem det_swapped {n a : Nat} : ∀ {d : Nat} (M : Mat), a + d + 1 < n → det n (swapped M a (a + d + 1)) = - det n M
  | 0, M, h => det_adjacent M h
  | d + 1, M, h => by
    have e : swapped M a (a + (d + 1) + 1) = swapped (swapped (swapped M (a + d + 1) (a + d + 2)) a (a + d + 1)) (a + d + 1) (a + d + 2) := by
      have h1 : a + (d + 1) + 1 = a + d + 2 := by omega
      have n1 : ¬ a = a + d + 1 := by omega
      have n2 : ¬ a = a + d + 2 := by omega
      have n3 : ¬ a + d + 1 = a := by omega
      have n4 : ¬ a + d + 2 = a := by omega
      have n5 : ¬ a + d + 1 = a + d + 2 := by omega
      have n6 : ¬ a + d + 2 = a + d + 1 := by omega
      rw [h1]
      funext i
      simp only [swapped]
      by_cases x1 : i = a
      · simp only [x1, if_true, n1, n2, n3, n4, n5, n6, if_false]
      · by_cases x2 : i = a + d + 1
        · simp only [x2, if_true, n1, n2, n3, n4, n5, n6, if_false]
        · by_cases x3 : i = a + d + 2
          · simp only [x3, if_true, n1, n2, n3, n4, n5, n6, if_false]
          · simp only [x1, x2, x3, if_false]
    rw [e, det_adjacent _ (by omega), det_swapped _ (by omega), det_adjacent _ (by omega)]
    grind

theorem swapped_symm (M : Mat) (a b : Nat) : swapped M a b = swapped M b a := by
  funext i; simp only [swapped]; by_cases h1 : i = a <;> by_cases h2 : i = b <;> simp_all

theorem det_swap {n a b : Nat} (M : Mat) (ha : a < n) (hb : b < n) (h : a ≠ b) : det n (swapped M a b) = - det n M := by
  by_cases g : a < b
  · obtain ⟨d, rfl⟩ : ∃ d, b = a + d + 1 := ⟨b - a - 1, by omega⟩
    exact det_swapped M hb
  · obtain ⟨d, rfl⟩ : ∃ d, a = b + d + 1 := ⟨a - b - 1, by omega⟩
    rw [swapped_symm]; exact det_swapped M ha

/-- Two equal rows: 0. -/
theorem det_equal {n a b : Nat} (M : Mat) (ha : a < n) (hb : b < n) (h : a ≠ b) (he : ∀ j, M a j = M b j) : det n M = 0 := by
  have e : swapped M a b = M := by
    funext i j; simp only [swapped]; by_cases h1 : i = a
    · subst h1; simp [he]
    · by_cases h2 : i = b
      · subst h2; simp [h1, he]
      · simp [h1, h2]
  have := det_swap M ha hb h
  rw [e] at this
  grind

theorem setRow_self (M : Mat) (r : Nat) : setRow M r (M r) = M := by
  funext i; simp only [setRow]; by_cases h : i = r <;> simp [h]

theorem det_zero_row {n r : Nat} (M : Mat) (hr : r < n) (h : ∀ j, j < n → M r j = 0) : det n M = 0 := by
  have e := det_linear (n := n) M 0 0 (fun _ => 0) (fun _ => 0) hr
  have e2 : det n M = det n (setRow M r fun j => 0 * 0 + 0 * 0) := by
    apply det_congr; intro i _ j hj
    simp only [setRow]; by_cases g : i = r
    · subst g; simp [h j hj]; grind
    · simp [g]
  rw [e2, e]; grind

theorem det_scaled {n r : Nat} (M : Mat) (p : Rat) (hr : r < n) : det n (scaled M r p) = det n M / p := by
  have e : scaled M r p = setRow M r fun j => p⁻¹ * M r j + 0 * M r j := by
    funext i j; simp only [scaled, setRow]; by_cases h : i = r
    · simp [h]; grind
    · simp [h]
  rw [e, det_linear M _ _ _ _ hr, setRow_self]; grind

/-- A multiple of row r is subtracted from each other row. -/
def clearedBy (M : Mat) (r : Nat) (c : Nat → Rat) : Mat := fun i j => if i = r then M r j else M i j - c i * M r j

theorem det_clearedBy {n r : Nat} (M : Mat) (c : Nat → Rat) (hr : r < n) : det n (clearedBy M r c) = det n M := by
  have gen : ∀ d, d ≤ n → det n (fun i j => if i = r then M r j else if i < d then M i j - c i * M r j else M i j) = det n M := by
    intro d
    induction d with
    | zero => intro _; apply det_congr; intro i _ j _; by_cases h : i = r <;> simp [h]
    | succ d ih =>
      intro hd
      rw [← ih (by omega)]
      by_cases e : d = r
      · apply det_congr; intro i _ j _
        by_cases h : i = r
        · simp [h]
        · simp only [h, if_false]
          by_cases h1 : i < d
          · rw [if_pos (by omega), if_pos h1]
          · rw [if_neg (by omega), if_neg h1]
      · obtain ⟨N, hN⟩ : ∃ N : Mat, N = fun i j => if i = r then M r j else if i < d then M i j - c i * M r j else M i j := ⟨_, rfl⟩
        have hNr : N r = M r := by rw [hN]; funext j; simp
        have hNd : N d = M d := by rw [hN]; funext j; simp [e]
        have e1 : (fun i j => if i = r then M r j else if i < d + 1 then M i j - c i * M r j else M i j) = setRow N d fun j => 1 * N d j + (- c d) * N r j := by
          funext i j; simp only [setRow]
          by_cases h : i = d
          · subst h; rw [if_neg e, if_pos (by omega), if_pos rfl, hNr, hNd]; grind
          · rw [if_neg h, hN]
            by_cases h1 : i = r
            · simp [h1]
            · simp only [h1, if_false]
              by_cases h2 : i < d
              · rw [if_pos (by omega), if_pos h2]
              · rw [if_neg (by omega), if_neg h2]
        rw [e1, ← hN, det_linear N _ _ _ _ (by omega), setRow_self, det_equal (setRow N d (N r)) (a := d) (b := r) (by omega) hr e (by intro j; simp [setRow, Ne.symm e])]
        grind
  rw [← gen n (Nat.le_refl _)]
  apply det_congr; intro i hi j _
  simp [clearedBy, hi]

theorem cleared_eq (M : Mat) (r k : Nat) : cleared M r k = clearedBy M r (fun i => M i k) := rfl

def product (n : Nat) (A B : Mat) : Mat := fun i j => sm n fun t => A i t * B t j

/-- A function that elimination changes as it changes the determinant. -/
structure DetLike (m : Nat) (F : Mat → Rat) : Prop where
  swap : ∀ M a b, a < m → b < m → a ≠ b → F (swapped M a b) = - F M
  scale : ∀ M r p, r < m → p ≠ 0 → F (scaled M r p) = F M / p
  clear : ∀ M r c, r < m → F (clearedBy M r c) = F M

theorem detLike_det (n : Nat) : DetLike n (det n) :=
  ⟨fun M _ _ ha hb h => det_swap M ha hb h, fun M _ p hr _ => det_scaled M p hr, fun M _ c hr => det_clearedBy M c hr⟩

theorem product_swapped (n : Nat) (A B : Mat) (a b : Nat) : product n (swapped A a b) B = swapped (product n A B) a b := by
  funext i j; simp only [product, swapped]
  by_cases h1 : i = a
  · simp only [h1, if_true]; rfl
  · by_cases h2 : i = b
    · have h3 : ¬ b = a := fun e => h1 (h2.trans e)
      simp only [h2, h3, if_true, if_false]; rfl
    · simp only [h1, h2, if_false]; rfl
theorem product_scaled (n : Nat) (A B : Mat) (r : Nat) (p : Rat) : product n (scaled A r p) B = scaled (product n A B) r p := by
  funext i j; simp only [product, scaled]; by_cases h : i = r
  · simp only [h, if_true]
    rw [sm_congr (g := fun t => p⁻¹ * (A r t * B t j)) (fun t _ => by grind), sm_mul]; grind
  · simp [h]
theorem product_clearedBy (n : Nat) (A B : Mat) (r : Nat) (c : Nat → Rat) : product n (clearedBy A r c) B = clearedBy (product n A B) r c := by
  funext i j; simp only [product, clearedBy]; by_cases h : i = r
  · simp [h]
  · simp only [h, if_false]
    rw [← sm_mul, ← sm_sub]; exact sm_congr fun t _ => by grind

theorem detLike_product (n : Nat) (B : Mat) : DetLike n (fun A => det n (product n A B)) :=
  ⟨fun M a b ha hb h => by simp only [product_swapped]; exact det_swap _ ha hb h,
   fun M r p hr _ => by simp only [product_scaled]; exact det_scaled _ p hr,
   fun M r c hr => by simp only [product_clearedBy]; exact det_clearedBy _ c hr⟩

theorem detLike_step {m : Nat} {F : Mat → Rat} (h : DetLike m F) (s : St) (k : Nat) : (step m s k).det * F (step m s k).M = s.det * F s.M := by
  cases hf : findRow s.M k (m - s.piv.length) s.piv.length with
  | none => rw [step_none hf]
  | some i =>
    rw [step_some hf]
    obtain ⟨h1, h2, h3, h4⟩ := findRow_some hf
    obtain ⟨r, hr⟩ : ∃ r, r = s.piv.length := ⟨_, rfl⟩
    rw [← hr] at h1 h2 ⊢
    have hA : swapped s.M r i r k ≠ 0 := by simp [swapped]; exact h3
    show _ * F (cleared _ r k) = _
    rw [cleared_eq, h.clear _ _ _ (by omega), h.scale _ _ _ (by omega) hA]
    by_cases e : i = r
    · subst e
      have e2 : swapped s.M i i = s.M := by funext x; simp only [swapped]; by_cases g : x = i <;> simp [g]
      rw [if_pos rfl, e2]
      rw [e2] at hA
      grind
    · rw [if_neg e, h.swap _ _ _ (by omega) (by omega) (Ne.symm e)]
      grind

theorem detLike_steps {m : Nat} {F : Mat → Rat} (h : DetLike m F) (M : Mat) : ∀ n, (steps m M n).det * F (steps m M n).M = F M
  | 0 => by simp only [steps]; grind
  | n + 1 => by rw [← detLike_steps h M n]; exact detLike_step h _ n

def one : Mat := fun i j => if i = j then 1 else 0

theorem det_one : ∀ n, det n one = 1
  | 0 => rfl
  | n + 1 => by
    rw [det_succ, sm_one (k := 0) (by omega) (fun k _ hk => by simp [one, Ne.symm hk])]
    have e : minor one 0 = one := by funext i j; simp [minor, one, skip]
    rw [e, det_one n]; simp [sg, one]

theorem piv_full {l : List Nat} {n : Nat} (hl : l.length = n) (lt : ∀ t, t < l.length → l.getD t 0 < n) (inc : ∀ t u, t < u → u < l.length → l.getD t 0 < l.getD u 0) : ∀ t, t < n → l.getD t 0 = t := by
  have up : ∀ t, t < n → t ≤ l.getD t 0 := by
    intro t
    induction t with
    | zero => intro _; omega
    | succ t ih => intro ht; have := ih (by omega); have := inc t (t + 1) (by omega) (by omega); omega
  have down : ∀ d t, t < n → n - 1 - t = d → l.getD t 0 ≤ t := by
    intro d
    induction d with
    | zero => intro t ht hd; have := lt t (by omega); omega
    | succ d ih => intro t ht hd; have := ih (t + 1) (by omega) (by omega); have := inc t (t + 1) (by omega) (by omega); omega
  intro t ht
  have := up t ht
  have := down _ t ht rfl
  omega

/-- With a pivot in each column a square matrix is reduced to the identity. -/
theorem reduced_one {n : Nat} {M0 : Mat} {s : St} (h : Inv n M0 s n) (hp : s.piv.length = n) : ∀ i, i < n → ∀ j, j < n → s.M i j = one i j := by
  intro i hi j hj
  have e := piv_full hp h.lt h.inc j hj
  have := h.unit j (by omega) i hi
  rw [e] at this
  rw [this]; rfl

theorem reduced_zero {n : Nat} {M0 : Mat} {s : St} (h : Inv n M0 s n) (hp : s.piv.length < n) : ∀ j, j < n → s.M (n - 1) j = 0 :=
  fun j hj => h.below (n - 1) (by omega) (by omega) j hj

/-- The determinant of the steps is the determinant, where each column has a pivot; else that is 0. -/
theorem det_steps {n : Nat} (M : Mat) : det n M = if (steps n M n).piv.length < n then 0 else (steps n M n).det := by
  have h := inv_steps n M n
  have e := detLike_steps (detLike_det n) M n
  by_cases g : (steps n M n).piv.length < n
  · rw [if_pos g, ← e, det_zero_row (r := n - 1) _ (by omega) (reduced_zero h g)]; grind
  · rw [if_neg g]
    have hp : (steps n M n).piv.length = n := by have := h.len; omega
    rw [det_congr (reduced_one h hp), det_one] at e
    rw [← e]; grind

/-- The determinant of a product. -/
theorem det_product (n : Nat) (A B : Mat) : det n (product n A B) = det n A * det n B := by
  have h := inv_steps n A n
  have e := detLike_steps (detLike_product n B) A n
  rw [det_steps A]
  by_cases g : (steps n A n).piv.length < n
  · rw [if_pos g, ← e, det_zero_row (r := n - 1) _ (by omega) (fun j _ => sm_null fun t ht => by rw [reduced_zero h g t ht]; grind)]; grind
  · rw [if_neg g]
    have hp : (steps n A n).piv.length = n := by have := h.len; omega
    rw [← e]
    congr 1
    apply det_congr
    intro i hi j _
    unfold product
    rw [sm_one hi (fun t ht hne => by rw [reduced_one h hp i hi t ht]; simp [one, Ne.symm hne]), reduced_one h hp i hi i hi]; simp [one]

/-- A matrix without a pivot in some column has no determinant but 0; else it has another one. -/
theorem det_pivots {n : Nat} (M : Mat) : det n M = 0 ↔ (steps n M n).piv.length < n := by
  have h := inv_steps n M n
  have e := detLike_steps (detLike_det n) M n
  constructor
  · intro h0
    apply Nat.lt_of_not_le
    intro hge
    have hp : (steps n M n).piv.length = n := by have := h.len; omega
    have hne : ∀ k, (steps n M k).det ≠ 0 := by
      intro k
      induction k with
      | zero => simp [steps]
      | succ k ih =>
        show (step n (steps n M k) k).det ≠ 0
        cases hf : findRow (steps n M k).M k (n - (steps n M k).piv.length) (steps n M k).piv.length with
        | none => rw [step_none hf]; exact ih
        | some i =>
          rw [step_some hf]
          obtain ⟨h1, h2, h3, h4⟩ := findRow_some hf
          have hA : swapped (steps n M k).M (steps n M k).piv.length i (steps n M k).piv.length k ≠ 0 := by simp [swapped]; exact h3
          by_cases e : i = (steps n M k).piv.length
          · simp only [e, if_true]; rw [e] at hA; grind
          · simp only [e, if_false]; grind
    rw [det_steps M, if_neg (by omega)] at h0
    exact hne n h0
  · intro hlt; rw [det_steps M, if_pos hlt]

/-- The numbers of a row with one number more. -/
def wide (n : Nat) (M : Mat) (b : Nat → Rat) : Mat := fun i j => if j = n then b i else M i j

/-- A solution, extended by -1. -/
def minus1 (n : Nat) (x : Nat → Rat) (j : Nat) : Rat := if j = n then -1 else x j

theorem ap_wide (n : Nat) (M : Mat) (b x : Nat → Rat) (i : Nat) : ap (n + 1) (wide n M b) (minus1 n x) i = ap n M x i - b i := by
  unfold ap
  rw [sm_succ, sm_congr (g := fun j => M i j * x j) (fun j hj => by simp [wide, minus1, show j ≠ n by omega])]
  simp [wide, minus1]; grind

theorem ap_minus1 (n : Nat) (N : Mat) (x : Nat → Rat) (i : Nat) : ap (n + 1) N (minus1 n x) i = ap n N x i - N i n := by
  unfold ap
  rw [sm_succ, sm_congr (g := fun j => N i j * x j) (fun j hj => by simp [minus1, show j ≠ n by omega])]
  simp [minus1]; grind

/-- The solution that the reduced rows tell: 0 where there is no pivot. -/
def solv (s : St) (n : Nat) (j : Nat) : Rat := if j ∈ s.piv then s.M (s.piv.idxOf j) n else 0

theorem ap_solv {m n : Nat} {M0 : Mat} {s : St} (h : Inv m M0 s n) : ∀ i, i < m → ap n s.M (solv s n) i = if i < s.piv.length then s.M i n else 0 := by
  intro i hi
  unfold ap
  rw [sm_pivots h.lt h.inc]
  have e1 : sm n (fun j => if j ∈ s.piv then 0 else s.M i j * solv s n j) = 0 := by
    apply sm_null; intro j _
    by_cases hm : j ∈ s.piv
    · rw [if_pos hm]
    · rw [if_neg hm]; simp [solv, hm]
  rw [e1]
  have : ∀ t, t < s.piv.length → s.M i (s.piv.getD t 0) * solv s n (s.piv.getD t 0) = if i = t then s.M t n else 0 := by
    intro t ht
    have hmem : s.piv.getD t 0 ∈ s.piv := mem_iff_getD.2 ⟨t, ht, rfl⟩
    rw [h.unit t ht i hi]
    unfold solv
    rw [if_pos hmem, idxOf_getD ht h.inc]
    by_cases e : i = t
    · subst e; simp
    · simp [e]
  rw [sm_congr this]
  by_cases hil : i < s.piv.length
  · rw [sm_one hil (fun t _ ht => by rw [if_neg (Ne.symm ht)]), if_pos hil]; simp; grind
  · rw [sm_null (fun t ht => by rw [if_neg (by omega)]), if_neg hil]; grind

/-- Equations have the told solution if the rows behind the pivots end in 0, and none else. -/
theorem solve_yes {m n : Nat} {M : Mat} {b : Nat → Rat} (h0 : ∀ i, (steps m (wide n M b) n).piv.length ≤ i → i < m → (steps m (wide n M b) n).M i n = 0) : ∀ i, i < m → ap n M (solv (steps m (wide n M b) n) n) i = b i := by
  have h := inv_steps m (wide n M b) n
  have hk : ∀ i, i < m → ap (n + 1) (wide n M b) (minus1 n (solv (steps m (wide n M b) n) n)) i = 0 := by
    apply (h.alike.kernel _).2
    intro i hi
    rw [ap_minus1, ap_solv h i hi]
    by_cases hl : i < (steps m (wide n M b) n).piv.length
    · rw [if_pos hl]; grind
    · rw [if_neg hl, h0 i (by omega) hi]; grind
  intro i hi
  have := hk i hi
  rw [ap_wide] at this
  grind

theorem solve_no {m n : Nat} {M : Mat} {b x : Nat → Rat} (hx : ∀ i, i < m → ap n M x i = b i) : ∀ i, (steps m (wide n M b) n).piv.length ≤ i → i < m → (steps m (wide n M b) n).M i n = 0 := by
  have h := inv_steps m (wide n M b) n
  have hk := (h.alike.kernel (c := n + 1) (minus1 n x)).1 (fun i hi => by rw [ap_wide, hx i hi]; grind)
  intro i h1 h2
  have := hk i h2
  rw [ap_minus1] at this
  have e : ap n (steps m (wide n M b) n).M x i = 0 := sm_null fun j hj => by rw [h.below i h1 h2 j hj]; grind
  rw [e] at this
  grind

/-- The matrix beside the identity. -/
def beside (n : Nat) (M : Mat) : Mat := fun i j => if j < n then M i j else if j = n + i then 1 else 0

/-- What stands beside the reduced identity is the inverse. -/
theorem inverse_right {n : Nat} {M : Mat} (hp : (steps n (beside n M) n).piv.length = n) : ∀ i, i < n → ∀ k, k < n → (sm n fun t => M i t * (steps n (beside n M) n).M t (n + k)) = one i k := by
  have h := inv_steps n (beside n M) n
  intro i hi k hk
  obtain ⟨N, hN⟩ : ∃ N, N = (steps n (beside n M) n).M := ⟨_, rfl⟩
  have hone := reduced_one h hp
  have hal := h.alike
  rw [← hN] at hone hal ⊢
  obtain ⟨y, hy⟩ : ∃ y : Nat → Rat, y = fun j => if j < n then N j (n + k) else if j = n + k then -1 else 0 := ⟨_, rfl⟩
  have y1 : ∀ j, j < n → y j = N j (n + k) := by intro j hj; rw [hy]; simp [hj]
  have y2 : y (n + k) = -1 := by rw [hy]; simp; omega
  have y3 : ∀ j, j ≠ k → y (n + j) = 0 := by intro j hj; rw [hy]; simp [hj]; omega
  have key := (hal.kernel (c := n + n) y).2 (by
    intro x hx
    unfold ap
    rw [sm_split, sm_congr (n := n) (g := fun j => one x j * N j (n + k)) (fun j hj => by rw [hone x hx j hj, y1 j hj]),
      sm_one hx (fun j _ hne => by simp [one, Ne.symm hne]), sm_one hk (fun j _ hne => by rw [y3 j hne]; grind), y2]
    simp [one]; grind) i hi
  unfold ap at key
  rw [sm_split, sm_congr (n := n) (g := fun t => M i t * N t (n + k)) (fun j hj => by rw [y1 j hj]; simp [beside, hj]),
    sm_one (n := n) (k := k) (f := fun j => beside n M i (n + j) * y (n + j)) hk (fun j _ hne => by rw [y3 j hne]; grind), y2] at key
  have e : beside n M i (n + k) = one i k := by
    unfold beside one; rw [if_neg (by omega)]
    by_cases e : i = k
    · subst e; simp
    · rw [if_neg (by omega), if_neg e]
  rw [e] at key
  grind

/-- The pivots do not see what lies behind the columns. -/
theorem steps_agree {m n : Nat} {A B : Mat} (h : ∀ i, i < m → ∀ j, j < n → A i j = B i j) : ∀ k, k ≤ n → (steps m A k).piv = (steps m B k).piv ∧ (steps m A k).det = (steps m B k).det ∧ ∀ i, i < m → ∀ j, j < n → (steps m A k).M i j = (steps m B k).M i j := by
  intro k
  induction k with
  | zero => intro _; exact ⟨rfl, rfl, h⟩
  | succ k ih =>
    intro hk
    obtain ⟨h1, h2, h3⟩ := ih (by omega)
    show (step m (steps m A k) k).piv = (step m (steps m B k) k).piv ∧ (step m (steps m A k) k).det = (step m (steps m B k) k).det ∧ ∀ i, i < m → ∀ j, j < n → (step m (steps m A k) k).M i j = (step m (steps m B k) k).M i j
    have hfr : ∀ d i, i + d ≤ m → findRow (steps m A k).M k d i = findRow (steps m B k).M k d i := by
      intro d
      induction d with
      | zero => intro i _; rfl
      | succ d ihd => intro i hid; unfold findRow; rw [h3 i (by omega) k (by omega), ihd (i + 1) (by omega)]
    have hlen := (inv_steps m A k).len
    have hf := hfr (m - (steps m A k).piv.length) (steps m A k).piv.length (by omega)
    cases hB : findRow (steps m B k).M k (m - (steps m B k).piv.length) (steps m B k).piv.length with
    | none =>
      rw [step_none (by rw [hf, h1]; exact hB), step_none hB]; exact ⟨h1, h2, h3⟩
    | some x =>
      have hA : findRow (steps m A k).M k (m - (steps m A k).piv.length) (steps m A k).piv.length = some x := by rw [hf, h1]; exact hB
      obtain ⟨g1, g2, _, _⟩ := findRow_some hA
      rw [step_some hA, step_some hB, h1, h2]
      rw [h1] at g1 g2
      obtain ⟨r, hr⟩ : ∃ r, r = (steps m B k).piv.length := ⟨_, rfl⟩
      rw [← hr] at g1 g2 ⊢
      have hs : ∀ i, i < m → ∀ j, j < n → swapped (steps m A k).M r x i j = swapped (steps m B k).M r x i j := by
        intro i hi j hj; unfold swapped
        split
        · exact h3 x (by omega) j hj
        · split
          · exact h3 r (by omega) j hj
          · exact h3 i hi j hj
      refine ⟨rfl, ?_, ?_⟩
      · show _ * _ = _ * _
        rw [hs r (by omega) k (by omega)]
      · intro i hi j hj
        show cleared _ r k i j = cleared _ r k i j
        unfold cleared scaled
        rw [hs r (by omega) k (by omega), hs r (by omega) j hj, hs i hi j hj, hs i hi k (by omega)]

/-- Reducing the rows of a reduced matrix changes nothing. -/
theorem steps_reduced {m n : Nat} {M0 : Mat} {s : St} (h : Inv m M0 s n) : ∀ k, k ≤ n → (steps s.piv.length s.M k).piv = s.piv.filter (fun p => p < k) ∧ ∀ i, i < s.piv.length → ∀ j, (steps s.piv.length s.M k).M i j = s.M i j := by
  have hlen := h.len
  -- the pivots below k are the first ones
  have hpre : ∀ k, ∃ t, t ≤ s.piv.length ∧ s.piv.filter (fun p => p < k) = s.piv.take t ∧ (∀ u, u < t → s.piv.getD u 0 < k) ∧ ∀ u, t ≤ u → u < s.piv.length → k ≤ s.piv.getD u 0 := by
    intro k
    have gen : ∀ (l : List Nat), (∀ t u, t < u → u < l.length → l.getD t 0 < l.getD u 0) → ∃ t, t ≤ l.length ∧ l.filter (fun p => p < k) = l.take t ∧ (∀ u, u < t → l.getD u 0 < k) ∧ ∀ u, t ≤ u → u < l.length → k ≤ l.getD u 0 := by
      intro l
      induction l with
      | nil => intro _; exact ⟨0, by simp, by simp, by simp, by simp⟩
      | cons a l ih =>
        intro inc
        by_cases ha : a < k
        · obtain ⟨t, h1, h2, h3, h4⟩ := ih (fun t u htu hu => by have := inc (t + 1) (u + 1) (by omega) (by simpa using hu); simpa using this)
          refine ⟨t + 1, by simp; omega, by simp [ha, h2], fun u hu => ?_, fun u hu hul => ?_⟩
          · cases u with
            | zero => simpa using ha
            | succ u => have := h3 u (by omega); simpa using this
          · cases u with
            | zero => omega
            | succ u => have := h4 u (by omega) (by simpa using hul); simpa using this
        · have hall : ∀ u, u < (a :: l).length → k ≤ (a :: l).getD u 0 := by
            intro u hu
            cases u with
            | zero => simp; omega
            | succ u => have := inc 0 (u + 1) (by omega) hu; simp at this ⊢; omega
          refine ⟨0, by omega, ?_, by intro u hu; omega, fun u _ hul => hall u hul⟩
          simp only [List.take_zero, List.filter_eq_nil_iff]
          intro p hp
          obtain ⟨u, hu, e⟩ := mem_iff_getD.1 hp
          have := hall u hu
          simp; omega
    exact gen s.piv h.inc
  intro k
  induction k with
  | zero =>
    intro _
    refine ⟨?_, fun i _ j => rfl⟩
    show ([] : List Nat) = _
    symm; rw [List.filter_eq_nil_iff]; intro p _; simp
  | succ k ih =>
    intro hk
    obtain ⟨h1, h2⟩ := ih (by omega)
    obtain ⟨t, t1, t2, t3, t4⟩ := hpre k
    obtain ⟨r, hr⟩ : ∃ r, r = s.piv.length := ⟨_, rfl⟩
    have hl : (steps r s.M k).piv.length = t := by rw [hr, h1, t2, List.length_take]; omega
    show (step s.piv.length (steps s.piv.length s.M k) k).piv = _ ∧ ∀ i, i < s.piv.length → ∀ j, (step s.piv.length (steps s.piv.length s.M k) k).M i j = s.M i j
    rw [← hr] at h1 h2 t1 t4 ⊢
    cases hf : findRow (steps r s.M k).M k (r - (steps r s.M k).piv.length) (steps r s.M k).piv.length with
    | none =>
      rw [step_none hf]
      have h0 := findRow_none hf
      refine ⟨?_, h2⟩
      rw [h1]
      apply List.filter_congr
      intro p hp
      obtain ⟨u, hu, e⟩ := mem_iff_getD.1 hp
      have hne : p ≠ k := by
        intro hpk
        have hut : t ≤ u := Nat.le_of_not_lt fun g => by have := t3 u g; omega
        have hz := h0 u (by omega) (by omega)
        rw [h2 u (by omega) k, show k = s.piv.getD u 0 by omega, h.unit u hu u (by omega)] at hz
        simp at hz
      simp; omega
    | some x =>
      obtain ⟨g1, g2, g3, g4⟩ := findRow_some hf
      rw [hl] at g1 g2
      have hxr : x < r := by omega
      rw [h2 x hxr k] at g3
      -- row x has a pivot at k: else its number there were 0
      have hpx : s.piv.getD x 0 = k := by
        have hle := t4 x (by omega) hxr
        by_cases e : s.piv.getD x 0 = k
        · exact e
        · exact absurd (h.left x (by omega) k (by omega)) g3
      have hxt : x = t := by
        by_cases e : x = t
        · exact e
        · have := h.inc t x (by omega) (by omega)
          have := t4 t (by omega) (by omega)
          omega
      subst hxt
      rw [step_some hf, hl]
      have hsw : swapped (steps r s.M k).M x x = (steps r s.M k).M := by
        funext i; simp only [swapped]; by_cases g : i = x <;> simp [g]
      rw [hsw]
      have hu : ∀ i, i < r → s.M i k = if i = x then 1 else 0 := by
        intro i hi; have := h.unit x (by omega) i (by omega); rw [hpx] at this; exact this
      constructor
      · show (steps r s.M k).piv ++ [k] = _
        rw [h1, t2]
        obtain ⟨t', u1, u2, u3, u4⟩ := hpre (k + 1)
        rw [u2]
        have ht' : t' = x + 1 := by
          have a1 : ¬ t' ≤ x := fun g => by have := u4 x g (by omega); omega
          have a2 : ¬ x + 1 < t' := fun g => by have := u3 (x + 1) g; have := h.inc x (x + 1) (by omega) (by omega); omega
          omega
        rw [ht', List.take_add_one]
        congr 1
        have hx2 : x < s.piv.length := by omega
        rw [List.getD_eq_getElem?_getD, List.getElem?_eq_getElem hx2] at hpx
        simp at hpx
        rw [List.getElem?_eq_getElem hx2, hpx]; rfl
      · intro i hi j
        show cleared _ x k i j = _
        unfold cleared scaled
        have e1 : (steps r s.M k).M x k = 1 := by rw [h2 x hxr k, hu x hxr]; simp
        rw [e1]
        by_cases e : i = x
        · subst e; simp only [if_true]; rw [h2 i hi j]; grind
        · simp only [e, if_false, if_true]
          rw [h2 i hi j, h2 i hi k, hu i hi, if_neg e]; grind

end Go.Proofs.YtdgeodnfacnnmaaGreatDoor.DLin

/- Package matrix, sixth part: the table that is being reduced; sizes of its numbers. -/
set_option linter.unusedVariables false
set_option linter.unusedSimpArgs false
namespace Go.Proofs.YtdgeodnfacnnmaaGreatDoor
open Go.RowKit
open DDig DLin

/-- A row lies off some blocks. -/
def Off (G : Nat → Prop) (c : Nat) (v : Value) : Prop := ∀ ad n d, v = .slice (some ad) n d → 0 < c → ¬ G ad.block
theorem Fresh.off {b c : Nat} {G : Nat → Prop} {v : Value} (h : Fresh b v) (hg : ∀ x, G x → x < b) : Off G c v := fun ad n d e _ hG => by
  have h1 := h ad n d e
  have h2 := hg _ hG
  omega
theorem SlQ.off {w : World} {v : Value} {c : Nat} {f : Nat → Rat} (h : SlQ w v c f) {G : Nat → Prop} (hg : ∀ x, G x → w.heap.size ≤ x) : Off G c v := fun ad n d e h0 hG => by
  obtain ⟨A, k, rfl, h1, h2, h3⟩ := h
  obtain ⟨b, o, rfl, gg⟩ := h3 h0
  injection e with e; injection e with e
  subst e
  obtain ⟨a, c0, -⟩ := gg 0 h0
  have h4 : b < w.heap.size := World.block_lt_of_cell? _ _ c0
  have h5 : w.heap.size ≤ b := hg _ hG
  omega
/-- The blocks beside the table. -/
def Gs (w : World) (q : Nat) : Nat → Prop := fun b => b = q ∨ b = w.heap.size
theorem Gs.lt {w : World} {q n : Nat} (h : q < n) (hq : w.heap.size < q) : ∀ x, Gs w q x → x < n := fun x hx => by
  rcases hx with rfl | rfl <;> omega
theorem Gs.le {w : World} {q : Nat} (hq : w.heap.size < q) : ∀ x, Gs w q x → w.heap.size ≤ x := fun x hx => by
  rcases hx with rfl | rfl <;> omega
/-- A store into a block that a row lies off, and that holds no whole numbers. -/
theorem SlQ.put {w : World} {v : Value} {c : Nat} {f : Nat → Rat} (h : SlQ w v c f) {g : Nat} {G : Nat → Prop} (ho : Off G c v) (hG : G g) {e : TypeId} {cs : List Value} (hb : Blk w g e cs) (hn : NoInt cs) (j : Nat) (x : Value) : SlQ (w.setCell ⟨g, j, none⟩ x) v c f := by
  obtain ⟨A, k, rfl, h1, h2, h3⟩ := h
  refine ⟨A, k, rfl, h1, h2, fun h0 => ?_⟩
  obtain ⟨b, o, rfl, gg⟩ := h3 h0
  have hbg : b ≠ g := fun e => ho ⟨b, o, none⟩ c k rfl h0 (by rw [← e] at hG; exact hG)
  refine ⟨b, o, rfl, fun i hi => ?_⟩
  obtain ⟨a, c0, c1, c2, c3, hr⟩ := gg i hi
  have key : ∀ (p : Nat) (u : Value), w.cell? ⟨b, p, none⟩ = some u → (w.setCell ⟨g, j, none⟩ x).cell? ⟨b, p, none⟩ = some u := fun p u hp => by
    rw [World.cell?_setCell_other _ _ _ _ (fun e => hbg (by injection e with e; exact e.symm))]; exact hp
  exact ⟨a, key _ _ c0, key _ _ c1, key _ _ c2, key _ _ c3, hr.put hb hn j x⟩

/-- The rows of a table in a block of the call's own, off another block. -/
def Tbl (w : World) (g : Nat) (q : Nat → Prop) (m c : Nat) (M : Nat → Nat → Rat) : Prop :=
  ∃ us sp : List Value, Blk w g 64 (us ++ sp) ∧ (∀ u ∈ us ++ sp, IsSl u) ∧ us.length = m ∧ ∀ i u, us[i]? = some u → SlQ w u c (M i) ∧ Off q c u
theorem Tbl.x {w w' : World} {g m c : Nat} {q : Nat → Prop} {M : Nat → Nat → Rat} (h : Tbl w g q m c M) (hx : X w w') : Tbl w' g q m c M := by
  obtain ⟨us, sp, h1, h2, h3, h4⟩ := h
  exact ⟨us, sp, h1.x hx, h2, h3, fun i u hu => ⟨(h4 i u hu).1.x hx, (h4 i u hu).2⟩⟩
theorem Tbl.row {w : World} {g m c : Nat} {q : Nat → Prop} {M : Nat → Nat → Rat} (h : Tbl w g q m c M) {i : Nat} (hi : i < m) :
    ∃ B d, w.cell? ⟨g, i, none⟩ = some (.slice B c d) ∧ SlQ w (.slice B c d) c (M i) ∧ Off q c (.slice B c d) ∧ w.frozen? ⟨g, i, none⟩ = false := by
  obtain ⟨us, sp, h1, h2, h3, h4⟩ := h
  have hu : us[i]? = some us[i] := List.getElem?_eq_getElem (by omega)
  obtain ⟨hs, ho⟩ := h4 i _ hu
  obtain ⟨B, d, e, -⟩ := id hs
  have hc := h1.cell (app_get (sp := sp) hu)
  rw [e] at hs ho hc
  exact ⟨B, d, hc, hs, ho, h1.frozen i⟩
theorem Tbl.elem {w : World} {g m c : Nat} {q : Nat → Prop} {M : Nat → Nat → Rat} (h : Tbl w g q m c M) {i k : Nat} (hi : i < m) (hk : k < c) :
    ∃ (d b o : Nat) (a : QV), w.cell? ⟨g, i, none⟩ = some (.slice (some ⟨b, o, none⟩) c d) ∧ w.cell? ⟨b, o + k * 4, none⟩ = some (.bool a.s) ∧ w.cell? ⟨b, o + k * 4 + 1, none⟩ = some (.slice a.A a.n a.c) ∧ w.cell? ⟨b, o + k * 4 + 2, none⟩ = some (.bool a.t) ∧ w.cell? ⟨b, o + k * 4 + 3, none⟩ = some (.slice a.B a.m a.d) ∧ RatR w a (M i k) ∧ SlQ w (.slice (some ⟨b, o, none⟩) c d) c (M i) ∧ Off q c (.slice (some ⟨b, o, none⟩) c d) ∧ w.frozen? ⟨g, i, none⟩ = false := by
  obtain ⟨B, d, h1, h2, h3, h4⟩ := h.row hi
  obtain ⟨A, d', e, g1, g2, g3⟩ := id h2
  injection e with e1 e2 e3
  subst e1 e3
  obtain ⟨b, o, rfl, gg⟩ := g3 (by omega)
  obtain ⟨a, c0, c1, c2, c3, hr⟩ := gg k hk
  exact ⟨d, b, o, a, h1, c0, c1, c2, c3, hr, h2, h3, h4⟩
theorem Tbl.put {w : World} {g m c : Nat} {q : Nat → Prop} {M : Nat → Nat → Rat} (h : Tbl w g q m c M) {i : Nat} (hi : i < m) {u : Value} {f : Nat → Rat} (hu : SlQ w u c f) (ho : Off q c u) : Tbl (w.setCell ⟨g, i, none⟩ u) g q m c (fun j => if j = i then f else M j) := by
  obtain ⟨us, sp, h1, h2, h3, h4⟩ := h
  have hus : IsSl u := by obtain ⟨B, d, e, -⟩ := hu; exact ⟨B, c, d, e⟩
  have hk : ∀ p : Addr, p.block ≠ g → (w.setCell ⟨g, i, none⟩ u).cell? p = w.cell? p := fun p hp => World.cell?_setCell_other _ _ _ _ (fun e => hp (by rw [← e]))
  have hb := h1.set i u
  rw [List.set_append_left _ _ (by omega)] at hb
  refine ⟨us.set i u, sp, hb, ?_, by simpa using h3, ?_⟩
  · intro x hx
    rw [List.mem_append] at hx
    rcases hx with hx | hx
    · rcases List.mem_or_eq_of_mem_set hx with hx | rfl
      · exact h2 x (List.mem_append_left _ hx)
      · exact hus
    · exact h2 x (List.mem_append_right _ hx)
  · intro j x hx
    by_cases e : j = i
    · subst e
      rw [List.getElem?_set_self (by omega)] at hx
      injection hx with hx
      subst hx
      refine ⟨?_, ho⟩
      show SlQ _ u c (if j = j then f else M j)
      rw [if_pos rfl]
      exact hu.ks h1 h2 hk
    · rw [List.getElem?_set_ne (fun h => e h.symm)] at hx
      refine ⟨?_, (h4 j x hx).2⟩
      show SlQ _ x c (if j = i then f else M j)
      rw [if_neg e]
      exact (h4 j x hx).1.ks h1 h2 hk
/-- A store into the block that the rows lie off. -/
theorem Tbl.aside {w : World} {g m c : Nat} {q : Nat → Prop} {M : Nat → Nat → Rat} (h : Tbl w g q m c M) {p : Nat} (hp : q p) {cs : List Value} (hb : Blk w p 51 cs) (hn : NoInt cs) (j : Nat) (x : Value) : Tbl (w.setCell ⟨p, j, none⟩ x) g q m c M := by
  obtain ⟨us, sp, h1, h2, h3, h4⟩ := h
  have hq : p ≠ g := by
    intro e
    subst e
    unfold Blk at h1 hb
    rw [h1] at hb
    injection hb with hb
    injection hb with _ hb
    exact absurd hb (by decide)
  exact ⟨us, sp, h1.other (p := ⟨p, j, none⟩) hq x, h2, h3, fun i u hu => ⟨(h4 i u hu).1.put (h4 i u hu).2 hp hb hn j x, (h4 i u hu).2⟩⟩
/-- An append to a row of whole numbers. -/
theorem Tbl.ki {w w' : World} {g m c : Nat} {q : Nat → Prop} {M : Nat → Nat → Rat} (h : Tbl w g q m c M) (hk : Kp IsI64 w w') (hb : w'.heap[g]? = w.heap[g]?) : Tbl w' g q m c M := by
  obtain ⟨us, sp, h1, h2, h3, h4⟩ := h
  exact ⟨us, sp, by unfold Blk at *; rw [hb]; exact h1, h2, h3, fun i u hu => ⟨(h4 i u hu).1.ki hk, (h4 i u hu).2⟩⟩
theorem Tbl.congr {w : World} {g m c : Nat} {q : Nat → Prop} {M N : Nat → Nat → Rat} (h : Tbl w g q m c M) (e : ∀ i, i < m → ∀ j, j < c → M i j = N i j) : Tbl w g q m c N := by
  obtain ⟨us, sp, h1, h2, h3, h4⟩ := h
  refine ⟨us, sp, h1, h2, h3, fun i u hu => ⟨(h4 i u hu).1.congr (e i ?_), (h4 i u hu).2⟩⟩
  have := (List.getElem?_eq_some_iff.1 hu).1
  omega
theorem OwnC.type {C : Value → Prop} {w : World} {base : Nat} {e e' : TypeId} {size n g : Nat} {v : Value} {xs cs : List Value} (h : OwnC C w base e size v n xs) (hb : Blk w g e' cs) (he : e ≠ e') : v.ownBlock ≠ some g := by
  intro hg
  obtain ⟨cs', h1, -⟩ := h.2 g hg
  unfold Blk at h1 hb
  rw [h1] at hb
  injection hb with hb
  injection hb with _ hb
  exact he hb
theorem OwnC.put {C : Value → Prop} {w : World} {base : Nat} {e : TypeId} {size n g : Nat} {v : Value} {xs : List Value} (h : OwnC C w base e size v n xs) (hg : v.ownBlock ≠ some g) (j : Nat) (x : Value) : OwnC C (w.setCell ⟨g, j, none⟩ x) base e size v n xs := by
  have hh : ∀ b, v.ownBlock = some b → (w.setCell ⟨g, j, none⟩ x).heap[b]? = w.heap[b]? := fun b hb => by
    refine Below.heap_setCell _ _ _ _ ?_
    intro e
    exact hg (by rw [hb, e])
  refine ⟨⟨h.1.1, ?_⟩, fun b hb => ?_⟩
  · rcases h.1.2 with h1 | ⟨b, cap, cur, hv, hbb, hbl, h1, h2, h3, h4⟩
    · exact Or.inl h1
    · refine Or.inr ⟨b, cap, cur, hv, hbb, ?_, h1, h2, h3, h4⟩
      rw [hh b (by rw [hv]; rfl)]
      exact hbl
  · obtain ⟨cs, h1, h2⟩ := h.2 b hb
    exact ⟨cs, by unfold Blk at *; rw [hh b hb]; exact h1, h2⟩
theorem Tbl.of {w : World} {g m c cap base : Nat} {q : Nat → Prop} {us : List Value} {M : Nat → Nat → Rat} (h : OwnC IsSl w base 64 1 (.slice (some ⟨g, 0, none⟩) m cap) m us) (hu : ∀ i u, us[i]? = some u → SlQ w u c (M i) ∧ Off q c u) (hl : us.length = m) : Tbl w g q m c M := by
  obtain ⟨cs, h1, h2⟩ := h.2 g rfl
  rcases own_parts h.1 with ⟨e, _⟩ | ⟨g', cap', sp, e, hb, hl', hc, hB, -⟩
  · cases e
  · injection e with e1 e2 e3
    injection e1 with e1
    injection e1 with e1
    subst e1
    have : us ++ sp = cs := by
      unfold Blk at hB h1
      rw [hB] at h1
      injection h1 with h1
      injection h1 with h1
      simpa using h1
    exact ⟨us, sp, hB, fun u hu => h2 u (by rw [← this]; exact hu), hl, hu⟩
theorem Tbl.read {w : World} {g m c cap : Nat} {q : Nat → Prop} {M : Nat → Nat → Rat} (h : Tbl w g q m c M) (hc : m ≤ cap) : MatQ w (.slice (some ⟨g, 0, none⟩) m cap) m c M := by
  refine ⟨_, _, rfl, hc, by simp, fun h0 => ⟨g, 0, rfl, fun i hi => ?_⟩⟩
  obtain ⟨B, d, h1, h2, -⟩ := h.row hi
  rw [Nat.zero_add]
  exact ⟨_, h1, h2⟩

theorem Tbl.blk {w : World} {g m c : Nat} {q : Nat → Prop} {M : Nat → Nat → Rat} (h : Tbl w g q m c M) : ∃ cs : List Value, Blk w g 64 cs ∧ ∀ u ∈ cs, IsSl u := by
  obtain ⟨us, sp, h1, h2, -⟩ := h
  exact ⟨_, h1, h2⟩
theorem Tbl.swap {w : World} {g m c : Nat} {q : Nat → Prop} {M : Mat} (h : Tbl w g q m c M) {i r : Nat} (hi : i < m) (hr : r < m) {u v : Value} (hu : SlQ w u c (M i)) (hv : SlQ w v c (M r)) (ou : Off q c u) (ov : Off q c v) :
    Tbl ((w.setCell ⟨g, i, none⟩ v).setCell ⟨g, r, none⟩ u) g q m c (swapped M r i) := by
  obtain ⟨cs, hb, hs⟩ := h.blk
  have h1 := h.put hi hv ov
  have hu2 : SlQ (w.setCell ⟨g, i, none⟩ v) u c (M i) := hu.ks hb hs (fun p hp => World.cell?_setCell_other _ _ _ _ (fun e => hp (by rw [← e])))
  have h2 := h1.put hr hu2 ou
  refine h2.congr (fun t ht j hj => ?_)
  unfold swapped
  by_cases e : t = r
  · subst e; simp
  · by_cases e2 : t = i
    · subst e2; simp [e]
    · simp [e, e2]

/-- A list of numbers as cells. -/
def pivs (l : List Nat) : List Value := nums .i64 (l.map fun x : Nat => (x : Int))
abbrev zq : List Value := [.bool false, .slice none 0 0, .bool false, .slice none 0 0]
/-- What lies beside the table: the determinant of the steps, the place of the result, the pivots. -/
structure Oth (w wr : World) (q : Nat) (d : QV) (x : Rat) (P : Value) (l : List Nat) : Prop where
  b9 : Blk wr q 51 (qvc d)
  rd : RatR wr d x
  b6 : Blk wr w.heap.size 51 zq
  pv : OwnC IsI64 wr w.heap.size 3 1 P l.length (pivs l)
  x : X w wr
theorem Oth.go {w wr wr' : World} {q : Nat} {d : QV} {x : Rat} {P : Value} {l : List Nat} (h : Oth w wr q d x P l) (hx : X wr wr') : Oth w wr' q d x P l :=
  ⟨h.b9.x hx, h.rd.x hx, h.b6.x hx, h.pv.x hx, h.x.trans hx⟩
theorem blk_ne {w : World} {g g' : Nat} {e e' : TypeId} {cs cs' : List Value} (h : Blk w g e cs) (h' : Blk w g' e' cs') (he : e ≠ e') : g ≠ g' := by
  intro e
  subst e
  unfold Blk at h h'
  rw [h] at h'
  injection h' with h'
  injection h' with _ h'
  exact he h'
theorem sl_noint {cs : List Value} (h : ∀ u ∈ cs, IsSl u) : NoInt cs := fun v hv k x e => by
  obtain ⟨A, n, c, e'⟩ := h v hv
  rw [e'] at e; cases e
theorem Oth.put {w wr : World} {q g m c : Nat} {G : Nat → Prop} {d : QV} {x : Rat} {P : Value} {l : List Nat} {M : Nat → Nat → Rat} (h : Oth w wr q d x P l) (hT : Tbl wr g G m c M) (hg : w.heap.size ≤ g) (j : Nat) (u : Value) : Oth w (wr.setCell ⟨g, j, none⟩ u) q d x P l := by
  obtain ⟨cs, hb, hs⟩ := hT.blk
  exact ⟨h.b9.other (p := ⟨g, j, none⟩) (blk_ne hb h.b9 (by decide)) u, h.rd.put hb (sl_noint hs) j u, h.b6.other (p := ⟨g, j, none⟩) (blk_ne hb h.b6 (by decide)) u, h.pv.put (h.pv.type hb (by decide)) j u, h.x.set (p := ⟨g, j, none⟩) hg u⟩
theorem Oth.det {w wr : World} {q : Nat} {d r : QV} {x y : Rat} {P : Value} {l : List Nat} (h : Oth w wr q d x P l) (hq : w.heap.size < q) (hr : RatR wr r y) : Oth w (put4 wr q r) q r y P l :=
  ⟨h.b9.put4 r, hr.put4 h.b9 r, h.b6.q4o (by omega) r, (((h.pv.put (h.pv.type h.b9 (by decide)) _ _).put (h.pv.type h.b9 (by decide)) _ _).put (h.pv.type h.b9 (by decide)) _ _).put (h.pv.type h.b9 (by decide)) _ _, h.x.put4 (by omega) r⟩
theorem Tbl.det {w : World} {g m c : Nat} {q : Nat → Prop} {M : Nat → Nat → Rat} (h : Tbl w g q m c M) {p : Nat} (hp : q p) {d : QV} (hb : Blk w p 51 (qvc d)) (r : QV) : Tbl (put4 w p r) g q m c M := by
  have n0 := noint_qvc d
  have b1 := hb.set 0 (.bool r.s)
  have n1 := n0.set 0 (v := .bool r.s) (by simp)
  have b2 := b1.set 1 (.slice r.A r.n r.c)
  have n2 := n1.set 1 (v := .slice r.A r.n r.c) (by simp)
  have b3 := b2.set 2 (.bool r.t)
  have n3 := n2.set 2 (v := .bool r.t) (by simp)
  exact (((h.aside hp hb n0 0 _).aside hp b1 n1 1 _).aside hp b2 n2 2 _).aside hp b3 n3 3 _

theorem Oth.app {w wr w' : World} {q : Nat} {d : QV} {x : Rat} {P P' : Value} {l : List Nat} {k : Nat} (h : Oth w wr q d x P l) (ho : OwnC IsI64 w' w.heap.size 3 1 P' (l.length + 1) (pivs l ++ [.int .i64 k])) (hX : X w w') (hk : ∀ b, b < wr.heap.size → P.ownBlock ≠ some b → w'.heap[b]? = wr.heap[b]?) : Oth w w' q d x P' (l ++ [k]) := by
  refine ⟨?_, h.rd.kp (h.pv.kp hk) ni64_u32, ?_, ?_, hX⟩
  · unfold Blk; rw [hk q h.b9.lt (h.pv.type h.b9 (by decide))]; exact h.b9
  · unfold Blk; rw [hk w.heap.size h.b6.lt (h.pv.type h.b6 (by decide))]; exact h.b6
  · have e : pivs (l ++ [k]) = pivs l ++ [.int .i64 k] := by simp [pivs, nums]
    rw [e, List.length_append]
    exact ho
theorem Tbl.app {w wr w' : World} {g q m c : Nat} {G : Nat → Prop} {d : QV} {x : Rat} {P : Value} {l : List Nat} {M : Nat → Nat → Rat} (hT : Tbl wr g G m c M) (h : Oth w wr q d x P l) (hk : ∀ b, b < wr.heap.size → P.ownBlock ≠ some b → w'.heap[b]? = wr.heap[b]?) : Tbl w' g G m c M := by
  obtain ⟨cs, hb, hs⟩ := hT.blk
  exact hT.ki (h.pv.kp hk) (hk g hb.lt (h.pv.type hb (by decide)))

theorem findRow_none_of {M : Mat} {k : Nat} : ∀ {d i : Nat}, (∀ t, i ≤ t → t < i + d → M t k = 0) → findRow M k d i = none
  | 0, _, _ => rfl
  | d + 1, i, h => by
    unfold findRow
    rw [if_pos (h i (Nat.le_refl _) (by omega))]
    exact findRow_none_of (fun t h1 h2 => h t (by omega) (by omega))
theorem findRow_some_of {M : Mat} {k j : Nat} (hj : M j k ≠ 0) : ∀ {d i : Nat}, i ≤ j → j < i + d → (∀ t, i ≤ t → t < j → M t k = 0) → findRow M k d i = some j
  | 0, i, h1, h2, _ => by omega
  | d + 1, i, h1, h2, h => by
    unfold findRow
    by_cases e : i = j
    · subst e; rw [if_neg hj]
    · rw [if_pos (h i (Nat.le_refl _) (by omega))]
      exact findRow_some_of hj (by omega) (by omega) (fun t h3 h4 => h t (by omega) h4)
theorem swapped_self (M : Mat) (a : Nat) : swapped M a a = M := by
  funext i
  unfold swapped
  split
  · rename_i h; rw [h]
  · rfl

/-- Sizes. -/
def TSz (M : Nat → Nat → Rat) (m c k : Nat) : Prop := ∀ i, i < m → ∀ j, j < c → RSz (M i j) k
theorem RSz.one {k : Nat} (hk : 0 < k) : RSz 1 k := by
  have h := pw_mono B32_one (show 1 ≤ k from hk)
  have e : pw B32 1 = 4294967296 := by decide
  constructor
  · show ((1 : Int).natAbs : Int) < _; simp; omega
  · show ((1 : Nat) : Int) < _; simp; omega
theorem RSz.zero {k : Nat} (hk : 0 < k) : RSz 0 k := by
  have h := pw_mono B32_one (show 1 ≤ k from hk)
  have e : pw B32 1 = 4294967296 := by decide
  constructor
  · show ((0 : Int).natAbs : Int) < _; simp; omega
  · show ((1 : Nat) : Int) < _; simp; omega
theorem tsz_swapped {M : Mat} {m c k a b : Nat} (h : TSz M m c k) (ha : a < m) (hb : b < m) : TSz (swapped M a b) m c k := fun i hi j hj => by
  unfold swapped
  split
  · exact h b hb j hj
  · split
    · exact h a ha j hj
    · exact h i hi j hj
theorem tsz_scaled {M : Mat} {m c k r q : Nat} (h : TSz M m c k) (hr : r < m) (hq : q < c) (h0 : M r q ≠ 0) : TSz (scaled M r (M r q)) m c (2 * k) := fun i hi j hj => by
  unfold scaled
  split
  · exact ((h r hr j hj).div (h r hr q hq) h0).mono (by omega)
  · exact (h i hi j hj).mono (by omega)
theorem steps_size {M : Mat} {m c b : Nat} (hb : 0 < b) (h : TSz M m c b) : ∀ k, k ≤ c → TSz (steps m M k).M m c (5 ^ (steps m M k).piv.length * b) ∧ RSz (steps m M k).det (5 ^ (steps m M k).piv.length * b) ∧ (steps m M k).piv.length ≤ m
  | 0, _ => by
    refine ⟨?_, ?_, Nat.zero_le _⟩
    · show TSz M m c (5 ^ 0 * b)
      simpa using h
    · exact RSz.one (by show 0 < 5 ^ 0 * b; omega)
  | k + 1, hk => by
    obtain ⟨h1, h2, h3⟩ := steps_size hb h k (by omega)
    obtain ⟨s, hs⟩ : ∃ s, s = steps m M k := ⟨_, rfl⟩
    rw [← hs] at h1 h2 h3
    rw [show steps m M (k + 1) = DLin.step m s k by rw [hs]; rfl]
    obtain ⟨S, hS⟩ : ∃ S, S = 5 ^ s.piv.length * b := ⟨_, rfl⟩
    have hS0 : 0 < S := by rw [hS]; exact Nat.mul_pos (Nat.pow_pos (by omega)) hb
    rw [← hS] at h1 h2
    cases hf : findRow s.M k (m - s.piv.length) s.piv.length with
    | none =>
      rw [step_none hf, ← hS]
      exact ⟨h1, h2, h3⟩
    | some i =>
      rw [step_some hf]
      obtain ⟨i1, i2, i3, i4⟩ := findRow_some hf
      have hrm : s.piv.length < m := by omega
      have him : i < m := by omega
      have hl : (s.piv ++ [k]).length = s.piv.length + 1 := by simp
      have hS5 : 5 ^ (s.piv.length + 1) * b = 5 * S := by rw [hS, Nat.pow_succ]; simp only [Nat.mul_comm, Nat.mul_assoc, Nat.mul_left_comm]
      have hsw := tsz_swapped h1 hrm him
      have hpk : swapped s.M s.piv.length i s.piv.length k = s.M i k := by simp [swapped]
      have hne : swapped s.M s.piv.length i s.piv.length k ≠ 0 := by rw [hpk]; exact i3
      have hsc := tsz_scaled hsw hrm (show k < c by omega) hne
      refine ⟨?_, ?_, by rw [hl]; omega⟩
      · rw [hl, hS5]
        intro t ht j hj
        show RSz (cleared _ _ _ t j) _
        unfold cleared
        split
        · exact (hsc _ hrm j hj).mono (by omega)
        · rename_i e
          have e1 : scaled (swapped s.M s.piv.length i) s.piv.length (swapped s.M s.piv.length i s.piv.length k) t j = swapped s.M s.piv.length i t j := by simp [scaled, e]
          have e2 : scaled (swapped s.M s.piv.length i) s.piv.length (swapped s.M s.piv.length i s.piv.length k) t k = swapped s.M s.piv.length i t k := by simp [scaled, e]
          rw [e1, e2]
          exact ((hsw t ht j hj).sub ((hsw t ht k (by omega)).mul (hsc _ hrm j hj))).mono (by omega)
      · rw [hl, hS5]
        show RSz ((if i = s.piv.length then s.det else - s.det) * _) _
        split
        · exact (h2.mul (hsw _ hrm k (by omega))).mono (by omega)
        · exact (h2.neg.mul (hsw _ hrm k (by omega))).mono (by omega)
theorem steps_full {M : Mat} {m : Nat} : ∀ {k : Nat}, (steps m M k).piv.length = m → ∀ d, steps m M (k + d) = steps m M k
  | k, h, 0 => rfl
  | k, h, d + 1 => by
    have ih := steps_full h d
    show DLin.step m (steps m M (k + d)) (k + d) = _
    rw [ih]
    unfold DLin.step
    rw [h, Nat.sub_self]
    rfl
end Go.Proofs.YtdgeodnfacnnmaaGreatDoor

/- The law's words: rat, list, own. -/
set_option linter.unusedVariables false
set_option linter.unusedSimpArgs false
namespace Go.Proofs.YtdgeodnfacnnmaaGreatDoor
open Go.RowKit
open DDig

theorem TxtL.short {l : List UInt8} {z : Int} (h : TxtL l z) {k : Nat} (hz : (z.natAbs : Int) < pw B32 k) : l.length ≤ 10 * k + 1 :=
  TxtL.length_le h (Int.lt_of_lt_of_le hz (b32_ten k))
theorem QTxt.short {s : ByteArray} {x : Rat} (h : QTxt s x) {k : Nat} (hx : RSz x k) : s.size ≤ 20 * k + 3 := by
  obtain ⟨p, q, hp, hq, hl⟩ := h
  have h1 := hp.short hx.1
  have h2 := hq.short (k := k) (by rw [Int.natAbs_natCast]; exact hx.2)
  have e : s.size = s.data.toList.length := Lib.size_eq s
  rw [e, hl]
  split
  · omega
  · simp; omega

set_option maxRecDepth 100000 in
set_option maxHeartbeats 1000000 in
theorem law_rat (w : World) (f : FV) (x : Rat) (h : FR f x) (k : Nat) (hx : RSz x k) (hk : k ≤ 19) (hg : Gl w) :
    Calls Tryz.prog 48 #[f.v] w (Ret w fun w' v => ∃ r : QV, v = r.v ∧ RatR w' r x) := by
  have H := Hid.mk h
  have HG := Hid.mk hg
  have HS := Hid.mk hx
  have hsz := h.sizes hx
  clear h hg hx
  go_enter Tryz.func48, Tryz.ntmps48
  go_upto_region 1 with (fail)
  obtain ⟨W, hW, hX, b0, b1⟩ := setup2 w #[.string f.p, .string f.q] #[.bool false, .slice none 0 0, .bool false, .slice none 0 0] 69 51
  rw [hW]
  clear hW
  have c0 := b0.cell (j := 0) rfl; have c1 := b0.cell (j := 1) rfl
  go_wp2_with fail
  refine (ref_ftext _ f x H.out (by omega)).mono ?_
  rintro e w1 ⟨⟨v1, rfl, s, rfl, hs⟩, hx1⟩
  have HX := Hid.mk (hX.trans hx1)
  have B1 := Hid.mk (b1.x hx1)
  have HT := Hid.mk hs
  have hss := hs.short HS.out
  clear hX hx1 b0 b1 hs c0 c1
  go_wp2_with fail
  refine (rat_parse _ s x HT.out (by omega) (HG.out.x HX.out)).mono ?_
  rintro e w2 ⟨⟨v2, rfl, r, rfl, hr⟩, hx2⟩
  replace HX := Hid.mk (HX.out.trans hx2)
  replace B1 := Hid.mk (B1.out.x hx2)
  have hlt := B1.out.lt
  clear hx2
  obtain ⟨W3, hW3, hX13, hX3, p3, hr3⟩ := store4 (t := 51) HX.out hr
  have p2 := B1.out.x hX13
  have hne : ¬ w.heap.size + 1 = w2.heap.size := by omega
  have c0 := p3.cell (j := 0) rfl; have c1 := p3.cell (j := 1) rfl; have c2 := p3.cell (j := 2) rfl; have c3 := p3.cell (j := 3) rfl
  have k0 := p2.cell (j := 0) rfl; have k1 := p2.cell (j := 1) rfl; have k2 := p2.cell (j := 2) rfl; have k3 := p2.cell (j := 3) rfl; have f0 := p2.frozen 0; have f1 := p2.frozen 1; have f2 := p2.frozen 2; have f3 := p2.frozen 3
  have K := four_cells p2 (.bool r.s) (.slice r.A r.n r.c) (.bool r.t) (.slice r.B r.m r.d)
  have HR := Hid.mk (hr3.put4 p2 r)
  have HXF := Hid.mk (hX3.put4 (g := w.heap.size + 1) (by omega) r)
  clear hr3 hX3 hX13 p2 p3 hr B1 HX
  go_wp2_with fail
  exact bodyPost_ret (v := r.v) (by simp [results, Tryz.results48, go_sem, K.1, K.2.1, K.2.2.1, K.2.2.2]) rfl ⟨⟨_, rfl, r, rfl, HR.out⟩, HXF.out⟩

/-- Cells without whole numbers. -/
def NI (u : Value) : Prop := ∀ k x, u ≠ .int k x
theorem nni (k : IntKind) (x : Int) : ¬ NI (.int k x) := fun h => h k x rfl
theorem ni_qvc (a : QV) : ∀ u ∈ qvc a, NI u := fun u hu k x => by
  have := noint_qvc a u hu k x
  exact this
theorem ni_zero : ∀ u ∈ (Value.agg #[.bool false, .slice none 0 0, .bool false, .slice none 0 0]).cells.toList, NI u := by
  intro u hu k x
  have h2 : (Value.agg #[.bool false, .slice none 0 0, .bool false, .slice none 0 0]).cells.toList = [.bool false, .slice none 0 0, .bool false, .slice none 0 0] := by rfl
  rw [h2] at hu
  simp at hu
  rcases hu with rfl | rfl | rfl | rfl <;> simp

set_option maxRecDepth 100000 in
set_option maxHeartbeats 2000000 in
theorem law_list (w : World) (v : Value) (n : Nat) (f : Nat → Rat) (h : SlF w v n f) (hn : n ≤ 1000000) (k : Nat) (hs : ∀ j, j < n → RSz (f j) k) (hk : k ≤ 19) (hg : Gl w) :
    Calls Tryz.prog 23 #[v] w (Ret w fun w' v' => SlQ w' v' n f) := by
  obtain ⟨A, c, rfl, h1, h2, h3⟩ := h
  have HA := Hid.mk h3
  have HG := Hid.mk hg
  have HS := Hid.mk hs
  clear h1 h2 h3 hg hs
  go_enter Tryz.func23, Tryz.ntmps23
  go_wp2_with fail
  go_loopw [3, 4] (fun t3 t4 wr => ∃ (i : Nat) (qs : List QV), i ≤ n ∧ t4 = .int .i64 i ∧ OwnC NI wr w.heap.size 51 4 t3 i (qcs qs) ∧ qs.length = i ∧ (∀ j a, qs[j]? = some a → RatR wr a (f j)) ∧ X w wr) (fun _ t _ => n - (intOf t).toNat)
  case atStart => exact ⟨0, [], Nat.zero_le _, rfl, OwnC.nil _ _ _ _ _, rfl, by simp, X.refl _⟩
  case round =>
    obtain ⟨i, qs, hi, rfl, ho, hl, hq, hx⟩ := hrel
    have HO := Hid.mk ho
    have HQ := Hid.mk hq
    have HX := Hid.mk hx
    clear ho hq hx
    by_cases hin : i < n
    · have hin' : (i : Int) < (n : Int) := by omega
      obtain ⟨b, o, rfl, gg⟩ := HA.out (by omega)
      obtain ⟨a, c0, c1, ha⟩ := gg i hin
      replace c0 := HX.out.cell c0
      replace c1 := HX.out.cell c1
      have HF := Hid.mk ha
      clear gg ha
      go_wp2_with fail
      refine (law_rat _ a (f i) HF.out k (HS.out i hin) hk (HG.out.x HX.out)).mono ?_
      rintro e w1 ⟨⟨v1, rfl, r, rfl, hr⟩, hx1⟩
      replace HX := Hid.mk (HX.out.trans hx1)
      replace HO := Hid.mk (HO.out.x hx1)
      replace HQ := Hid.mk (fun j a hj => (HQ.out j a hj).x hx1)
      have HR := Hid.mk hr
      have hib : (i + 1) * 64 ≤ 140737488355328 := by omega
      clear hx1 hr c0 c1
      go_wp2_with (at_builtin; refine append_oneC NI w _ rfl _ _ 64 rfl 51 (.agg #[.bool false, .slice none 0 0, .bool false, .slice none 0 0]) 4 64 Tryz.underlying64 info_Q rfl (by omega) ni_zero _ _ _ rfl HO.out _ _ _ rfl rfl (by simp [Value.oneCell']) (ni_qvc r) (by omega) (by omega) HX.out ?_; intro v2 w2 ho2 hx2 hk2; have HO2 := Hid.mk ho2; have HX2 := Hid.mk hx2; have hkp := HO.out.kp hk2; have HQ2 := Hid.mk (fun j a hj => (HQ.out j a hj).kp hkp (fun x => nni _ x)); have HR2 := Hid.mk (HR.out.kp hkp (fun x => nni _ x)); clear ho2 hx2 hk2 hkp)
      go_roundw
      case rel =>
        refine ⟨i + 1, qs ++ [r], by omega, by go_num, by rw [qcs_snoc]; exact HO2.out, by simp [hl], fun j a hj => ?_, HX2.out⟩
        by_cases e : j = i
        · subst e
          rw [List.getElem?_append_right (by omega), hl] at hj
          simp at hj
          subst hj
          exact HR2.out
        · have hil : j < qs.length := by
            have := (List.getElem?_eq_some_iff.1 hj).1
            simp at this
            omega
          rw [List.getElem?_append_left hil] at hj
          exact HQ2.out j a hj
      case measure => simp [intOf]; omega
    · obtain rfl : i = n := by omega
      have HF := Hid.mk (SlQ.own HO.out.1 hl HQ.out)
      have hin' : ¬ (i : Int) < (i : Int) := by omega
      clear hin hi
      go_wp2_with fail
      go_ret
      exact ⟨⟨_, rfl, HF.out⟩, HX.out⟩

set_option maxRecDepth 100000 in
set_option maxHeartbeats 2000000 in
theorem law_own (w : World) (v : Value) (m n : Nat) (M : Nat → Nat → Rat) (h : MatF w v m n M) (hm : m ≤ 1000000) (hn : n ≤ 1000000) (k : Nat) (hs : TSz M m n k) (hk : k ≤ 19) (hg : Gl w) :
    Calls Tryz.prog 7 #[v] w (Ret w fun w' v' => MatQ w' v' m n M) := by
  obtain ⟨A, c, rfl, h1, h2, h3⟩ := h
  have HA := Hid.mk h3
  have HG := Hid.mk hg
  have HS := Hid.mk hs
  clear h1 h2 h3 hg hs
  go_enter Tryz.func7, Tryz.ntmps7
  go_wp2_with fail
  go_loopw [3, 4] (fun t3 t4 wr => ∃ (i : Nat) (us : List Value), i ≤ m ∧ t4 = .int .i64 i ∧ OwnC IsSl wr w.heap.size 64 1 t3 i us ∧ us.length = i ∧ (∀ j u, us[j]? = some u → SlQ wr u n (M j)) ∧ X w wr) (fun _ t _ => m - (intOf t).toNat)
  case atStart => exact ⟨0, [], Nat.zero_le _, rfl, OwnC.nil _ _ _ _ _, rfl, by simp, X.refl _⟩
  case round =>
    obtain ⟨i, us, hi, rfl, ho, hl, hq, hx⟩ := hrel
    have HO := Hid.mk ho
    have HQ := Hid.mk hq
    have HX := Hid.mk hx
    clear ho hq hx
    by_cases him : i < m
    · have him' : (i : Int) < (m : Int) := by omega
      obtain ⟨b, o, rfl, gg⟩ := HA.out (by omega)
      obtain ⟨u, c0, hu⟩ := gg i him
      obtain ⟨A1, d1, rfl, p1, p2, p3⟩ := id hu
      replace c0 := HX.out.cell c0
      have HU := Hid.mk (hu.x HX.out)
      clear gg hu p1 p2 p3
      go_wp2_with fail
      refine (law_list _ _ n (M i) HU.out hn k (HS.out i him) hk (HG.out.x HX.out)).mono ?_
      rintro e w1 ⟨⟨v1, rfl, hr⟩, hx1⟩
      obtain ⟨A5, d5, rfl, p1, p2, p3⟩ := id hr
      replace HX := Hid.mk (HX.out.trans hx1)
      replace HO := Hid.mk (HO.out.x hx1)
      replace HQ := Hid.mk (fun j a hj => (HQ.out j a hj).x hx1)
      have HR := Hid.mk hr
      have hib : (i + 1) * 24 ≤ 140737488355328 := by omega
      clear hx1 hr c0 p1 p2 p3
      go_wp2_with (at_builtin; refine append_oneC IsSl w _ rfl _ _ 29 rfl 64 (.slice none 0 0) 1 24 Tryz.underlying29 info_sQ rfl (by omega) (fun u hu => ⟨none, 0, 0, by simpa [Value.cells] using hu⟩) _ _ _ rfl HO.out _ _ _ rfl rfl (by simp [Value.oneCell']) (fun u hu => ⟨A5, n, d5, by simpa using hu⟩) (by omega) (by omega) HX.out ?_; intro v2 w2 ho2 hx2 hk2; have HO2 := Hid.mk ho2; have HX2 := Hid.mk hx2; have HQ2 := Hid.mk (fun j a hj => (HQ.out j a hj).kApp HO.out hk2); have HR2 := Hid.mk (HR.out.kApp HO.out hk2); clear ho2 hx2 hk2)
      go_roundw
      case rel =>
        refine ⟨i + 1, us ++ [.slice A5 n d5], by omega, by go_num, HO2.out, by simp [hl], fun j a hj => ?_, HX2.out⟩
        by_cases e : j = i
        · subst e
          rw [List.getElem?_append_right (by omega), hl] at hj
          simp at hj
          subst hj
          exact HR2.out
        · have hil : j < us.length := by
            have := (List.getElem?_eq_some_iff.1 hj).1
            simp at this
            omega
          rw [List.getElem?_append_left hil] at hj
          exact HQ2.out j a hj
      case measure => simp [intOf]; omega
    · obtain rfl : i = m := by omega
      have HF := Hid.mk (SlM.own (S := SlQ) (M := M) (c := n) HO.out.1 hl HQ.out)
      have him' : ¬ (i : Int) < (i : Int) := by omega
      clear him hi
      go_wp2_with fail
      go_ret
      exact ⟨⟨_, rfl, HF.out⟩, HX.out⟩
end Go.Proofs.YtdgeodnfacnnmaaGreatDoor

/- The law's words: line, rows. -/
set_option linter.unusedVariables false
set_option linter.unusedSimpArgs false
namespace Go.Proofs.YtdgeodnfacnnmaaGreatDoor
open Go.RowKit
open DDig

/-- Entries that are read: two numbers each. -/
def EntR (w : World) (A : Option Addr) (n : Nat) (N D : Nat → Int) : Prop :=
  (∀ j, j < n → -128 ≤ N j ∧ N j ≤ 127 ∧ 0 ≤ D j ∧ D j ≤ 255) ∧ (0 < n → ∃ b o, A = some ⟨b, o, none⟩ ∧ ∀ j, j < n → w.cell? ⟨b, o + j * 2, none⟩ = some (.int .i8 (N j)) ∧ w.cell? ⟨b, o + j * 2 + 1, none⟩ = some (.int .u8 (D j)))
theorem EntR.x {w w' : World} {A : Option Addr} {n : Nat} {N D : Nat → Int} (h : EntR w A n N D) (hx : X w w') : EntR w' A n N D :=
  ⟨h.1, fun h0 => by obtain ⟨b, o, e, g⟩ := h.2 h0; exact ⟨b, o, e, fun j hj => ⟨hx.cell (g j hj).1, hx.cell (g j hj).2⟩⟩⟩
/-- The numbers of a row of entries. -/
def entv (n : Nat) (N D : Nat → Int) (k : Nat) : Rat := if k < n then Rat.divInt (N k) (1 + D k % 6) else 0
theorem entv_size (w : World) {A : Option Addr} {n : Nat} {N D : Nat → Int} (h : EntR w A n N D) (k : Nat) : RSz (entv n N D k) 1 := by
  have e : pw B32 1 = 4294967296 := by decide
  unfold entv
  split
  · rename_i hk
    obtain ⟨h1, h2, h3, h4⟩ := h.1 k hk
    have hp : 0 < 1 + D k % 6 := by omega
    obtain ⟨p1, p2⟩ := divInt_parts (x := N k) hp
    have hg : 0 < (Int.gcd (N k) (1 + D k % 6) : Int) := by
      have : 0 < Int.gcd (N k) (1 + D k % 6) := Int.gcd_pos_of_ne_zero_right _ (by omega)
      omega
    constructor
    · rw [p1, e]
      have := Int.natAbs_ediv_le_natAbs (N k) (Int.gcd (N k) (1 + D k % 6) : Int)
      omega
    · rw [p2, e]
      have h5 := Int.natAbs_ediv_le_natAbs (1 + D k % 6) (Int.gcd (N k) (1 + D k % 6) : Int)
      have h6 : 0 ≤ (1 + D k % 6) / (Int.gcd (N k) (1 + D k % 6) : Int) := Int.ediv_nonneg (by omega) (by omega)
      omega
  · exact RSz.zero (by omega)

theorem fzero_divInt : Rat.divInt 0 1 = 0 := by decide +kernel
theorem fvc_one (a : FV) : ∀ u ∈ (#[Value.string a.p, .string a.q] : Array Value).toList, u.oneCell' = true := by
  intro u hu
  simp at hu
  rcases hu with rfl | rfl <;> rfl

set_option maxRecDepth 100000 in
set_option maxHeartbeats 4000000 in
theorem law_line (w : World) (A : Option Addr) (l c n : Nat) (N D : Nat → Int) (h : EntR w A l N D) (hn : n ≤ 1000000) (hl : l ≤ 9223372036854775807) :
    Calls Tryz.prog 18 #[.slice A l c, .int .i64 n] w (Ret w fun w' v' => SlF w' v' n (entv l N D)) := by
  have HA := Hid.mk h
  clear h
  go_enter Tryz.func18, Tryz.ntmps18
  go_wp2_with fail
  go_loopw [5, 6] (fun t5 t6 wr => ∃ (k : Nat) (fs : List FV), k ≤ n ∧ t6 = .int .i64 k ∧ wr.ownsRow w.heap.size 69 2 t5 k (fcs fs) ∧ fs.length = k ∧ (∀ j a, fs[j]? = some a → FR a (entv l N D j)) ∧ X w wr) (fun _ t _ => n - (intOf t).toNat)
  case atStart => exact ⟨0, [], Nat.zero_le _, rfl, World.ownsRow_nil _ _ _ _, rfl, by simp, X.refl _⟩
  case round =>
    obtain ⟨k, fs, hk, rfl, ho, hlf, hq, hx⟩ := hrel
    have HO := Hid.mk ho
    have HQ := Hid.mk hq
    have HX := Hid.mk hx
    clear ho hq hx
    by_cases hkn : k < n
    · have hkn' : (k : Int) < (n : Int) := by omega
      have hkb : (k + 1) * 32 ≤ 140737488355328 := by omega
      go_wp2_with fail
      refine (ref_of _ 0 1 (by omega) (by omega) (by omega) (by omega)).mono ?_
      rintro e w1 ⟨⟨v1, rfl, z, rfl, hz⟩, hx1⟩
      rw [fzero_divInt] at hz
      replace HX := Hid.mk (HX.out.trans hx1)
      replace HO := Hid.mk (own_x HO.out hx1)
      clear hx1
      go_upto_region 6 with (fail)
      obtain ⟨W2, hW2, hX2, b2, hWs2⟩ := setup1 w1 #[.string z.p, .string z.q] 69
      rw [hW2]
      clear hW2
      obtain ⟨gx, hgx⟩ : ∃ gx, gx = w1.heap.size := ⟨_, rfl⟩
      rw [← hgx] at b2
      simp only [← hgx]
      have hgw : w.heap.size ≤ gx := by have := HX.out.size; omega
      have HOX : Hid (∀ w', X w1 w' → w'.ownsRow w.heap.size 69 2 u5 k (fcs fs)) := fun w' h => own_x HO.out h
      have HXX : Hid (∀ w', X w1 w' → X w w') := fun w' h => HX.out.trans h
      have HG := Hid.mk hgx
      have HX12 := Hid.mk hX2
      have B2 := Hid.mk b2
      have HZ := Hid.mk hz
      clear hX2 b2 hgx HO HX hWs2 hz
      go_upto_if 17 with (fail)
      go_cut [] (fun wc => ∃ f : FV, Blk wc gx 69 (fvc f) ∧ FR f (entv l N D k) ∧ X w1 wc)
      case first =>
        by_cases hkl : k < l
        · have hkl' : (k : Int) < (l : Int) := by omega
          obtain ⟨h1, h2, h3, h4⟩ := HA.out.1 k hkl
          have hXW := (HXX.out _ HX12.out)
          obtain ⟨b, o, rfl, gg⟩ := (HA.out.x hXW).2 (by omega)
          obtain ⟨c0, c1⟩ := gg k hkl
          have HEV : Hid (entv l N D k = Rat.divInt (N k) (1 + D k % 6)) := by show entv l N D k = _; unfold entv; rw [if_pos hkl]
          obtain ⟨x, hx⟩ : ∃ x, x = N k := ⟨_, rfl⟩
          obtain ⟨y, hy⟩ : ∃ y, y = D k := ⟨_, rfl⟩
          rw [← hx, ← hy] at HEV
          rw [← hx] at c0 h1 h2
          rw [← hy] at c1 h3 h4
          have hm0 : 0 ≤ y % 6 ∧ y % 6 ≤ 5 := by omega
          have hb2 := B2.out
          have hk0 : (0 : Int) ≤ (k : Int) := by omega
          have hw1 : IntKind.i64.wrap (1 + y % 6) = 1 + y % 6 := by rw [IntKind.wrap_i64]; omega
          have hw2 : IntKind.i64.wrap (y % 6) = y % 6 := by rw [IntKind.wrap_i64]; omega
          have hw3 : IntKind.i64.wrap x = x := by rw [IntKind.wrap_i64]; omega
          have ht1 : y.tmod 6 = y % 6 := Int.tmod_eq_emod_of_nonneg (by omega)
          have hne : ¬ gx = b := by
            obtain ⟨b', o', e', g'⟩ := HA.out.2 (by omega)
            injection e' with e'; injection e' with e1 e2
            subst e1
            have : b < w.heap.size := World.block_lt_of_cell? _ _ (g' k hkl).1
            omega
          have HC := Hid.mk (fun w' (h : X W2 w') => (⟨h.cell c0, h.cell c1⟩ : w'.cell? ⟨b, o + k * 2, none⟩ = some (.int .i8 x) ∧ w'.cell? ⟨b, o + k * 2 + 1, none⟩ = some (.int .u8 y)))
          clear gg hx hy hXW c0 c1
          go_wp2_with fail
          have hz0 : X W2 W2.drew := ⟨rfl, rfl, rfl, Nat.le_refl _, fun _ _ => rfl⟩
          have hS0 := HC.out W2 (X.refl _)
          go_region_held3 (fun w' => w'.cell? ⟨b, o + k * 2, none⟩ = some (.int .i8 x) ∧ w'.cell? ⟨b, o + k * 2 + 1, none⟩ = some (.int .u8 y))
            (go_keep)
            (first
              | (have hguard := hz0; go_at_call 42; refine (ref_of _ x (1 + y % 6) (by omega) (by omega) (by omega) (by omega)).mono ?_; rintro e w1 ⟨⟨v1, rfl, f3, rfl, hq3⟩, hx1⟩; have hz1 : X W2 w1 := hz0.trans hx1; have hS1 := HC.out w1 hz1; have hb3 := hb2.x hz1; have k0 := hb3.cell (j := 0) rfl; have k1 := hb3.cell (j := 1) rfl; have f0 := hb3.frozen 0; have f1 := hb3.frozen 1))
          have hB := Hid.mk ((hb3.set 0 (.string f3.p)).set 1 (.string f3.q))
          have hF : Hid (FR f3 (entv l N D k)) := by (show FR f3 (entv l N D k); rw [HEV.out]; exact hq3)
          have hXX := Hid.mk ((((HX12.out.trans hz1).set (p := ⟨gx, 0, none⟩) (by rw [HG.out]; exact Nat.le_refl _) (.string f3.p)).set (p := ⟨gx, 1, none⟩) (by rw [HG.out]; exact Nat.le_refl _) (.string f3.q)))
          clear hb3 k0 k1 f0 f1 hx1 hq3 hz1 hz0 hb2 hS0 hS1 HC
          go_wp2_with fail
          go_meet
          exact ⟨f3, hB.out, hF.out, hXX.out⟩
        · have hkl' : ¬ (k : Int) < (l : Int) := by omega
          have HEV : Hid (entv l N D k = 0) := by show entv l N D k = _; unfold entv; rw [if_neg hkl]
          go_wp2_with fail
          go_meet
          exact ⟨z, B2.out, by rw [HEV.out]; exact HZ.out, HX12.out⟩
      case rest =>
        obtain ⟨f, hb, hf, hx⟩ := hcut
        have HF := Hid.mk hf
        have HO3 := Hid.mk (HOX.out _ hx)
        have HX3 := Hid.mk (HXX.out _ hx)
        have c0 := hb.cell (j := 0) rfl; have c1 := hb.cell (j := 1) rfl
        clear hb hf hx
        go_wp2_with (at_builtin; refine append_lit w _ rfl _ _ 57 rfl 69 (.agg #[.string ⟨#[]⟩, .string ⟨#[]⟩]) 2 32 Tryz.underlying57 info_F rfl (by omega) _ _ _ rfl HO3.out _ _ _ rfl rfl (fvc_one f) (by omega) (by omega) HX3.out ?_; intro v2 w2 ho2 hx2; have HO4 := Hid.mk ho2; have HX4 := Hid.mk hx2; clear ho2 hx2)
        go_roundw
        case rel =>
          refine ⟨k + 1, fs ++ [f], by omega, by go_num, by rw [fcs_snoc]; exact HO4.out, by simp [hlf], fun j a hj => ?_, HX4.out⟩
          by_cases e : j = k
          · subst e
            rw [List.getElem?_append_right (by omega), hlf] at hj
            simp at hj
            subst hj
            exact HF.out
          · have hil : j < fs.length := by
              have := (List.getElem?_eq_some_iff.1 hj).1
              simp at this
              omega
            rw [List.getElem?_append_left hil] at hj
            exact HQ.out j a hj
        case measure => simp [intOf]; omega
    · obtain rfl : k = n := by omega
      have HF := Hid.mk (SlF.own HO.out hlf HQ.out)
      have hkn' : ¬ (k : Int) < (k : Int) := by omega
      clear hkn hk
      go_wp2_with fail
      go_ret
      exact ⟨⟨_, rfl, HF.out⟩, HX.out⟩
end Go.Proofs.YtdgeodnfacnnmaaGreatDoor

/- The law's words: rows of a table. -/
set_option linter.unusedVariables false
set_option linter.unusedSimpArgs false
namespace Go.Proofs.YtdgeodnfacnnmaaGreatDoor
open Go.RowKit
open DDig

/-- Rows of entries that are read. -/
def RowsR (w : World) (A : Option Addr) (n : Nat) (L : Nat → Nat) (N D : Nat → Nat → Int) : Prop :=
  0 < n → ∃ b o, A = some ⟨b, o, none⟩ ∧ ∀ i, i < n → ∃ B d, w.cell? ⟨b, o + i, none⟩ = some (.slice B (L i) d) ∧ EntR w B (L i) (N i) (D i) ∧ L i ≤ 9223372036854775807
theorem RowsR.x {w w' : World} {A : Option Addr} {n : Nat} {L : Nat → Nat} {N D : Nat → Nat → Int} (h : RowsR w A n L N D) (hx : X w w') : RowsR w' A n L N D := fun h0 => by
  obtain ⟨b, o, e, g⟩ := h h0
  refine ⟨b, o, e, fun i hi => ?_⟩
  obtain ⟨B, d, c0, h1, h2⟩ := g i hi
  exact ⟨B, d, hx.cell c0, h1.x hx, h2⟩
/-- The numbers of a table. -/
def tabv (L : Nat → Nat) (N D : Nat → Nat → Int) (i : Nat) : Nat → Rat := entv (L i) (N i) (D i)

set_option maxRecDepth 100000 in
set_option maxHeartbeats 2000000 in
theorem law_rows (w : World) (C : Int) (A : Option Addr) (n c : Nat) (L : Nat → Nat) (N D : Nat → Nat → Int) (h : RowsR w A n L N D) (hC : 0 ≤ C ∧ C ≤ 255) (hn : n ≤ 9223372036854775807) :
    Calls Tryz.prog 5 #[.agg #[.int .u8 C, .slice A n c]] w (Ret w fun w' v' => MatF w' v' (min n 5) (C % 7).toNat (tabv L N D)) := by
  have HA := Hid.mk h
  clear h
  go_enter Tryz.func5, Tryz.ntmps5
  go_upto_region 1 with (fail)
  obtain ⟨W, hW, hX, b0, hWs⟩ := setup1 w #[.int .u8 C, .slice A n c] 24
  rw [hW]
  clear hW
  have B0 := Hid.mk b0
  have HXW := Hid.mk hX
  clear b0 hX
  go_wp2_with fail
  go_loopw [3, 4] (fun t3 t4 wr => ∃ (i : Nat) (us : List Value), i ≤ min n 5 ∧ t4 = .int .i64 i ∧ OwnC IsSl wr W.heap.size 57 1 t3 i us ∧ us.length = i ∧ (∀ j u, us[j]? = some u → SlF wr u (C % 7).toNat (tabv L N D j)) ∧ X W wr) (fun _ t _ => 5 - (intOf t).toNat)
  case atStart => exact ⟨0, [], Nat.zero_le _, rfl, OwnC.nil _ _ _ _ _, rfl, by simp, X.refl _⟩
  case round =>
    obtain ⟨i, us, hi, rfl, ho, hl, hq, hx⟩ := hrel
    have HO := Hid.mk ho
    have HQ := Hid.mk hq
    have HX := Hid.mk hx
    have hb0 := B0.out.x hx
    have c0 := hb0.cell (j := 0) rfl; have c1 := hb0.cell (j := 1) rfl
    clear ho hq hx
    have hin0 : (0 : Int) ≤ (i : Int) := by omega
    by_cases hin : i < n ∧ i < 5
    · obtain ⟨h1, h2⟩ := hin
      have h1' : (i : Int) < (n : Int) := by omega
      have h2' : (i : Int) < 5 := by omega
      obtain ⟨b, o, rfl, gg⟩ := (HA.out.x HXW.out) (by omega)
      obtain ⟨B, d, e0, he, hL⟩ := gg i h1
      have HE := Hid.mk (he.x HX.out)
      have hbW := B0.out
      have q0 := hbW.cell (j := 0) rfl; have q1 := hbW.cell (j := 1) rfl
      have hm1 : C.tmod 7 = C % 7 := Int.tmod_eq_emod_of_nonneg hC.1
      have hm2 : 0 ≤ C % 7 ∧ C % 7 ≤ 6 := by omega
      have hw2 : IntKind.i64.wrap (C % 7) = C % 7 := by rw [IntKind.wrap_i64]; omega
      obtain ⟨cN, hcN⟩ : ∃ cN : Nat, (cN : Int) = C % 7 := ⟨(C % 7).toNat, by omega⟩
      have hcT : (C % 7).toNat = cN := by omega
      rw [hcT] at HQ
      have HC := Hid.mk (fun w' (h : X W w') => (⟨h.cell q0, h.cell q1, h.cell e0⟩ : w'.cell? ⟨w.heap.size, 0, none⟩ = some (.int .u8 C) ∧ w'.cell? ⟨w.heap.size, 1, none⟩ = some (.slice (some ⟨b, o, none⟩) n c) ∧ w'.cell? ⟨b, o + i, none⟩ = some (.slice B (L i) d)))
      have hib : (i + 1) * 24 ≤ 140737488355328 := by omega
      have hCE : Hid (C % 7 = (cN : Int)) := hcN.symm
      clear gg he hb0 hbW q0 q1 e0
      go_wp2_with fail
      have hz0 : X wr wr.drew := ⟨rfl, rfl, rfl, Nat.le_refl _, fun _ _ => rfl⟩
      have hS0 := HC.out wr HX.out
      go_region_held3 (fun w' => w'.cell? ⟨w.heap.size, 0, none⟩ = some (.int .u8 C) ∧ w'.cell? ⟨w.heap.size, 1, none⟩ = some (.slice (some ⟨b, o, none⟩) n c) ∧ w'.cell? ⟨b, o + i, none⟩ = some (.slice B (L i) d))
        (go_keep)
        (first
          | (refine step_append_oneC IsSl W _ rfl (.tmp 16) (.tmp 27) 26 rfl 57 (.slice none 0 0) 1 24 Tryz.underlying26 info_sF rfl (by omega) (fun u hu => ⟨none, 0, 0, by simpa [Value.cells] using hu⟩) _ _ _ rfl hO1 _ _ _ rfl rfl (by simp [Value.oneCell']) (fun u hu => ⟨A5, cN, d5, by simpa using hu⟩) (by omega) (by omega) (HX.out.trans hz1) ?_; intro v2 w2 ho2 hx2 hk2; have hS2 := HC.out w2 hx2; have HO2 := Hid.mk ho2; have HX2 := Hid.mk hx2; have HU2 := Hid.mk (fun j u hj => ((HQ.out j u hj).x hz1).kApp hO1 hk2); have HR2 := Hid.mk (hv1.kApp hO1 hk2); clear ho2 hx2 hk2)
          | (have hguard := hz0; go_at_call 18; rw [hCE.out]; refine (law_line _ B (L i) d cN (N i) (D i) (HE.out.x hz0) (by omega) hL).mono ?_; rintro e w1 ⟨⟨v1, rfl, hv1⟩, hx1⟩; have hz1 := hz0.trans hx1; have hS1 := HC.out w1 (HX.out.trans hz1); obtain ⟨A5, d5, rfl, p1, p2, p3⟩ := id hv1; have hO1 := HO.out.x hz1))
      clear hz1 hx1 hO1 hv1 p1 p2 p3 hS0 hS1 hS2 hz0 HC
      go_wp2_with fail
      go_roundw
      case rel =>
        refine ⟨i + 1, us ++ [.slice A5 cN d5], by omega, by go_num, HO2.out, by simp [hl], fun j u hj => ?_, HX2.out⟩
        rw [hcT]
        by_cases e : j = i
        · subst e
          rw [List.getElem?_append_right (by omega), hl] at hj
          simp at hj
          subst hj
          exact HR2.out
        · have hil : j < us.length := by
            have := (List.getElem?_eq_some_iff.1 hj).1
            simp at this
            omega
          rw [List.getElem?_append_left hil] at hj
          exact HU2.out j u hj
      case measure => simp [intOf]; omega
    · have hmin : i = min n 5 := by omega
      have HF : Hid (MatF wr u3 (min n 5) (C % 7).toNat (tabv L N D)) := by
        rw [← hmin]
        exact SlM.own (S := SlF) HO.out.1 hl HQ.out
      have HXF := Hid.mk (HXW.out.trans HX.out)
      clear hb0
      by_cases h1 : i < n
      · have h1' : (i : Int) < (n : Int) := by omega
        have h2' : ¬ (i : Int) < 5 := by omega
        clear hin h1 hmin hi hl
        go_wp2_with fail
        go_ret
        exact ⟨⟨_, rfl, HF.out⟩, HXF.out⟩
      · have h1' : ¬ (i : Int) < (n : Int) := by omega
        clear hin h1 hmin hi hl
        go_wp2_with fail
        go_ret
        exact ⟨⟨_, rfl, HF.out⟩, HXF.out⟩
end Go.Proofs.YtdgeodnfacnnmaaGreatDoor

/- The arguments of the laws of layer 5, as the walks want them; the variables that the laws read. -/
set_option linter.unusedVariables false
set_option linter.unusedSimpArgs false
namespace Go.Proofs.YtdgeodnfacnnmaaGreatDoor
open Go.ChangeShapes Go.WideShapes Go.ChangeAt Go.RowKit Go.Deep Go.Joins

theorem own : ownKnob Tryz.prog.godebug = none := by kernel_rfl
theorem laidOut : laidOutB Tryz.prog = true := by kernel_rfl
theorem gPow : Tryz.prog.globalNamed "internal/strconv.uint64pow10" = some 0 := by kernel_rfl
theorem cellsEntry : Tryz.prog.cellsOf 87 = 2 := by kernel_rfl
theorem cellsEntries : Tryz.prog.cellsOf 59 = 1 := by kernel_rfl
theorem cellsTable : Tryz.prog.cellsOf 24 = 2 := by kernel_rfl

section
variable {H : Type} {enc : TypeId × Value → H} {W : World}

theorem max_shape (h : W.ShapedOpen Tryz.prog) : ∃ m : Int, W.cell? ⟨1, 0, none⟩ = some (.int .i64 m) :=
  cell_of_shapedOpen_int (zero := #[.int .i64 0]) (t := 3) h (of_decide_eq_true (by kernel_rfl)) (by kernel_rfl) rfl (by kernel_rfl) (by kernel_rfl) Tryz.underlying3

theorem plain_addr {a : Addr} {v : Value} (h : W.cell? (a.add 0) = some v) : ∃ b o, a = ⟨b, o, none⟩ := by
  obtain ⟨b, o, s⟩ := a
  have hs : s = none := by simpa [Addr.add] using World.cell?_spot h
  exact ⟨b, o, by rw [hs]⟩

theorem wf_i8 {n : Int} (h : (Lit.int .i8 n).wf = true) : -128 ≤ n ∧ n ≤ 127 := by simpa [Lit.wf, IntKind.min, IntKind.max, IntKind.signed, IntKind.bits] using h
theorem wf_u8 {n : Int} (h : (Lit.int .u8 n).wf = true) : 0 ≤ n ∧ n ≤ 255 := by simpa [Lit.wf, IntKind.min, IntKind.max, IntKind.signed, IntKind.bits] using h
theorem wf_i64 {n : Int} (h : (Lit.int .i64 n).wf = true) : -9223372036854775808 ≤ n ∧ n ≤ 9223372036854775807 := by simpa [Lit.wf, IntKind.min, IntKind.max, IntKind.signed, IntKind.bits] using h

/-- A list of entries. -/
theorem open_entries {fuel : Nat} {cs : List Value} {x : DataW H × List MemPlace} (h : DataW.trod enc Tryz.prog W 0 (fun _ => true) true fuel 59 cs = some x) :
    ∃ (A : Option Addr) (n c : Nat) (N D : Nat → Int), cs = [.slice A n c] ∧ n ≤ 9223372036854775807 ∧ EntR W A n N D := by
  rcases open_slice_pairs Tryz.underlying59 Tryz.underlying87 cellsEntry rfl rfl (by kernel_rfl) (by kernel_rfl) h with ⟨rfl, -⟩ | ⟨a, len, cap, m, n, V0, V1, D0, D1, P0, P1, rfl, -, h1, h2, h3, -, hf⟩
  · exact ⟨none, 0, 0, fun _ => 0, fun _ => 0, rfl, by omega, fun j hj => by omega, fun h => by omega⟩
  · simp only [if_true] at h3
    subst h3
    unfold maxLen at h2
    refine ⟨some a, len, m, fun j => intOf (V0 j), fun j => intOf (V1 j), rfl, by omega, fun j hj => ?_, fun h0 => ?_⟩
    · obtain ⟨-, -, g0, g1⟩ := hf j (by omega)
      obtain ⟨z0, e0, -, w0⟩ := DataW.trod_int Tryz.underlying85 g0
      obtain ⟨z1, e1, -, w1⟩ := DataW.trod_int Tryz.underlying5 g1
      injection e0 with e0
      injection e1 with e1
      show -128 ≤ intOf (V0 j) ∧ intOf (V0 j) ≤ 127 ∧ 0 ≤ intOf (V1 j) ∧ intOf (V1 j) ≤ 255
      rw [e0, e1]
      have q0 := wf_i8 w0
      have q1 := wf_u8 w1
      exact ⟨q0.1, q0.2, q1.1, q1.2⟩
    · obtain ⟨b, o, rfl⟩ := plain_addr (hf 0 (by omega)).1
      refine ⟨b, o, rfl, fun j hj => ?_⟩
      obtain ⟨c0, c1, g0, g1⟩ := hf j (by omega)
      obtain ⟨z0, e0, -, w0⟩ := DataW.trod_int Tryz.underlying85 g0
      obtain ⟨z1, e1, -, w1⟩ := DataW.trod_int Tryz.underlying5 g1
      injection e0 with e0
      injection e1 with e1
      rw [add_plain] at c0 c1
      show W.cell? _ = some (.int .i8 (intOf (V0 j))) ∧ W.cell? _ = some (.int .u8 (intOf (V1 j)))
      rw [e0] at c0 ⊢
      rw [e1] at c1 ⊢
      exact ⟨c0, c1⟩

set_option maxRecDepth 100000 in
/-- A table. -/
theorem open_table {r : Reach} {b0 : Nat} {v : Value} {d : DataW H} {p : List MemPlace} (hv : Value.okWide Tryz.prog W r b0 24 v) (h : DataW.Trod enc Tryz.prog W 0 (fun _ => true) true 24 v d p) :
    ∃ (C : Int) (A : Option Addr) (n c : Nat) (L : Nat → Nat) (N D : Nat → Nat → Int), v = .agg #[.int .u8 C, .slice A n c] ∧ (0 ≤ C ∧ C ≤ 255) ∧ n ≤ 9223372036854775807 ∧ RowsR W A n L N D := by
  obtain ⟨v0, v1, y0, y1, fuel, rfl, -, -, h0, h1⟩ := open_agg2 Tryz.underlying24 (by kernel_rfl) cellsTable hv h
  obtain ⟨C, e0, -, wC⟩ := DataW.trod_int Tryz.underlying5 h0
  injection e0 with e0
  subst e0
  rcases open_slice1 Tryz.underlying22 cellsEntries h1 with ⟨e1, -⟩ | ⟨a, len, cap, m, n, V, D0, Pl, e1, -, k1, k2, k3, -, hf⟩
  · injection e1 with e1
    subst e1
    exact ⟨C, none, 0, 0, fun _ => 0, fun _ _ => 0, fun _ _ => 0, rfl, wf_u8 wC, by omega, fun h => by omega⟩
  · injection e1 with e1
    subst e1
    simp only [if_true] at k3
    subst k3
    unfold maxLen at k2
    have hrow : ∀ i, ∃ x : Nat × (Nat → Int) × (Nat → Int), i < m → ∃ B d, V i = .slice B x.1 d ∧ EntR W B x.1 x.2.1 x.2.2 ∧ x.1 ≤ 9223372036854775807 := fun i => by
      by_cases hi : i < m
      · obtain ⟨A, n', c', N, D, e, hn, hE⟩ := open_entries (hf i hi).2
        injection e with e
        exact ⟨⟨n', N, D⟩, fun _ => ⟨A, c', e, hE, hn⟩⟩
      · exact ⟨⟨0, fun _ => 0, fun _ => 0⟩, fun h => absurd h hi⟩
    obtain ⟨F, hF⟩ := Classical.axiomOfChoice hrow
    refine ⟨C, some a, len, m, fun i => (F i).1, fun i => (F i).2.1, fun i => (F i).2.2, rfl, wf_u8 wC, by omega, fun h0 => ?_⟩
    obtain ⟨b, o, rfl⟩ := plain_addr (hf 0 (by omega)).1
    refine ⟨b, o, rfl, fun i hi => ?_⟩
    have c0 := (hf i (by omega)).1
    obtain ⟨B, d, e, hE, hn⟩ := hF i (by omega)
    rw [add_plain, e] at c0
    exact ⟨B, d, c0, hE, hn⟩
end
end Go.Proofs.YtdgeodnfacnnmaaGreatDoor

/- The law's words: numbers; tables of whole numbers. -/
set_option linter.unusedVariables false
set_option linter.unusedSimpArgs false
namespace Go.Proofs.YtdgeodnfacnnmaaGreatDoor
open Go.RowKit
open DDig

/-- A row of whole numbers. -/
def SlI (w : World) (v : Value) (n : Nat) (f : Nat → Rat) : Prop := ∃ A c, v = .slice A n c ∧ (0 < n → ∃ b o, A = some ⟨b, o, none⟩ ∧ ∀ j, j < n → ∃ z : Int, w.cell? ⟨b, o + j, none⟩ = some (.int .i64 z) ∧ -9223372036854775808 ≤ z ∧ z ≤ 9223372036854775807 ∧ f j = (z : Rat))
theorem SlI.x {w w' : World} {v : Value} {n : Nat} {f : Nat → Rat} (h : SlI w v n f) (hx : X w w') : SlI w' v n f := by
  obtain ⟨A, c, h1, h2⟩ := h
  refine ⟨A, c, h1, fun h0 => ?_⟩
  obtain ⟨b, o, e, g⟩ := h2 h0
  refine ⟨b, o, e, fun j hj => ?_⟩
  obtain ⟨z, hz, r⟩ := g j hj
  exact ⟨z, hx.cell hz, r⟩
abbrev MatI := SlM SlI
theorem MatI.x {w w' : World} {v : Value} {m c : Nat} {M : Nat → Nat → Rat} (h : MatI w v m c M) (hx : X w w') : MatI w' v m c M := SlM.x (S := SlI) (fun h x => h.x x) h hx

/-- A table as it is written out. -/
def tab (L : List (List Int)) (i j : Nat) : Rat := ((L.getD i []).getD j 0 : Int)
theorem SlI.lit {w : World} {g : Nat} {e : TypeId} {xs : List Int} {n : Nat} {f : Nat → Rat} (h : Blk w g e (nums .i64 xs)) (hn : xs.length = n) (hr : ∀ z ∈ xs, -9223372036854775808 ≤ z ∧ z ≤ 9223372036854775807) (hf : ∀ j, j < n → f j = ((xs.getD j 0 : Int) : Rat)) : SlI w (.slice (some ⟨g, 0, none⟩) n n) n f := by
  refine ⟨_, n, rfl, fun _ => ⟨g, 0, rfl, fun j hj => ⟨xs.getD j 0, ?_, ?_⟩⟩⟩
  · rw [Nat.zero_add]; exact h.int (by omega)
  · have hm : xs.getD j 0 ∈ xs := by
      rw [List.getD_eq_getElem?_getD, List.getElem?_eq_getElem (by omega)]
      exact List.getElem_mem _
    exact ⟨(hr _ hm).1, (hr _ hm).2, hf j hj⟩

set_option maxRecDepth 100000 in
set_option maxHeartbeats 4000000 in
theorem law_numbers (w : World) (v : Value) (m n : Nat) (M : Nat → Nat → Rat) (h : MatI w v m n M) (hm : m ≤ 1000000) (hn : n ≤ 1000000) :
    Calls Tryz.prog 14 #[v] w (Ret w fun w' v' => MatQ w' v' m n M) := by
  obtain ⟨A, c, rfl, h1, h2, h3⟩ := h
  have HA := Hid.mk h3
  clear h1 h2 h3
  go_enter Tryz.func14, Tryz.ntmps14
  go_wp2_with fail
  go_loopw [3, 4] (fun t3 t4 wr => ∃ (i : Nat) (us : List Value), i ≤ m ∧ t4 = .int .i64 i ∧ OwnC IsSl wr w.heap.size 64 1 t3 i us ∧ us.length = i ∧ (∀ j u, us[j]? = some u → SlQ wr u n (M j)) ∧ X w wr) (fun _ t _ => m - (intOf t).toNat)
  case atStart => exact ⟨0, [], Nat.zero_le _, rfl, OwnC.nil _ _ _ _ _, rfl, by simp, X.refl _⟩
  case round =>
    obtain ⟨i, us, hi, rfl, ho, hl, hq, hx⟩ := hrel
    have HO := Hid.mk ho
    have HQ := Hid.mk hq
    have HX := Hid.mk hx
    clear ho hq hx
    by_cases him : i < m
    · have him' : (i : Int) < (m : Int) := by omega
      obtain ⟨b, o, rfl, gg⟩ := HA.out (by omega)
      obtain ⟨u, c0, hu⟩ := gg i him
      obtain ⟨A1, d1, rfl, hrow⟩ := hu
      replace c0 := HX.out.cell c0
      have HROW := Hid.mk hrow
      have hib : (i + 1) * 24 ≤ 140737488355328 := by omega
      clear gg hrow
      obtain ⟨wo, rfl⟩ : ∃ wo : World, wo = wr := ⟨_, rfl⟩
      go_wp2_with fail
      go_loopw [5, 6] (fun t5 t6 wr => ∃ (j : Nat) (qs : List QV), j ≤ n ∧ t6 = .int .i64 j ∧ OwnC NI wr wo.heap.size 51 4 t5 j (qcs qs) ∧ qs.length = j ∧ (∀ t a, qs[t]? = some a → RatR wr a (M i t)) ∧ X wo wr) (fun _ t _ => n - (intOf t).toNat)
      case atStart => exact ⟨0, [], Nat.zero_le _, rfl, OwnC.nil _ _ _ _ _, rfl, by simp, X.refl _⟩
      case round =>
        obtain ⟨j, qs, hj, rfl, ho, hlq, hqq, hx⟩ := hrel
        have HO2 := Hid.mk ho
        have HQ2 := Hid.mk hqq
        have HX2 := Hid.mk hx
        replace c0 := hx.cell c0
        clear ho hqq hx
        by_cases hjn : j < n
        · have hjn' : (j : Int) < (n : Int) := by omega
          obtain ⟨b1, o1, rfl, g1⟩ := HROW.out (by omega)
          obtain ⟨z, e0, hz1, hz2, hz3⟩ := g1 j hjn
          replace e0 := HX2.out.cell (HX.out.cell e0)
          have HZ3 := Hid.mk hz3
          have hjb : (j + 1) * 64 ≤ 140737488355328 := by omega
          clear g1 hz3
          go_wp2_with fail
          refine (rat_from _ z hz1 hz2).mono ?_
          rintro e w1 ⟨⟨v1, rfl, r, rfl, hr⟩, hx1⟩
          rw [← HZ3.out] at hr
          replace HX2 := Hid.mk (HX2.out.trans hx1)
          replace HO2 := Hid.mk (HO2.out.x hx1)
          replace HQ2 := Hid.mk (fun j a hj => (HQ2.out j a hj).x hx1)
          have HR := Hid.mk hr
          clear hx1 hr c0 e0
          go_wp2_with (at_builtin; refine append_oneC NI wo _ rfl _ _ 64 rfl 51 (.agg #[.bool false, .slice none 0 0, .bool false, .slice none 0 0]) 4 64 Tryz.underlying64 info_Q rfl (by omega) ni_zero _ _ _ rfl HO2.out _ _ _ rfl rfl (by simp [Value.oneCell']) (ni_qvc r) (by omega) (by omega) HX2.out ?_; intro v2 w2 ho2 hx2 hk2; have HO3 := Hid.mk ho2; have HX3 := Hid.mk hx2; have hkp := HO2.out.kp hk2; have HQ3 := Hid.mk (fun j a hj => (HQ2.out j a hj).kp hkp (fun x => nni _ x)); have HR3 := Hid.mk (HR.out.kp hkp (fun x => nni _ x)); clear ho2 hx2 hk2 hkp)
          go_roundw
          case rel =>
            refine ⟨j + 1, qs ++ [r], by omega, by go_num, by rw [qcs_snoc]; exact HO3.out, by simp [hlq], fun t a ht => ?_, HX3.out⟩
            by_cases e : t = j
            · subst e
              rw [List.getElem?_append_right (by omega), hlq] at ht
              simp at ht
              subst ht
              exact HR3.out
            · have hil : t < qs.length := by
                have := (List.getElem?_eq_some_iff.1 ht).1
                simp at this
                omega
              rw [List.getElem?_append_left hil] at ht
              exact HQ3.out t a ht
          case measure => simp [intOf]; omega
        · obtain rfl : j = n := by omega
          have hsq : SlQ wr u5 j (M i) := SlQ.own HO2.out.1 hlq HQ2.out
          obtain ⟨A5, d5, rfl, p1, p2, p3⟩ := id hsq
          have HR := Hid.mk hsq
          replace HX := Hid.mk (HX.out.trans HX2.out)
          replace HO := Hid.mk (HO.out.x HX2.out)
          replace HQ := Hid.mk (fun j a hj => (HQ.out j a hj).x HX2.out)
          have hjn' : ¬ (j : Int) < (j : Int) := by omega
          clear hjn hj p1 p2 p3 hsq HO2 HQ2
          go_wp2_with (at_builtin; refine append_oneC IsSl w _ rfl _ _ 29 rfl 64 (.slice none 0 0) 1 24 Tryz.underlying29 info_sQ rfl (by omega) (fun u hu => ⟨none, 0, 0, by simpa [Value.cells] using hu⟩) _ _ _ rfl HO.out _ _ _ rfl rfl (by simp [Value.oneCell']) (fun u hu => ⟨A5, j, d5, by simpa using hu⟩) (by omega) (by omega) HX.out ?_; intro v2 w2 ho2 hx2 hk2; have HO3 := Hid.mk ho2; have HX3 := Hid.mk hx2; have HQ3 := Hid.mk (fun j a hj => (HQ.out j a hj).kApp HO.out hk2); have HR3 := Hid.mk (HR.out.kApp HO.out hk2); clear ho2 hx2 hk2)
          go_roundw
          case rel =>
            refine ⟨i + 1, us ++ [.slice A5 j d5], by omega, by go_num, HO3.out, by simp [hl], fun t a ht => ?_, HX3.out⟩
            by_cases e : t = i
            · subst e
              rw [List.getElem?_append_right (by omega), hl] at ht
              simp at ht
              subst ht
              exact HR3.out
            · have hil : t < us.length := by
                have := (List.getElem?_eq_some_iff.1 ht).1
                simp at this
                omega
              rw [List.getElem?_append_left hil] at ht
              exact HQ3.out t a ht
          case measure => simp [intOf]; omega
    · obtain rfl : i = m := by omega
      have HF := Hid.mk (SlM.own (S := SlQ) (M := M) (c := n) HO.out.1 hl HQ.out)
      have him' : ¬ (i : Int) < (i : Int) := by omega
      clear him hi
      go_wp2_with fail
      go_ret
      exact ⟨⟨_, rfl, HF.out⟩, HX.out⟩
end Go.Proofs.YtdgeodnfacnnmaaGreatDoor
