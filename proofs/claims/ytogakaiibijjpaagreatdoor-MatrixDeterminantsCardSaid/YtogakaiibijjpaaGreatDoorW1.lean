/- Lemmas for the proof, part 1: Dig, B, I1, I2, I3, I4, I5, I6, I7, I8, I9, I10, I11, S1. -/
import Derived.Test.YtogakaiibijjpaaGreatDoorProg
import Derived.Below
import Derived.Deep.Draws
import Derived.OwnWalk
import Derived.Tactics
import Derived.WalkKit
import Derived.KernelRfl
import Derived.RowKit3
import Derived.Deep.LoopGhost
import Derived.Deep.QuietTactic
import Derived.BigQuiet
import Derived.Outline
import Derived.IntWalk
import Derived.Deep.RegionHeld3
import Derived.Deep.DeepCutAuto
import Derived.Laws.BitsLemmas
import Derived.BigRegion
import Derived.WalkSpells
/- Digits of numbers in a base, and the estimate of a digit of a quotient: plain facts on lists of whole numbers. -/
set_option linter.unusedVariables false
namespace Go.Proofs.YtogakaiibijjpaaGreatDoor.DDig

/-- The number with some digits in base b. -/
def val (b : Int) : List Int → Int
  | [] => 0
  | d :: t => d + b * val b t

def Dig (b : Int) (xs : List Int) : Prop := ∀ x, x ∈ xs → 0 ≤ x ∧ x < b

@[simp] theorem val_nil (b : Int) : val b [] = 0 := rfl
theorem val_cons (b d : Int) (t : List Int) : val b (d :: t) = d + b * val b t := rfl

theorem Dig.nil (b : Int) : Dig b [] := by intro x h; cases h
theorem Dig.cons {b d : Int} {t : List Int} (h0 : 0 ≤ d) (h1 : d < b) (h : Dig b t) : Dig b (d :: t) := by
  intro x hx
  cases hx with
  | head => exact ⟨h0, h1⟩
  | tail _ hx => exact h x hx
theorem Dig.head {b d : Int} {t : List Int} (h : Dig b (d :: t)) : 0 ≤ d ∧ d < b := h d (by simp)
theorem Dig.tail {b d : Int} {t : List Int} (h : Dig b (d :: t)) : Dig b t := fun x hx => h x (by simp [hx])
theorem Dig.append {b : Int} {xs ys : List Int} (h : Dig b xs) (g : Dig b ys) : Dig b (xs ++ ys) := by
  intro x hx
  rcases List.mem_append.1 hx with hx | hx
  · exact h x hx
  · exact g x hx
theorem Dig.left {b : Int} {xs ys : List Int} (h : Dig b (xs ++ ys)) : Dig b xs := fun x hx => h x (by simp [hx])
theorem Dig.right {b : Int} {xs ys : List Int} (h : Dig b (xs ++ ys)) : Dig b ys := fun x hx => h x (by simp [hx])
theorem Dig.take {b : Int} {xs : List Int} (h : Dig b xs) (n : Nat) : Dig b (xs.take n) := fun x hx => h x (List.mem_of_mem_take hx)
theorem Dig.drop {b : Int} {xs : List Int} (h : Dig b xs) (n : Nat) : Dig b (xs.drop n) := fun x hx => h x (List.mem_of_mem_drop hx)
theorem Dig.get {b : Int} {xs : List Int} (h : Dig b xs) {i : Nat} (hi : i < xs.length) : 0 ≤ xs.getD i 0 ∧ xs.getD i 0 < b := by
  apply h; simp [List.getD_eq_getElem?_getD, hi]
theorem Dig.getB {b : Int} {xs : List Int} (hb : 0 < b) (h : Dig b xs) (i : Nat) : 0 ≤ xs.getD i 0 ∧ xs.getD i 0 < b := by
  by_cases hi : i < xs.length
  · exact h.get hi
  · rw [List.getD_eq_getElem?_getD, List.getElem?_eq_none (by omega)]; simpa using hb
theorem Dig.set {b : Int} {xs : List Int} (h : Dig b xs) (i : Nat) {v : Int} (h0 : 0 ≤ v) (h1 : v < b) : Dig b (xs.set i v) := by
  intro x hx
  rcases List.mem_or_eq_of_mem_set hx with h2 | h2
  · exact h x h2
  · subst h2; exact ⟨h0, h1⟩
theorem Dig.replicate {b : Int} (hb : 0 < b) (n : Nat) : Dig b (List.replicate n 0) := by
  intro x hx; rw [List.mem_replicate] at hx; obtain ⟨_, rfl⟩ := hx; exact ⟨Int.le_refl _, hb⟩

/-- A power of the base. -/
def pw (b : Int) : Nat → Int
  | 0 => 1
  | n + 1 => b * pw b n

@[simp] theorem pw_zero (b : Int) : pw b 0 = 1 := rfl
theorem pw_succ (b : Int) (n : Nat) : pw b (n + 1) = b * pw b n := rfl
theorem pw_one (b : Int) : pw b 1 = b := by simp [pw]
theorem pw_add (b : Int) (n m : Nat) : pw b (n + m) = pw b n * pw b m := by
  induction n with
  | zero => simp
  | succ n ih => rw [Nat.succ_add, pw_succ, pw_succ, ih, Int.mul_assoc]
theorem pw_pos {b : Int} (hb : 0 < b) (n : Nat) : 0 < pw b n := by
  induction n with
  | zero => simp
  | succ n ih => exact Int.mul_pos hb ih
theorem pw_mono {b : Int} (hb : 1 ≤ b) {n m : Nat} (h : n ≤ m) : pw b n ≤ pw b m := by
  obtain ⟨d, rfl⟩ : ∃ d, m = n + d := ⟨m - n, by omega⟩
  rw [pw_add]
  have h1 := pw_pos (b := b) (by omega) n
  have h2 := pw_pos (b := b) (by omega) d
  have : pw b n * 1 ≤ pw b n * pw b d := Int.mul_le_mul_of_nonneg_left (by omega) (by omega)
  omega

theorem val_append (b : Int) (xs ys : List Int) : val b (xs ++ ys) = val b xs + pw b xs.length * val b ys := by
  induction xs with
  | nil => simp
  | cons d t ih => simp only [List.cons_append, val_cons, ih, List.length_cons, pw_succ]; grind

theorem val_snoc (b : Int) (xs : List Int) (d : Int) : val b (xs ++ [d]) = val b xs + pw b xs.length * d := by
  rw [val_append]; simp [val_cons]

theorem val_zeros (b : Int) (n : Nat) : val b (List.replicate n 0) = 0 := by
  induction n with
  | zero => rfl
  | succ n ih => rw [List.replicate_succ, val_cons, ih]; simp

theorem val_nonneg {b : Int} (hb : 0 < b) {xs : List Int} (h : Dig b xs) : 0 ≤ val b xs := by
  induction xs with
  | nil => simp
  | cons d t ih =>
    have := h.head
    have := ih h.tail
    have : 0 ≤ b * val b t := Int.mul_nonneg (by omega) this
    rw [val_cons]; omega

theorem val_lt {b : Int} (hb : 0 < b) {xs : List Int} (h : Dig b xs) : val b xs < pw b xs.length := by
  induction xs with
  | nil => simp
  | cons d t ih =>
    have h1 := h.head
    have h2 := ih h.tail
    have : b * (val b t + 1) ≤ b * pw b t.length := Int.mul_le_mul_of_nonneg_left (by omega) (by omega)
    rw [val_cons, List.length_cons, pw_succ]
    rw [Int.mul_add, Int.mul_one] at this; omega

/-- No zero at the end. -/
def Norm (xs : List Int) : Prop := ∀ h : xs ≠ [], xs.getLast h ≠ 0

theorem Norm.nil : Norm [] := fun h => absurd rfl h
theorem norm_snoc {xs : List Int} {d : Int} : Norm (xs ++ [d]) ↔ d ≠ 0 := by
  constructor
  · intro h; have := h (by simp); simpa using this
  · intro h _; simpa using h
theorem norm_iff {xs : List Int} : Norm xs ↔ (0 < xs.length → xs.getD (xs.length - 1) 0 ≠ 0) := by
  rcases List.eq_nil_or_concat xs with rfl | ⟨ys, d, rfl⟩
  · simp [Norm]
  · rw [List.concat_eq_append, norm_snoc]
    simp [List.getD_eq_getElem?_getD]

/-- The greatest digit's place tells how great a normal number is. -/
theorem val_ge {b : Int} (hb : 0 < b) {xs : List Int} (h : Dig b xs) (hn : Norm xs) (hx : xs ≠ []) : pw b (xs.length - 1) ≤ val b xs := by
  rcases List.eq_nil_or_concat xs with rfl | ⟨ys, d, rfl⟩
  · exact absurd rfl hx
  · rw [List.concat_eq_append] at h hn ⊢
    rw [norm_snoc] at hn
    rw [val_snoc]
    have h1 := (h.right).head
    have h2 := val_nonneg hb h.left
    have h3 := pw_pos hb ys.length
    have : pw b ys.length * 1 ≤ pw b ys.length * d := Int.mul_le_mul_of_nonneg_left (by omega) (by omega)
    simp; omega

theorem val_eq_zero {b : Int} (hb : 0 < b) {xs : List Int} (h : Dig b xs) (hn : Norm xs) : val b xs = 0 ↔ xs = [] := by
  constructor
  · intro hv
    apply Classical.byContradiction
    intro hx
    have := val_ge hb h hn hx
    have := pw_pos hb (xs.length - 1)
    omega
  · rintro rfl; rfl

theorem val_pos {b : Int} (hb : 0 < b) {xs : List Int} (h : Dig b xs) (hn : Norm xs) (hx : xs ≠ []) : 0 < val b xs := by
  have := val_ge hb h hn hx
  have := pw_pos hb (xs.length - 1)
  omega

/-- A longer normal number is greater. -/
theorem val_lt_of_length {b : Int} (hb : 1 < b) {xs ys : List Int} (hx : Dig b xs) (hy : Dig b ys) (hn : Norm ys) (h : xs.length < ys.length) : val b xs < val b ys := by
  have h1 := val_lt (by omega) hx
  have h2 := val_ge (b := b) (by omega) hy hn (by intro e; subst e; simp at h)
  have h3 := pw_mono (b := b) (by omega) (show xs.length ≤ ys.length - 1 by omega)
  omega

theorem euclid {b x y u v : Int} (hx : 0 ≤ x ∧ x < b) (hy : 0 ≤ y ∧ y < b) (h : x + b * u = y + b * v) : x = y ∧ u = v := by
  have hb : 0 < b := by omega
  have e : (x + b * u) % b = (y + b * v) % b := by rw [h]
  rw [Int.add_mul_emod_self_left, Int.add_mul_emod_self_left, Int.emod_eq_of_lt hx.1 hx.2, Int.emod_eq_of_lt hy.1 hy.2] at e
  subst e
  have : b * u = b * v := by omega
  exact ⟨rfl, Int.eq_of_mul_eq_mul_left (by omega) this⟩

/-- Digits are determined by the number and their count. -/
theorem val_inj {b : Int} : ∀ {xs ys : List Int}, Dig b xs → Dig b ys → xs.length = ys.length → val b xs = val b ys → xs = ys
  | [], [], _, _, _, _ => rfl
  | [], _ :: _, _, _, h, _ => by simp at h
  | _ :: _, [], _, _, h, _ => by simp at h
  | x :: xs, y :: ys, hx, hy, hl, hv => by
    rw [val_cons, val_cons] at hv
    obtain ⟨rfl, e⟩ := euclid hx.head hy.head hv
    rw [val_inj hx.tail hy.tail (by simpa using hl) e]

/-- Normal digits are determined by the number. -/
theorem val_norm_inj {b : Int} (hb : 1 < b) {xs ys : List Int} (hx : Dig b xs) (hy : Dig b ys) (nx : Norm xs) (ny : Norm ys) (h : val b xs = val b ys) : xs = ys := by
  have h1 : ¬ xs.length < ys.length := fun g => by have := val_lt_of_length hb hx hy ny g; omega
  have h2 : ¬ ys.length < xs.length := fun g => by have := val_lt_of_length hb hy hx nx g; omega
  exact val_inj hx hy (by omega) h

/-- The digits without zeros at the end. -/
def trim (xs : List Int) : List Int := (xs.reverse.dropWhile (· == 0)).reverse

theorem trim_nil : trim [] = [] := rfl
theorem trim_snoc_zero (xs : List Int) : trim (xs ++ [0]) = trim xs := by simp [trim]
theorem trim_snoc {xs : List Int} {d : Int} (h : d ≠ 0) : trim (xs ++ [d]) = xs ++ [d] := by simp [trim, h]
theorem norm_trim (xs : List Int) : Norm (trim xs) := by
  induction h : xs.length generalizing xs with
  | zero => rw [List.eq_nil_of_length_eq_zero h]; exact Norm.nil
  | succ n ih =>
    rcases List.eq_nil_or_concat xs with rfl | ⟨ys, d, rfl⟩
    · exact Norm.nil
    · rw [List.concat_eq_append] at h ⊢
      by_cases e : d = 0
      · subst e; rw [trim_snoc_zero]; exact ih ys (by simpa using h)
      · rw [trim_snoc e]; exact norm_snoc.2 e
theorem trim_norm {xs : List Int} (h : Norm xs) : trim xs = xs := by
  rcases List.eq_nil_or_concat xs with rfl | ⟨ys, d, rfl⟩
  · rfl
  · rw [List.concat_eq_append] at h ⊢; exact trim_snoc (norm_snoc.1 h)
theorem val_trim (b : Int) (xs : List Int) : val b (trim xs) = val b xs := by
  induction h : xs.length generalizing xs with
  | zero => rw [List.eq_nil_of_length_eq_zero h]; rfl
  | succ n ih =>
    rcases List.eq_nil_or_concat xs with rfl | ⟨ys, d, rfl⟩
    · rfl
    · rw [List.concat_eq_append] at h ⊢
      by_cases e : d = 0
      · subst e; rw [trim_snoc_zero, ih ys (by simpa using h), val_snoc]; simp
      · rw [trim_snoc e]
theorem dig_trim {b : Int} {xs : List Int} (h : Dig b xs) : Dig b (trim xs) := by
  intro x hx
  unfold trim at hx
  rw [List.mem_reverse] at hx
  exact h x (by simpa using (List.dropWhile_suffix (l := xs.reverse) (· == 0)).subset hx)
theorem trim_length_le (xs : List Int) : (trim xs).length ≤ xs.length := by
  unfold trim
  rw [List.length_reverse]
  have := (List.dropWhile_suffix (l := xs.reverse) (· == 0)).length_le
  simpa using this
/-- trim as taking digits. -/
theorem trim_take (xs : List Int) : ∃ n, n ≤ xs.length ∧ trim xs = xs.take n := by
  induction h : xs.length generalizing xs with
  | zero => rw [List.eq_nil_of_length_eq_zero h]; exact ⟨0, by simp, rfl⟩
  | succ n ih =>
    rcases List.eq_nil_or_concat xs with rfl | ⟨ys, d, rfl⟩
    · exact ⟨0, by simp, rfl⟩
    · rw [List.concat_eq_append] at h ⊢
      by_cases e : d = 0
      · subst e
        obtain ⟨k, h1, h2⟩ := ih ys (by simpa using h)
        have hl : ys.length = n := by simpa using h
        refine ⟨k, by omega, ?_⟩
        rw [trim_snoc_zero, h2, List.take_append_of_le_length (by omega)]
      · exact ⟨n + 1, by omega, by rw [trim_snoc e, List.take_of_length_le (by omega)]⟩

/-- The normal digits of a number. -/
def IsNum (b : Int) (xs : List Int) : Prop := Dig b xs ∧ Norm xs

theorem IsNum.trim {b : Int} {xs : List Int} (h : Dig b xs) : IsNum b (trim xs) := ⟨dig_trim h, norm_trim xs⟩

theorem set_take_drop {xs : List Int} {i : Nat} (v : Int) (h : i < xs.length) : xs.set i v = xs.take i ++ v :: xs.drop (i + 1) := by
  rw [List.set_eq_take_append_cons_drop, if_pos h]

theorem val_set {b : Int} {xs : List Int} {i : Nat} (v : Int) (h : i < xs.length) : val b (xs.set i v) = val b xs + pw b i * (v - xs.getD i 0) := by
  have e : xs = xs.take i ++ xs.getD i 0 :: xs.drop (i + 1) := by
    rw [List.getD_eq_getElem?_getD, List.getElem?_eq_getElem h]
    simp
  rw [set_take_drop v h, val_append, val_cons]
  have e2 : val b xs = val b (xs.take i) + pw b (xs.take i).length * (xs.getD i 0 + b * val b (xs.drop (i + 1))) := by
    rw [← val_cons, ← val_append, ← e]
  rw [e2]
  have : (xs.take i).length = i := by rw [List.length_take]; omega
  rw [this]; grind

theorem val_take_succ {b : Int} {xs : List Int} {i : Nat} (h : i < xs.length) : val b (xs.take (i + 1)) = val b (xs.take i) + pw b i * xs.getD i 0 := by
  rw [List.take_succ_eq_append_getElem h, val_snoc, List.length_take, List.getD_eq_getElem?_getD, List.getElem?_eq_getElem h]
  simp; rw [Nat.min_eq_left (by omega)]

theorem val_take_drop (b : Int) (xs : List Int) (i : Nat) (h : i ≤ xs.length) : val b xs = val b (xs.take i) + pw b i * val b (xs.drop i) := by
  have : val b xs = val b (xs.take i ++ xs.drop i) := by rw [List.take_append_drop]
  rw [this, val_append, List.length_take, Nat.min_eq_left h]

/-- What the loop of the estimate keeps: q is not less than the digit. U = (u0 B B + u1 B + u2) P + l, V = (v1 B + v2) P + m. -/
structure Est (B P V U v1 v2 u2 high q r : Int) : Prop where
  hB : 1 < B
  hP : 0 < P
  split : high = q * v1 + r
  r0 : 0 ≤ r
  ge : U / V ≤ q

structure Top (B P V U v1 v2 u2 high : Int) : Prop where
  hB : 1 < B
  hP : 0 < P
  v1p : 0 < v1
  v10 : v1 < B
  v20 : 0 ≤ v2 ∧ v2 < B
  u20 : 0 ≤ u2 ∧ u2 < B
  h0 : 0 ≤ high
  vlo : (v1 * B + v2) * P ≤ V
  vhi : V < (v1 * B + v2 + 1) * P
  ulo : (high * B + u2) * P ≤ U
  uhi : U < (high * B + u2 + 1) * P
  lt : U < B * V

theorem Top.Vpos {B P V U v1 v2 u2 high : Int} (h : Top B P V U v1 v2 u2 high) : 0 < V := by
  have h1 := h.vlo
  have : 0 < (v1 * B + v2) * P := Int.mul_pos (by have := Int.mul_pos h.v1p (show 0 < B by have := h.hB; omega); have := h.v20; omega) h.hP
  omega

theorem Top.U0 {B P V U v1 v2 u2 high : Int} (h : Top B P V U v1 v2 u2 high) : 0 ≤ U := by
  have h1 := h.ulo
  have : 0 ≤ (high * B + u2) * P := Int.mul_nonneg (by have := Int.mul_nonneg h.h0 (show 0 ≤ B by have := h.hB; omega); have := h.u20; omega) (by have := h.hP; omega)
  omega

theorem Top.Qlt {B P V U v1 v2 u2 high : Int} (h : Top B P V U v1 v2 u2 high) : U / V < B := Int.ediv_lt_of_lt_mul h.Vpos h.lt

theorem Top.Q0 {B P V U v1 v2 u2 high : Int} (h : Top B P V U v1 v2 u2 high) : 0 ≤ U / V := Int.ediv_nonneg h.U0 (by have := h.Vpos; omega)

/-- The leading digits bound the number: high ≤ v1 B + B - 1. -/
theorem Top.high_le {B P V U v1 v2 u2 high : Int} (h : Top B P V U v1 v2 u2 high) : high < (v1 + 1) * B := by
  apply Int.lt_of_not_ge
  intro hge
  have hB := h.hB
  have hP := h.hP
  -- U ≥ high B P ≥ (v1+1) B B P > B V
  have h1 : (v1 + 1) * B * (B * P) ≤ high * (B * P) := Int.mul_le_mul_of_nonneg_right hge (Int.mul_nonneg (by omega) (by omega))
  have h2 : (v1 * B + v2 + 1) * (B * P) ≤ (v1 * B + B) * (B * P) := Int.mul_le_mul_of_nonneg_right (by have := h.v20; omega) (Int.mul_nonneg (by omega) (by omega))
  have h3 := h.ulo
  have h4 : 0 ≤ u2 * P := Int.mul_nonneg h.u20.1 (by omega)
  have h5 : B * V < B * ((v1 * B + v2 + 1) * P) := Int.mul_lt_mul_of_pos_left h.vhi (by omega)
  have h6 := h.lt
  grind

theorem est_start {B P V U v1 v2 u2 high : Int} (h : Top B P V U v1 v2 u2 high) : Est B P V U v1 v2 u2 high (high / v1) (high % v1) := by
  refine ⟨h.hB, h.hP, ?_, Int.emod_nonneg _ (by have := h.v1p; omega), ?_⟩
  · have := Int.mul_ediv_add_emod high v1; grind
  · rw [Int.le_ediv_iff_mul_le h.v1p]
    have hB := h.hB
    have hP := h.hP
    apply Int.le_of_lt_add_one
    -- Q v1 (B P) ≤ Q V ≤ U < (high + 1) (B P)
    have hBP : 0 < B * P := Int.mul_pos (by omega) hP
    apply Int.lt_of_mul_lt_mul_right _ (Int.le_of_lt hBP)
    have h1 : U / V * V ≤ U := Int.ediv_mul_le _ (by have := h.Vpos; omega)
    have h2 : U / V * ((v1 * B + v2) * P) ≤ U / V * V := Int.mul_le_mul_of_nonneg_left h.vlo h.Q0
    have h3 : 0 ≤ U / V * (v2 * P) := Int.mul_nonneg h.Q0 (Int.mul_nonneg h.v20.1 (by omega))
    have h4 : (high * B + u2 + 1) * P ≤ (high * B + B) * P := Int.mul_le_mul_of_nonneg_right (by have := h.u20; omega) (by omega)
    have h5 := h.uhi
    grind

theorem est_step {B P V U v1 v2 u2 high q r : Int} (h : Top B P V U v1 v2 u2 high) (e : Est B P V U v1 v2 u2 high q r) (hc : B ≤ q ∨ r * B + u2 < q * v2) : Est B P V U v1 v2 u2 high (q - 1) (r + v1) := by
  refine ⟨h.hB, h.hP, ?_, by have := e.r0; have := h.v1p; omega, ?_⟩
  · have := e.split; grind
  · have hB := h.hB
    have hP := h.hP
    rcases hc with hc | hc
    · have := h.Qlt; omega
    · have hq : 0 ≤ q := Int.le_trans h.Q0 e.ge
      have e1 : q * (v1 * B + v2) = q * v1 * B + q * v2 := by grind
      have e2 : high * B = q * v1 * B + r * B := by rw [e.split]; grind
      have : U / V < q := by
        apply Int.ediv_lt_of_lt_mul h.Vpos
        -- U < (high B + u2 + 1) P ≤ q (v1 B + v2) P ≤ q V
        have h1 : (high * B + u2 + 1) * P ≤ (q * (v1 * B + v2)) * P := Int.mul_le_mul_of_nonneg_right (by omega) (by omega)
        have h2 : q * ((v1 * B + v2) * P) ≤ q * V := Int.mul_le_mul_of_nonneg_left h.vlo hq
        have h3 := h.uhi
        grind
      omega

/-- Where the loop ends, the estimate is the digit or one more, and less than B. -/
theorem est_end {B P V U v1 v2 u2 high q r : Int} (h : Top B P V U v1 v2 u2 high) (e : Est B P V U v1 v2 u2 high q r) (hc : B ≤ r ∨ (q < B ∧ q * v2 ≤ r * B + u2)) : q < B ∧ U / V ≤ q ∧ q ≤ U / V + 1 := by
  have hB := h.hB
  have hP := h.hP
  have hq : 0 ≤ q := Int.le_trans h.Q0 e.ge
  have hqB : q < B := by
    rcases hc with hc | hc
    · apply Int.lt_of_not_ge
      intro hge
      have h1 : B * v1 ≤ q * v1 := Int.mul_le_mul_of_nonneg_right hge (by have := h.v1p; omega)
      have h2 := h.high_le
      have h3 := e.split
      grind
    · exact hc.1
  refine ⟨hqB, e.ge, ?_⟩
  have hBP : 0 < B * P := Int.mul_pos (by omega) hP
  suffices hs : (q - 1) * V ≤ U by
    have : q - 1 ≤ U / V := (Int.le_ediv_iff_mul_le h.Vpos).2 hs
    omega
  rcases hc with hc | hc
  · -- q V ≤ q (v1 + 1) B P ≤ high B P ≤ U
    have h1 : q * V ≤ q * ((v1 * B + B) * P) := by
      apply Int.mul_le_mul_of_nonneg_left _ hq
      have : (v1 * B + v2 + 1) * P ≤ (v1 * B + B) * P := Int.mul_le_mul_of_nonneg_right (by have := h.v20; omega) (by omega)
      have := h.vhi; omega
    have h2 : (q * v1 + q) * (B * P) ≤ high * (B * P) := Int.mul_le_mul_of_nonneg_right (by have := e.split; omega) (by omega)
    have h3 : 0 ≤ u2 * P := Int.mul_nonneg h.u20.1 (by omega)
    have h4 := h.ulo
    have h5 := h.Vpos
    grind
  · -- q V < q (v1 B + v2 + 1) P ≤ (high B + u2 + q) P ≤ U + q P ≤ U + V
    have h1 : q * V ≤ q * ((v1 * B + v2 + 1) * P) := Int.mul_le_mul_of_nonneg_left (by have := h.vhi; omega) hq
    have e1 : q * (v1 * B + v2) = q * v1 * B + q * v2 := by grind
    have e2 : high * B = q * v1 * B + r * B := by rw [e.split]; grind
    have h2 : (q * (v1 * B + v2) + q) * P ≤ (high * B + u2 + q) * P := Int.mul_le_mul_of_nonneg_right (by have := hc.2; omega) (by omega)
    have h3 : q * P ≤ B * P := Int.mul_le_mul_of_nonneg_right (by omega) (by omega)
    have h4 : 1 * (B * P) ≤ v1 * (B * P) := Int.mul_le_mul_of_nonneg_right (by have := h.v1p; omega) (by omega)
    have h5 : 0 ≤ v2 * P := Int.mul_nonneg h.v20.1 (by omega)
    have h6 := h.vlo
    have h7 := h.ulo
    grind

/-- The difference is not negative: the estimate was right. -/
theorem digit_yes {U V q t x M : Int} (hV : 0 < V) (hM : V ≤ M) (h1 : U / V ≤ q) (hx : 0 ≤ x ∧ x < M) (e : U - q * V = x + M * t) (ht : 0 ≤ t) : q = U / V ∧ t = 0 ∧ x = U % V := by
  have h0 : 0 ≤ M * t := Int.mul_nonneg (by omega) ht
  have h2 : q * V ≤ U := by omega
  have h3 : q ≤ U / V := (Int.le_ediv_iff_mul_le hV).2 h2
  have hq : q = U / V := by omega
  have h4 := Int.mul_ediv_add_emod U V
  have h5 := Int.emod_lt_of_pos U hV
  have h6 : V * (U / V) = q * V := by rw [hq, Int.mul_comm]
  have h7 : t = 0 := by
    apply Classical.byContradiction
    intro hne
    have : M * 1 ≤ M * t := Int.mul_le_mul_of_nonneg_left (by omega) (by omega)
    omega
  subst h7
  refine ⟨hq, rfl, ?_⟩
  simp at e
  omega

/-- It is negative: the estimate was one too great. -/
theorem digit_no {U V q t x M : Int} (hV : 0 < V) (hM : V ≤ M) (h1 : q ≤ U / V + 1) (hx : 0 ≤ x ∧ x < M) (e : U - q * V = x + M * t) (ht : t < 0) : q = U / V + 1 ∧ t = -1 ∧ x = U % V - V + M := by
  have h2 : M * t ≤ M * (-1) := Int.mul_le_mul_of_nonneg_left (by omega) (by omega)
  have h3 : U < q * V := by omega
  have h4 : U / V < q := Int.ediv_lt_of_lt_mul hV h3
  have hq : q = U / V + 1 := by omega
  have h5 := Int.mul_ediv_add_emod U V
  have h6 := Int.emod_lt_of_pos U hV
  have h7 := Int.emod_nonneg U (show V ≠ 0 by omega)
  have h8 : q * V = V * (U / V) + V := by rw [hq]; grind
  have h9 : t = -1 := by
    apply Classical.byContradiction
    intro hne
    have : M * t ≤ M * (-2) := Int.mul_le_mul_of_nonneg_left (by omega) (by omega)
    omega
  subst h9
  refine ⟨hq, rfl, ?_⟩
  omega

/-- The first digit from above that differs decides. -/
theorem val_cmp {b : Int} (hb : 0 < b) : ∀ {xs ys : List Int} {i : Nat}, Dig b xs → Dig b ys → xs.length = ys.length → i < xs.length → (∀ j, i < j → j < xs.length → xs.getD j 0 = ys.getD j 0) → xs.getD i 0 < ys.getD i 0 → val b xs < val b ys := by
  intro xs ys i hx hy hl hi heq hlt
  have e : xs.drop (i + 1) = ys.drop (i + 1) := by
    apply List.ext_getElem
    · simp; omega
    · intro n h1 h2
      simp only [List.getElem_drop]
      have := heq (i + 1 + n) (by omega) (by simp at h1; omega)
      simp at h1 h2
      rw [List.getD_eq_getElem?_getD, List.getD_eq_getElem?_getD, List.getElem?_eq_getElem (by omega), List.getElem?_eq_getElem (by omega)] at this
      simpa using this
  rw [val_take_drop b xs (i + 1) (by omega), val_take_drop b ys (i + 1) (by omega), e, val_take_succ hi, val_take_succ (by omega)]
  have h1 := val_lt hb (hx.take i)
  have h2 := val_nonneg hb (hy.take i)
  rw [List.length_take, Nat.min_eq_left (by omega)] at h1
  have h3 : pw b i * (xs.getD i 0 + 1) ≤ pw b i * ys.getD i 0 := Int.mul_le_mul_of_nonneg_left (by omega) (by have := pw_pos hb i; omega)
  rw [Int.mul_add] at h3
  omega

theorem gcd_step (a b : Int) : Int.gcd b (a % b) = Int.gcd a b := by
  rw [Int.emod_def, Int.sub_eq_add_neg, ← Int.mul_neg, Int.gcd_add_mul_left_right, Int.gcd_comm]

end Go.Proofs.YtogakaiibijjpaaGreatDoor.DDig

/- The words of the walks: worlds that grow, slices that are read, blocks of the call's own, make and append on them. -/
set_option linter.unusedVariables false
set_option linter.unusedSimpArgs false
namespace Go.Proofs.YtogakaiibijjpaaGreatDoor
open Go.RowKit
open DDig

/-- A fact kept from the walk. -/
theorem Hid.mk {p : Prop} (h : p) : Hid p := h

/-- The world has grown: what was there is as it was. -/
abbrev X (w w' : World) : Prop := Below w.heap.size w w'
theorem X.refl (w : World) : X w w := Below.refl _ _
theorem X.trans {a b c : World} (h : X a b) (k : X b c) : X a c := Below.trans h (Below.mono k h.size)
theorem X.alloc {a b : World} (h : X a b) (o : Obj) : X a (b.alloc o) := Below.alloc h h.size o
theorem X.drewN {a b : World} (h : X a b) (n : Nat) : X a (b.drewN n) := ⟨h.os, h.tape, h.output, h.size, h.block⟩
theorem X.drew {a b : World} (h : X a b) : X a b.drew := ⟨h.os, h.tape, h.output, h.size, h.block⟩
theorem X.set {a b : World} (h : X a b) {p : Addr} (hg : a.heap.size ≤ p.block) (v : Value) : X a (b.setCell p v) := Below.setCell h hg v
theorem X.cell {w w' : World} (h : X w w') {a : Addr} {v : Value} (hc : w.cell? a = some v) : w'.cell? a = some v := (Below.cell h (World.block_lt_of_cell? w a hc)).trans hc

/-- What a call comes to: a value, in a world that has grown. -/
def Ret (w : World) (R : World → Value → Prop) (e : Ending) (w' : World) : Prop := (∃ v, e = .returned v ∧ R w' v) ∧ X w w'
theorem Ret.mono {w : World} {R S : World → Value → Prop} {e : Ending} {w' : World} (h : Ret w R e w') (g : ∀ v, X w w' → R w' v → S w' v) : Ret w S e w' := by
  obtain ⟨⟨v, e, r⟩, x⟩ := h
  exact ⟨⟨v, e, g v x r⟩, x⟩

/-- A slice of whole numbers that is read. -/
def Rd (w : World) (k : IntKind) (A : Option Addr) (xs : List Int) : Prop :=
  xs.length ≤ 9223372036854775807 ∧ (0 < xs.length → ∃ b o, A = some ⟨b, o, none⟩ ∧ ∀ j, j < xs.length → w.cell? ⟨b, o + j, none⟩ = some (.int k (xs.getD j 0)))
theorem Rd.x {w w' : World} {k : IntKind} {A : Option Addr} {xs : List Int} (h : Rd w k A xs) (hx : X w w') : Rd w' k A xs :=
  ⟨h.1, fun h0 => by obtain ⟨b, o, e, hc⟩ := h.2 h0; exact ⟨b, o, e, fun j hj => hx.cell (hc j hj)⟩⟩
theorem Rd.nil (w : World) (k : IntKind) (A : Option Addr) : Rd w k A [] := ⟨by simp, fun h => absurd h (by simp)⟩
theorem Rd.take {w : World} {k : IntKind} {A : Option Addr} {xs : List Int} (h : Rd w k A xs) (n : Nat) : Rd w k A (xs.take n) := by
  refine ⟨by rw [List.length_take]; have := h.1; omega, fun h0 => ?_⟩
  rw [List.length_take] at h0
  obtain ⟨b, o, e, hc⟩ := h.2 (by omega)
  refine ⟨b, o, e, fun j hj => ?_⟩
  rw [List.length_take] at hj
  rw [hc j (by omega), List.getD_eq_getElem?_getD, List.getD_eq_getElem?_getD, List.getElem?_take, if_pos (by omega)]

def nums (k : IntKind) (xs : List Int) : List Value := xs.map fun x => .int k x
theorem nums_length (k : IntKind) (xs : List Int) : (nums k xs).length = xs.length := by simp [nums]
theorem nums_get {k : IntKind} {xs : List Int} {j : Nat} (h : j < xs.length) : (nums k xs)[j]? = some (.int k (xs.getD j 0)) := by simp [nums, h]
theorem nums_set (k : IntKind) (xs : List Int) (j : Nat) (x : Int) : nums k (xs.set j x) = (nums k xs).set j (.int k x) := by simp [nums, List.map_set]
theorem nums_zeros (k : IntKind) (n : Nat) : nums k (List.replicate n 0) = List.replicate n (.int k 0) := by simp [nums]

/-- A block of the call's own: its cells. -/
def Blk (w : World) (g : Nat) (e : TypeId) (cs : List Value) : Prop := w.heap[g]? = some (.cells cs.toArray e (0, 0))
theorem Blk.lt {w : World} {g : Nat} {e : TypeId} {cs : List Value} (h : Blk w g e cs) : g < w.heap.size := (Array.getElem?_eq_some_iff.1 h).1
theorem Blk.cell {w : World} {g : Nat} {e : TypeId} {cs : List Value} (h : Blk w g e cs) {j : Nat} {v : Value} (hj : cs[j]? = some v) : w.cell? ⟨g, j, none⟩ = some v := by
  unfold World.cell?; unfold Blk at h; simp only [h]; simpa using hj
theorem Blk.frozen {w : World} {g : Nat} {e : TypeId} {cs : List Value} (h : Blk w g e cs) (j : Nat) : w.frozen? ⟨g, j, none⟩ = false := by
  unfold World.frozen?; unfold Blk at h; simp [h]
theorem Blk.x {w w' : World} {g : Nat} {e : TypeId} {cs : List Value} (h : Blk w g e cs) (hx : X w w') : Blk w' g e cs := (hx.block g h.lt).trans h
theorem Blk.set {w : World} {g : Nat} {e : TypeId} {cs : List Value} (h : Blk w g e cs) (j : Nat) (v : Value) : Blk (w.setCell ⟨g, j, none⟩ v) g e (cs.set j v) := by
  unfold Blk at h ⊢
  simp only [World.setCell, Array.getElem?_modify, h]
  simp
theorem Blk.other {w : World} {g : Nat} {e : TypeId} {cs : List Value} (h : Blk w g e cs) {p : Addr} (hp : p.block ≠ g) (v : Value) : Blk (w.setCell p v) g e cs := by
  unfold Blk at h ⊢
  rw [Below.heap_setCell _ _ _ _ (by omega)]; exact h
theorem Blk.drewN {w : World} {g : Nat} {e : TypeId} {cs : List Value} (h : Blk w g e cs) (n : Nat) : Blk (w.drewN n) g e cs := h
theorem Blk.new (w : World) (cs : Array Value) (e : TypeId) : Blk (w.alloc (.cells cs e)) w.heap.size e cs.toList := by
  show (w.heap.push _)[w.heap.size]? = _
  simp
theorem Blk.new_at (w : World) {g : Nat} (cs : Array Value) (e : TypeId) (hg : g = w.heap.size) : Blk (w.alloc (.cells cs e)) g e cs.toList := by
  subst hg; exact Blk.new w cs e
theorem Blk.int {w : World} {g : Nat} {e : TypeId} {k : IntKind} {xs : List Int} (h : Blk w g e (nums k xs)) {j : Nat} (hj : j < xs.length) : w.cell? ⟨g, j, none⟩ = some (.int k (xs.getD j 0)) := h.cell (nums_get hj)
theorem Blk.rd {w : World} {g : Nat} {e : TypeId} {k : IntKind} {xs : List Int} (h : Blk w g e (nums k xs)) (hm : xs.length ≤ 9223372036854775807) : Rd w k (some ⟨g, 0, none⟩) xs :=
  ⟨hm, fun _ => ⟨g, 0, rfl, fun j hj => by rw [Nat.zero_add]; exact h.cell (nums_get hj)⟩⟩

theorem two_cells {w : World} {g : Nat} {t0 t1 : Value} (v0 v1 : Value) (c0 : w.cell? ⟨g, 0, none⟩ = some t0) (c1 : w.cell? ⟨g, 1, none⟩ = some t1) :
    (w.setCell ⟨g, 0, none⟩ v0).cell? ⟨g, 0, none⟩ = some v0 ∧ ((w.setCell ⟨g, 0, none⟩ v0).setCell ⟨g, 1, none⟩ v1).cell? ⟨g, 1, none⟩ = some v1 :=
  ⟨World.cell?_setCell_same w _ _ c0, World.cell?_setCell_same (u := t1) _ _ _ (by rw [World.cell?_setCell_other _ _ _ _ (by simp)]; exact c1)⟩

/-- Cells that hold no whole numbers: a store among them turns no slice of whole numbers. -/
def NoInt (cs : List Value) : Prop := ∀ v, v ∈ cs → ∀ k x, v ≠ .int k x
theorem NoInt.set {cs : List Value} (h : NoInt cs) (j : Nat) {v : Value} (hv : ∀ k x, v ≠ .int k x) : NoInt (cs.set j v) := by
  intro u hu
  rcases List.mem_or_eq_of_mem_set hu with h1 | h1
  · exact h u h1
  · subst h1; exact hv
theorem Rd.put {w : World} {k : IntKind} {A : Option Addr} {xs : List Int} (h : Rd w k A xs) {g : Nat} {e : TypeId} {cs : List Value} (hb : Blk w g e cs) (hn : NoInt cs) (j : Nat) (v : Value) : Rd (w.setCell ⟨g, j, none⟩ v) k A xs := by
  refine ⟨h.1, fun h0 => ?_⟩
  obtain ⟨b, o, ha, hc⟩ := h.2 h0
  refine ⟨b, o, ha, fun i hi => ?_⟩
  have hi' := hc i hi
  rw [World.cell?_setCell_other _ _ _ _ ?_]
  · exact hi'
  · intro e'
    injection e' with e1 e2 e3
    subst e1
    unfold World.cell? at hi'
    unfold Blk at hb
    simp only [hb] at hi'
    simp at hi'
    exact hn _ (List.mem_of_getElem? hi') _ _ rfl

theorem madeCells_one (z : Value) (n : Nat) : madeCells #[z] n = (List.replicate n z).toArray := by
  apply Array.ext
  · simp [madeCells]
  · intro i h1 h2
    simp [madeCells, Nat.mod_one]

/-- 'make([]T, n)' of elements of one cell. -/
theorem make_blk {P : Program} (w : World) {ops : Array Oper} {rest : List Oper} {o : Oper} {a : Act} {Q : Exit → Act → World → Prop}
    (hg : o.guard = none) (l c : Operand) (t : TypeId) (hop : o.op = Op.makeSlice t l c)
    (e : TypeId) (z : Value) (bytes : Nat) (h1 : P.underlying t = some (.slice e)) (h2 : (P.info? e).map (fun i => (i.zero, i.size, i.bytes)) = some (some z, 1, bytes)) (hz : z.cells = #[z])
    (kl kc : IntKind) (L C : Int) (n : Nat) (hl : a.eval l = .int kl L) (hc : a.eval c = .int kc C) (hL : L = (n : Int)) (hC : C = (n : Int)) (b2 : bytes * n ≤ 281474976710656) (b3 : n ≤ 9223372036854775807)
    (hK : ∀ w', Blk w' w.heap.size e (List.replicate n z) → X w w' → wpList P ops Q rest (a.put o.dst (.slice (some ⟨w.heap.size, 0, none⟩) n n)) w') :
    wpList P ops Q (o :: rest) a w := by
  refine wpList_plain hg fun K hK' => ?_
  obtain ⟨i, hi, e1, e2, e3⟩ := info_parts h2
  subst hL
  subst hC
  have hb : ((bytes * n : Nat) : Int) ≤ 281474976710656 := by omega
  rw [Int.natCast_mul] at hb
  have hrun := run_make (P := P) w t e i z h1 hi e1 kl kc (n : Int) (n : Int) (by omega) (Int.le_refl _) (by rw [e3]; exact hb) (by omega)
  simp only [Int.toNat_natCast, e2, Nat.mul_one, hz, madeCells_one] at hrun
  unfold Oper.wp
  simp [execOp, hop, hl, hc, hrun, Result.andThen]
  refine hK' _ _ (hK _ ?_ ((X.refl w).alloc _))
  show (w.heap.push _)[w.heap.size]? = _
  simp

theorem info_u32 : (Tryz.prog.info? 145).map (fun i => (i.zero, i.size, i.bytes)) = some (some (.int .u32 0), 1, 4) := by kernel_rfl

/-- 'append' onto a row of the call's own. -/
theorem append_own {P : Program} (w : World) {ops : Array Oper} {rest : List Oper} {o : Oper} {a : Act} {Q : Exit → Act → World → Prop} (hgd : o.guard = none) (s x : Operand) (t : TypeId)
    (ho : o.op = .call { callee := .builtin .append, args := #[s, x], argTypes := #[t, t] })
    (base : Nat) (e : TypeId) (z : Value) (size bytes : Nat) (ht : P.underlying t = some (.slice e)) (h2 : (P.info? e).map (fun i => (i.zero, i.size, i.bytes)) = some (some z, size, bytes)) (hzs : z.cells.size = size) (hsz : 0 < size)
    (v : Value) (n : Nat) (xs : List Value) (hs : a.eval s = v) (hown : w.ownsRow base e size v n xs)
    (ad : Addr) (m c : Nat) (news : List Value) (hx : a.eval x = .slice (some ad) m c) (hl : news.length = m * size) (hnews : ∀ j u, news[j]? = some u → w.cell? (ad.add j) = some u) (h1 : ∀ u ∈ news, u.oneCell' = true)
    (h63 : n + m ≤ 9223372036854775807) (hbytes : (n + m) * bytes ≤ 140737488355328) (hbase : base ≤ w.heap.size)
    (h : ∀ v' w', w'.ownsRow base e size v' (n + m) (xs ++ news) → w.grownBy w' v.ownBlock → wpList P ops Q rest (a.put o.dst v') w') : wpList P ops Q (o :: rest) a w := by
  obtain ⟨i, hi, e1, e2, e3⟩ := info_parts h2
  exact wpList_append_own w hgd s x t ho base e i z size bytes ht hi e1 e2 e3 hzs hsz v n xs hs hown ad m c news hx hl hnews h1 h63 hbytes hbase (fun v' w' k1 k2 _ => h v' w' k1 k2)

theorem X.grown {a b c : World} (h : X a b) {row : Option Nat} (hg : b.grownBy c row) (hr : ∀ k, row = some k → a.heap.size ≤ k) : X a c := Below.grown h hg h.size hr
theorem own_ge {w : World} {base : Nat} {e : TypeId} {size n : Nat} {v : Value} {xs : List Value} (h : w.ownsRow base e size v n xs) : ∀ k, v.ownBlock = some k → base ≤ k := fun k hk => (h.lt k hk).1
theorem nums_one (k : IntKind) (xs : List Int) : ∀ u ∈ nums k xs, u.oneCell' = true := by
  intro u hu
  simp only [nums, List.mem_map] at hu
  obtain ⟨x, _, rfl⟩ := hu
  rfl

/-- The base of the program's digits. -/
def B32 : Int := 4294967296
theorem B32_pos : 0 < B32 := by decide
theorem B32_gt : 1 < B32 := by decide
theorem dig_le {xs : List Int} (h : Dig B32 xs) (j : Nat) : 0 ≤ xs.getD j 0 ∧ xs.getD j 0 ≤ 4294967295 := by
  have := h.getB B32_pos j
  unfold B32 at this
  omega

/-- An integer as the program holds it: a sign and a slice. -/
structure IV where
  neg : Bool
  A : Option Addr
  n : Nat
  c : Nat
abbrev IV.v (a : IV) : Value := .agg #[.bool a.neg, .slice a.A a.n a.c]

/-- A slice with the normal digits of a number. -/
def MagR (w : World) (A : Option Addr) (n c : Nat) (z : Int) : Prop :=
  ∃ xs : List Int, n = xs.length ∧ n ≤ c ∧ Rd w .u32 A xs ∧ IsNum B32 xs ∧ z = val B32 xs
theorem MagR.x {w w' : World} {A : Option Addr} {n c : Nat} {z : Int} (h : MagR w A n c z) (hx : X w w') : MagR w' A n c z := by
  obtain ⟨xs, h1, h2, h3, h4, h5⟩ := h
  exact ⟨xs, h1, h2, h3.x hx, h4, h5⟩
theorem MagR.nonneg {w : World} {A : Option Addr} {n c : Nat} {z : Int} (h : MagR w A n c z) : 0 ≤ z := by
  obtain ⟨xs, h1, h2, h3, h4, h5⟩ := h
  rw [h5]; exact val_nonneg B32_pos h4.1
theorem MagR.zero {w : World} {A : Option Addr} {n c : Nat} {z : Int} (h : MagR w A n c z) : n = 0 ↔ z = 0 := by
  obtain ⟨xs, h1, h2, h3, h4, h5⟩ := h
  rw [h5, val_eq_zero B32_pos h4.1 h4.2, h1, List.length_eq_zero_iff]

def IntR (w : World) (a : IV) (z : Int) : Prop := ∃ m : Int, MagR w a.A a.n a.c m ∧ (a.neg = true → a.n ≠ 0) ∧ z = if a.neg = true then - m else m
theorem IntR.put {w : World} {a : IV} {z : Int} (h : IntR w a z) {g : Nat} {e : TypeId} {cs : List Value} (hb : Blk w g e cs) (hn : NoInt cs) (j : Nat) (v : Value) : IntR (w.setCell ⟨g, j, none⟩ v) a z := by
  obtain ⟨m, ⟨xs, h1, h2, h3, h4, h5⟩, h6, h7⟩ := h
  exact ⟨m, ⟨xs, h1, h2, h3.put hb hn j v, h4, h5⟩, h6, h7⟩
theorem noint2 (b : Bool) (A : Option Addr) (n c : Nat) : NoInt [.bool b, .slice A n c] := by
  intro v hv k x
  simp at hv
  rcases hv with rfl | rfl <;> simp
/-- A result that is an integer is stored in its place. -/
theorem IntR.put2 {w : World} {a : IV} {z : Int} (h : IntR w a z) {g : Nat} {e : TypeId} {b : Bool} {A : Option Addr} {n c : Nat} (hb : Blk w g e [.bool b, .slice A n c]) (s : Bool) (v : Value) : IntR ((w.setCell ⟨g, 0, none⟩ (.bool s)).setCell ⟨g, 1, none⟩ v) a z :=
  (h.put hb (noint2 _ _ _ _) 0 _).put (hb.set 0 (.bool s)) ((noint2 _ _ _ _).set 0 (by simp)) 1 v
theorem IntR.x {w w' : World} {a : IV} {z : Int} (h : IntR w a z) (hx : X w w') : IntR w' a z := by
  obtain ⟨m, h1, h2, h3⟩ := h
  exact ⟨m, h1.x hx, h2, h3⟩

end Go.Proofs.YtogakaiibijjpaaGreatDoor

/- Package integer, first part: sign, order, trim, signed, From, Neg, Compare, sums and differences of magnitudes. -/
set_option linter.unusedVariables false
set_option linter.unusedSimpArgs false
namespace Go.Proofs.YtogakaiibijjpaaGreatDoor
open Go.RowKit
open DDig

theorem IntR.sign {w : World} {a : IV} {x : Int} (h : IntR w a x) : Int.sign x = if a.n = 0 then 0 else if a.neg = true then -1 else 1 := by
  obtain ⟨m, h1, h2, h3⟩ := h
  have h0 := h1.nonneg
  have hz := h1.zero
  by_cases e : a.n = 0
  · have := hz.1 e
    subst this
    rw [if_pos e, h3]; simp
  · have hm : 0 < m := by
      have : ¬ m = 0 := fun g => e (hz.2 g)
      omega
    rw [if_neg e, h3]
    by_cases g : a.neg = true
    · rw [if_pos g, if_pos g]; exact Int.sign_eq_neg_one_of_neg (by omega)
    · rw [if_neg g, if_neg g]; exact Int.sign_eq_one_of_pos hm

theorem int_sign (w : World) (a : IV) (x : Int) (ha : IntR w a x) : Calls Tryz.prog 75 #[a.v] w (Ret w fun _ v => v = .int .i64 (Int.sign x)) := by
  obtain ⟨neg, A, n, c⟩ := a
  have HS : Hid (Int.sign x = if n = 0 then 0 else if neg = true then -1 else 1) := ha.sign
  have HA : Hid (IntR w ⟨neg, A, n, c⟩ x) := ha
  clear ha
  by_cases h0 : n = 0
  · subst h0
    go_enter Tryz.func75, Tryz.ntmps75
    go_wp2
    go_ret
    exact ⟨⟨_, rfl, by rw [HS.out]; simp⟩, (X.refl w).alloc _⟩
  · have hb : ((n : Int) == 0) = false := by rw [beq_eq_false_iff_ne]; omega
    cases neg
    · go_enter Tryz.func75, Tryz.ntmps75
      go_wp2
      go_ret
      exact ⟨⟨_, rfl, by rw [HS.out]; simp [h0]⟩, (X.refl w).alloc _⟩
    · go_enter Tryz.func75, Tryz.ntmps75
      go_wp2
      go_ret
      exact ⟨⟨_, rfl, by rw [HS.out]; simp [h0]⟩, (X.refl w).alloc _⟩

/-- The place of the first difference from above decides. -/
theorem cmp_eq {l0 l1 : List Int} (hl : l1.length = l0.length) (h : ∀ j, j < l0.length → l0.getD j 0 = l1.getD j 0) : l0 = l1 := by
  apply List.ext_getElem (by omega)
  intro n h1 h2
  have := h n h1
  rwa [List.getD_eq_getElem?_getD, List.getD_eq_getElem?_getD, List.getElem?_eq_getElem h1, List.getElem?_eq_getElem h2] at this

set_option maxHeartbeats 400000 in
theorem order_same (w : World) (A0 A1 : Option Addr) (c0 c1 : Nat) (l0 l1 : List Int) (hl : l1.length = l0.length) (h0 : Rd w .u32 A0 l0) (h1 : Rd w .u32 A1 l1) (d0 : Dig B32 l0) (d1 : Dig B32 l1) :
    Calls Tryz.prog 107 #[.slice A0 l0.length c0, .slice A1 l1.length c1] w (Ret w fun _ v => v = .int .i64 (Int.sign (val B32 l0 - val B32 l1))) := by
  have hb : ((l0.length : Int) != (l1.length : Int)) = false := by rw [bne_eq_false_iff_eq]; omega
  have hm := h0.1
  have D0 : Hid (Dig B32 l0) := d0
  have D1 : Hid (Dig B32 l1) := d1
  clear d0 d1
  obtain ⟨n1, hn⟩ : ∃ n, n = l1.length := ⟨_, rfl⟩
  rw [← hn] at hb ⊢
  have HN : Hid (n1 = l0.length) := hn.trans hl
  have H0 : Hid (Rd w .u32 A0 l0) := h0
  have H1 : Hid (Rd w .u32 A1 l1) := h1
  have HL : Hid (l1.length = l0.length) := hl
  clear h0 h1 hl hn
  go_enter Tryz.func107, Tryz.ntmps107
  go_wp2
  go_loopw [5] (fun i wr => ∃ k : Nat, ∃ q, k ≤ l0.length ∧ i = .int .i64 ((k : Int) - 1) ∧ wr = w.drewN q ∧ ∀ j, k ≤ j → j < l0.length → l0.getD j 0 = l1.getD j 0) (fun i _ => (intOf i + 1).toNat)
  case atStart => exact ⟨l0.length, 0, Nat.le_refl _, rfl, rfl, fun j h1 h2 => by omega⟩
  case round =>
    obtain ⟨k, q, hk, rfl, rfl, heq⟩ := hrel
    have HE : Hid (∀ j, k ≤ j → j < l0.length → l0.getD j 0 = l1.getD j 0) := heq
    clear heq
    by_cases hk0 : 1 ≤ k
    · obtain ⟨i, rfl⟩ : ∃ i, k = i + 1 := ⟨k - 1, by omega⟩
      rw [show (((i + 1 : Nat) : Int) - 1) = (i : Int) by omega]
      obtain ⟨b0, o0, rfl, g0⟩ := H0.out.2 (by omega)
      have hl := HL.out
      obtain ⟨b1, o1, rfl, g1⟩ := H1.out.2 (by omega)
      have e0 := g0 i (by omega)
      have e1 := g1 i (by omega)
      have hn := HN.out
      have hi1 : (i : Int) < (n1 : Int) := by omega
      have hi0 : (i : Int) < (l0.length : Int) := by omega
      clear g0 g1 hl hn
      obtain ⟨x, hx⟩ : ∃ x, x = l0.getD i 0 := ⟨_, rfl⟩
      obtain ⟨y, hy⟩ : ∃ y, y = l1.getD i 0 := ⟨_, rfl⟩
      rw [← hx] at e0
      rw [← hy] at e1
      have HX : Hid (x = l0.getD i 0) := hx
      have HY : Hid (y = l1.getD i 0) := hy
      clear hx hy
      by_cases hc : x = y
      · have hb : (x != y) = false := by rw [bne_eq_false_iff_eq]; exact hc
        have HC : Hid (x = y) := hc
        clear hc
        go_wp2
        go_quiet (fail)
        go_wp2
        go_roundw
        case rel =>
          refine ⟨i, _, by omega, rfl, rfl, fun j h1 h2 => ?_⟩
          by_cases hj : j = i
          · rw [hj, ← HX.out, ← HY.out]; exact HC.out
          · exact HE.out j (by omega) h2
        case measure => simp [intOf]
      · have hb : (x != y) = true := by rw [bne_iff_ne]; exact hc
        by_cases hlt : x < y
        · have hv := val_cmp B32_pos (i := i) D0.out D1.out HL.out.symm (by omega) (fun j h1 h2 => HE.out j (by omega) h2) (by rw [← HX.out, ← HY.out]; exact hlt)
          have HV : Hid (Int.sign (val B32 l0 - val B32 l1) = -1) := Int.sign_eq_neg_one_of_neg (by omega)
          clear hv
          go_wp2
          go_quiet (fail)
          go_wp2
          go_quiet (fail)
          go_wp2
          go_ret
          exact ⟨⟨_, rfl, by rw [HV.out]; rfl⟩, (((X.refl w).drewN _).drewN _).drewN _⟩
        · have hv := val_cmp B32_pos (i := i) D1.out D0.out HL.out (by have := HL.out; omega) (fun j h1 h2 => (HE.out j (by omega) (by have := HL.out; omega)).symm) (by rw [← HX.out, ← HY.out]; omega)
          have HV : Hid (Int.sign (val B32 l0 - val B32 l1) = 1) := Int.sign_eq_one_of_pos (by omega)
          clear hv
          go_wp2
          go_quiet (fail)
          go_wp2
          go_quiet (fail)
          go_wp2
          go_ret
          exact ⟨⟨_, rfl, by rw [HV.out]; rfl⟩, (((X.refl w).drewN _).drewN _).drewN _⟩
    · have hv := cmp_eq HL.out (fun j h => HE.out j (by omega) h)
      have HV : Hid (Int.sign (val B32 l0 - val B32 l1) = 0) := by rw [hv]; show Int.sign _ = 0; simp
      clear hv
      go_wp2
      go_ret
      exact ⟨⟨_, rfl, by rw [HV.out]; rfl⟩, (X.refl w).drewN _⟩

theorem order_calls (w : World) (A0 A1 : Option Addr) (n0 n1 c0 c1 : Nat) (x y : Int) (h0 : MagR w A0 n0 c0 x) (h1 : MagR w A1 n1 c1 y) :
    Calls Tryz.prog 107 #[.slice A0 n0 c0, .slice A1 n1 c1] w (Ret w fun _ v => v = .int .i64 (Int.sign (x - y))) := by
  obtain ⟨l0, rfl, _, r0, i0, rfl⟩ := h0
  obtain ⟨l1, rfl, _, r1, i1, rfl⟩ := h1
  by_cases hl : l1.length = l0.length
  · exact order_same w A0 A1 c0 c1 l0 l1 hl r0 r1 i0.1 i1.1
  · have hb : ((l0.length : Int) != (l1.length : Int)) = true := by rw [bne_iff_ne]; omega
    by_cases hlt : l0.length < l1.length
    · have HV : Hid (Int.sign (val B32 l0 - val B32 l1) = -1) := Int.sign_eq_neg_one_of_neg (by have := val_lt_of_length B32_gt i0.1 i1.1 i1.2 hlt; omega)
      clear i0 i1 r0 r1
      go_enter Tryz.func107, Tryz.ntmps107
      go_wp2
      go_ret
      exact ⟨⟨_, rfl, by rw [HV.out]; rfl⟩, X.refl w⟩
    · have HV : Hid (Int.sign (val B32 l0 - val B32 l1) = 1) := Int.sign_eq_one_of_pos (by have := val_lt_of_length B32_gt i1.1 i0.1 i0.2 (by omega); omega)
      clear i0 i1 r0 r1
      go_enter Tryz.func107, Tryz.ntmps107
      go_wp2
      go_ret
      exact ⟨⟨_, rfl, by rw [HV.out]; rfl⟩, X.refl w⟩

end Go.Proofs.YtogakaiibijjpaaGreatDoor

/- Package integer, second part: trim, signed, From, Neg, Compare. -/
set_option linter.unusedVariables false
set_option linter.unusedSimpArgs false
namespace Go.Proofs.YtogakaiibijjpaaGreatDoor
open Go.RowKit
open DDig

theorem take_succ_getD {xs : List Int} {k : Nat} (hk : k < xs.length) (h : xs.getD k 0 = 0) : trim (xs.take (k + 1)) = trim (xs.take k) := by
  rw [List.take_succ_eq_append_getElem hk]
  have : xs[k] = 0 := by rw [List.getD_eq_getElem?_getD, List.getElem?_eq_getElem hk] at h; simpa using h
  rw [this, trim_snoc_zero]
theorem take_succ_getD_ne {xs : List Int} {k : Nat} (hk : k < xs.length) (h : xs.getD k 0 ≠ 0) : trim (xs.take (k + 1)) = xs.take (k + 1) := by
  rw [List.take_succ_eq_append_getElem hk]
  have : xs[k] ≠ 0 := by rw [List.getD_eq_getElem?_getD, List.getElem?_eq_getElem hk] at h; simpa using h
  exact trim_snoc this

/-- A slice and what trim leaves of it: the same array, so many numbers. -/
theorem int_trim (w : World) (A : Option Addr) (c : Nat) (xs : List Int) (hc : xs.length ≤ c) (h0 : Rd w .u32 A xs) :
    Calls Tryz.prog 130 #[.slice A xs.length c] w (Ret w fun _ v => v = .slice A (trim xs).length c) := by
  have hm := h0.1
  have H0 : Hid (Rd w .u32 A xs) := h0
  clear h0
  go_enter Tryz.func130, Tryz.ntmps130
  go_wp2
  go_loopw [0] (fun t wr => ∃ k : Nat, ∃ q, k ≤ xs.length ∧ t = .slice A k c ∧ wr = w.drewN q ∧ trim xs = trim (xs.take k)) (fun t _ => match t with | .slice _ n _ => n | _ => 0)
  case atStart => exact ⟨xs.length, 0, Nat.le_refl _, rfl, rfl, by rw [List.take_length]⟩
  case round =>
    obtain ⟨k, q, hk, rfl, rfl, heq⟩ := hrel
    have HE : Hid (trim xs = trim (xs.take k)) := heq
    clear heq
    by_cases hk0 : 0 < k
    · obtain ⟨i, rfl⟩ : ∃ i, k = i + 1 := ⟨k - 1, by omega⟩
      obtain ⟨b0, o0, rfl, g0⟩ := H0.out.2 (by omega)
      have e0 := g0 i (by omega)
      clear g0
      obtain ⟨x, hx⟩ : ∃ x, x = xs.getD i 0 := ⟨_, rfl⟩
      rw [← hx] at e0
      have HX : Hid (x = xs.getD i 0) := hx
      clear hx
      by_cases hx0 : x = 0
      · have HT : Hid (trim (xs.take (i + 1)) = trim (xs.take i)) := take_succ_getD (by omega) (by rw [← HX.out]; exact hx0)
        subst hx0
        go_wp2
        go_roundw
        case rel => exact ⟨i, _, by omega, rfl, rfl, HE.out.trans HT.out⟩
        case measure => simp
      · have HT : Hid (trim (xs.take (i + 1)) = xs.take (i + 1)) := take_succ_getD_ne (by omega) (by rw [← HX.out]; exact hx0)
        have hb : (x == 0) = false := by rw [beq_eq_false_iff_ne]; exact hx0
        go_wp2
        go_ret
        refine ⟨⟨_, rfl, ?_⟩, (X.refl w).drewN _⟩
        rw [HE.out, HT.out, List.length_take, Nat.min_eq_left (by omega)]; rfl
    · obtain rfl : k = 0 := by omega
      go_wp2
      go_ret
      refine ⟨⟨_, rfl, ?_⟩, (X.refl w).drewN _⟩
      rw [HE.out, List.take_zero]; rfl

theorem trim_mag {w : World} {A : Option Addr} {xs : List Int} {c : Nat} (hc : xs.length ≤ c) (h : Rd w .u32 A xs) (d : Dig B32 xs) : MagR w A (trim xs).length c (val B32 xs) := by
  obtain ⟨n, h1, h2⟩ := trim_take xs
  refine ⟨trim xs, rfl, ?_, by rw [h2]; exact h.take n, IsNum.trim d, (val_trim _ _).symm⟩
  have := trim_length_le xs
  omega

theorem int_signed (w : World) (neg : Bool) (A : Option Addr) (c : Nat) (xs : List Int) (hc : xs.length ≤ c) (h0 : Rd w .u32 A xs) (d : Dig B32 xs) :
    Calls Tryz.prog 108 #[.bool neg, .slice A xs.length c] w (Ret w fun w' v => ∃ r : IV, v = r.v ∧ IntR w' r (if neg = true then - val B32 xs else val B32 xs)) := by
  have HM : Hid (MagR w A (trim xs).length c (val B32 xs)) := trim_mag hc h0 d
  have H0 : Hid (Rd w .u32 A xs) := h0
  clear h0 d
  go_enter Tryz.func108, Tryz.ntmps108
  go_wp2_with fail
  refine (int_trim _ A c xs hc (H0.out.x ((X.refl w).alloc _))).mono ?_
  rintro e w1 ⟨⟨v, rfl, rfl⟩, hx⟩
  have hb := (Blk.new w _ _).x hx
  obtain ⟨n, hn⟩ : ∃ n, n = (trim xs).length := ⟨_, rfl⟩
  rw [← hn]
  have HN : Hid (n = (trim xs).length) := hn
  have HX : Hid (X (w.alloc _) w1) := hx
  have c0 := hb.cell (j := 0) rfl
  have c1 := hb.cell (j := 1) rfl
  have f0 := hb.frozen 0
  have f1 := hb.frozen 1
  clear hn hx hb
  have hmag : MagR w A n c (val B32 xs) := by rw [HN.out]; exact HM.out
  have HR : Hid (∀ w' : World, X w w' → ∀ b : Bool, (b = (neg && decide (n > 0))) → IntR w' ⟨b, A, n, c⟩ (if neg = true then - val B32 xs else val B32 xs)) := by
    intro w' hx' b hb
    refine ⟨val B32 xs, hmag.x hx', ?_, ?_⟩
    · intro h; rw [hb] at h; simp at h; show n ≠ 0; omega
    · subst hb
      cases neg
      · simp
      · by_cases h0 : n = 0
        · have := hmag.zero.1 h0; simp [h0, this]
        · simp [show 0 < n by omega]
  clear hmag
  cases neg
  · go_wp2
    have hX := ((((X.refl w).alloc _).trans HX.out).set (p := ⟨w.heap.size, 0, none⟩) (Nat.le_refl _) (.bool false)).set (p := ⟨w.heap.size, 1, none⟩) (Nat.le_refl _) (.slice A n c)
    have K := two_cells (.bool false) (.slice A n c) c0 c1
    exact bodyPost_ret (v := .agg #[.bool false, .slice A n c]) (by simp [results, Tryz.results108, go_sem, K.1, K.2]) rfl ⟨⟨_, rfl, ⟨_, A, n, c⟩, rfl, HR.out _ hX _ (by simp)⟩, hX⟩
  · by_cases hn0 : 0 < n
    · go_wp2
      have hX := ((((X.refl w).alloc _).trans HX.out).set (p := ⟨w.heap.size, 0, none⟩) (Nat.le_refl _) (.bool true)).set (p := ⟨w.heap.size, 1, none⟩) (Nat.le_refl _) (.slice A n c)
      have K := two_cells (.bool true) (.slice A n c) c0 c1
      exact bodyPost_ret (v := .agg #[.bool true, .slice A n c]) (by simp [results, Tryz.results108, go_sem, K.1, K.2]) rfl ⟨⟨_, rfl, ⟨_, A, n, c⟩, rfl, HR.out _ hX _ (by simp [hn0])⟩, hX⟩
    · go_wp2
      have hX := ((((X.refl w).alloc _).trans HX.out).set (p := ⟨w.heap.size, 0, none⟩) (Nat.le_refl _) (.bool false)).set (p := ⟨w.heap.size, 1, none⟩) (Nat.le_refl _) (.slice A n c)
      have K := two_cells (.bool false) (.slice A n c) c0 c1
      exact bodyPost_ret (v := .agg #[.bool false, .slice A n c]) (by simp [results, Tryz.results108, go_sem, K.1, K.2]) rfl ⟨⟨_, rfl, ⟨_, A, n, c⟩, rfl, HR.out _ hX _ (by simp; omega)⟩, hX⟩

theorem val_two (u : Int) (h0 : 0 ≤ u) : val B32 [u % 4294967296, u / 4294967296] = u := by
  simp [val, B32]; omega

theorem u64_neg (x : Int) (h0 : -9223372036854775808 ≤ x) (h1 : x < 0) : IntKind.u64.wrap (-IntKind.u64.wrap x) = -x := by
  simp only [IntKind.wrap, IntKind.signed, IntKind.bits]
  simp
  omega

theorem int_from (w : World) (x : Int) (h0 : -9223372036854775808 ≤ x) (h1 : x ≤ 9223372036854775807) :
    Calls Tryz.prog 96 #[.int .i64 x] w (Ret w fun w' v => ∃ r : IV, v = r.v ∧ IntR w' r x) := by
  obtain ⟨xs, hxs⟩ : ∃ xs : List Int, xs = if x < 0 then [IntKind.u64.wrap (-IntKind.u64.wrap x) % 4294967296, IntKind.u64.wrap (-IntKind.u64.wrap x) / 4294967296 % 4294967296] else [x % 4294967296, x / 4294967296] := ⟨_, rfl⟩
  have hd : Dig B32 xs := by
    rw [hxs]
    split
    · exact Dig.cons (by omega) (by unfold B32; omega) (Dig.cons (by omega) (by unfold B32; omega) (Dig.nil _))
    · exact Dig.cons (by omega) (by unfold B32; omega) (Dig.cons (by omega) (by unfold B32; omega) (Dig.nil _))
  have hv : (if x < 0 then - val B32 xs else val B32 xs) = x := by
    rw [hxs]
    split
    · rw [u64_neg x h0 (by omega), show -x / 4294967296 % 4294967296 = -x / 4294967296 by omega, val_two _ (by omega)]; omega
    · rw [val_two _ (by omega)]
  by_cases hx : x < 0
  · rw [if_pos hx] at hxs hv
    subst hxs
    have HV : Hid (- val B32 _ = x) := hv
    have HD : Hid (Dig B32 _) := hd
    clear hv hd
    go_enter Tryz.func96, Tryz.ntmps96
    go_wp2_with fail
    have HS := fun W A h => int_signed W true A 2 _ (Nat.le_refl _) h HD.out
    refine (HS _ _ ?_).mono ?_
    · exact Blk.rd (k := .u32) (xs := [_, _]) (Blk.new_at _ _ _ (by simp)) (by simp)
    rintro e w1 ⟨⟨v, rfl, r, rfl, hr⟩, hx1⟩
    have hr : IntR w1 r x := by have := HV.out; simp only [if_true] at hr; rwa [this] at hr
    obtain ⟨rn, rA, rl, rc⟩ := r
    have hb := (Blk.new w _ _).x (((X.refl _).alloc _).trans hx1)
    have c0 := hb.cell (j := 0) rfl
    have c1 := hb.cell (j := 1) rfl
    have f0 := hb.frozen 0
    have f1 := hb.frozen 1
    have K := two_cells (.bool rn) (.slice rA rl rc) c0 c1
    have hX := (((((X.refl w).alloc _).alloc _).trans hx1).set (p := ⟨w.heap.size, 0, none⟩) (Nat.le_refl _) (.bool rn)).set (p := ⟨w.heap.size, 1, none⟩) (Nat.le_refl _) (.slice rA rl rc)
    have hR := hr.put2 hb rn (.slice rA rl rc)
    have HX : Hid (X w _) := hX
    have HR : Hid (IntR _ _ x) := hR
    clear hr hX hR hx1 hb
    go_wp2
    exact bodyPost_ret (v := .agg #[.bool rn, .slice rA rl rc]) (by simp [results, Tryz.results96, go_sem, K.1, K.2]) rfl ⟨⟨_, rfl, ⟨rn, rA, rl, rc⟩, rfl, HR.out⟩, HX.out⟩
  · rw [if_neg hx] at hxs hv
    subst hxs
    have HV : Hid (val B32 _ = x) := hv
    have HD : Hid (Dig B32 _) := hd
    clear hv hd
    go_enter Tryz.func96, Tryz.ntmps96
    go_wp2_with fail
    have HS := fun W A h => int_signed W false A 2 _ (Nat.le_refl _) h HD.out
    refine (HS _ _ ?_).mono ?_
    · exact Blk.rd (k := .u32) (xs := [_, _]) (Blk.new_at _ _ _ (by simp)) (by simp)
    rintro e w1 ⟨⟨v, rfl, r, rfl, hr⟩, hx1⟩
    have hr : IntR w1 r x := by have := HV.out; simp at hr; rwa [this] at hr
    obtain ⟨rn, rA, rl, rc⟩ := r
    have hb := (Blk.new w _ _).x (((X.refl _).alloc _).trans hx1)
    have c0 := hb.cell (j := 0) rfl
    have c1 := hb.cell (j := 1) rfl
    have f0 := hb.frozen 0
    have f1 := hb.frozen 1
    have K := two_cells (.bool rn) (.slice rA rl rc) c0 c1
    have hX := (((((X.refl w).alloc _).alloc _).trans hx1).set (p := ⟨w.heap.size, 0, none⟩) (Nat.le_refl _) (.bool rn)).set (p := ⟨w.heap.size, 1, none⟩) (Nat.le_refl _) (.slice rA rl rc)
    have hR := hr.put2 hb rn (.slice rA rl rc)
    have HX : Hid (X w _) := hX
    have HR : Hid (IntR _ _ x) := hR
    clear hr hX hR hx1 hb
    go_wp2
    exact bodyPost_ret (v := .agg #[.bool rn, .slice rA rl rc]) (by simp [results, Tryz.results96, go_sem, K.1, K.2]) rfl ⟨⟨_, rfl, ⟨rn, rA, rl, rc⟩, rfl, HR.out⟩, HX.out⟩
end Go.Proofs.YtogakaiibijjpaaGreatDoor

/- Package integer, third part: Neg, Compare. -/
set_option linter.unusedVariables false
set_option linter.unusedSimpArgs false
namespace Go.Proofs.YtogakaiibijjpaaGreatDoor
open Go.RowKit
open DDig

theorem IntR.neg {w : World} {s : Bool} {A : Option Addr} {n c : Nat} {x : Int} (h : IntR w ⟨s, A, n, c⟩ x) : IntR w ⟨!s && decide (0 < n), A, n, c⟩ (-x) := by
  obtain ⟨m, h1, h2, h3⟩ := h
  refine ⟨m, h1, ?_, ?_⟩
  · intro h; simp at h; show n ≠ 0; omega
  · by_cases h0 : n = 0
    · have := h1.zero.1 h0
      subst this
      simp [h0, h3]
    · have : 0 < n := by omega
      cases s <;> simp [this, h3]

theorem int_neg (w : World) (a : IV) (x : Int) (ha : IntR w a x) : Calls Tryz.prog 87 #[a.v] w (Ret w fun w' v => ∃ r : IV, v = r.v ∧ IntR w' r (-x)) := by
  obtain ⟨s, A, n, c⟩ := a
  have HN : Hid (∀ b : Bool, b = (!s && decide (0 < n)) → ∀ w', X w w' → IntR w' ⟨b, A, n, c⟩ (-x)) := by
    rintro b rfl w' hx
    exact ha.neg.x hx
  clear ha
  cases s
  · by_cases h0 : 0 < n
    · go_enter Tryz.func87, Tryz.ntmps87
      go_wp2
      exact bodyPost_ret (v := .agg #[.bool true, .slice A n c]) (by simp [results, Tryz.results87, go_sem]) rfl ⟨⟨_, rfl, ⟨true, A, n, c⟩, rfl, HN.out _ (by simp [h0]) _ (((X.refl w).alloc _).alloc _)⟩, ((X.refl w).alloc _).alloc _⟩
    · go_enter Tryz.func87, Tryz.ntmps87
      go_wp2
      exact bodyPost_ret (v := .agg #[.bool false, .slice A n c]) (by simp [results, Tryz.results87, go_sem]) rfl ⟨⟨_, rfl, ⟨false, A, n, c⟩, rfl, HN.out _ (by simp [h0]) _ (((X.refl w).alloc _).alloc _)⟩, ((X.refl w).alloc _).alloc _⟩
  · go_enter Tryz.func87, Tryz.ntmps87
    go_wp2
    exact bodyPost_ret (v := .agg #[.bool false, .slice A n c]) (by simp [results, Tryz.results87, go_sem]) rfl ⟨⟨_, rfl, ⟨false, A, n, c⟩, rfl, HN.out _ (by simp) _ (((X.refl w).alloc _).alloc _)⟩, ((X.refl w).alloc _).alloc _⟩

theorem int_compare (w : World) (a b : IV) (x y : Int) (ha : IntR w a x) (hb : IntR w b y) : Calls Tryz.prog 83 #[a.v, b.v] w (Ret w fun _ v => v = .int .i64 (Int.sign (x - y))) := by
  obtain ⟨s, A, n, c⟩ := a
  obtain ⟨t, B, m, d⟩ := b
  obtain ⟨u, h1, h2, h3⟩ := ha
  obtain ⟨v, k1, k2, k3⟩ := hb
  have hu := h1.nonneg
  have hv := k1.nonneg
  have zu := h1.zero
  have zv := k1.zero
  have H1 : Hid (MagR w A n c u) := h1
  have K1 : Hid (MagR w B m d v) := k1
  cases s <;> cases t
  · have HV : Hid (Int.sign (x - y) = Int.sign (u - v)) := by simp at h3 k3; rw [h3, k3]; rfl
    clear h1 h2 h3 k1 k2 k3 hu hv zu zv
    go_enter Tryz.func83, Tryz.ntmps83
    go_wp2_with fail
    refine (order_calls _ _ _ _ _ _ _ _ _ (H1.out.x (((X.refl w).alloc _).alloc _)) (K1.out.x (((X.refl w).alloc _).alloc _))).mono ?_
    rintro e w1 ⟨⟨q, rfl, rfl⟩, hx⟩
    have HX : Hid (X w w1) := ((((X.refl w).alloc _).alloc _).trans hx)
    clear hx
    go_wp2
    go_ret
    exact ⟨⟨_, rfl, by rw [HV.out]; rfl⟩, HX.out⟩
  · have HV : Hid (Int.sign (x - y) = 1) := Int.sign_eq_one_of_pos (by simp at h3 k3 k2; have : ¬ v = 0 := fun g => k2 (zv.2 g); omega)
    clear h1 h2 h3 k1 k2 k3 hu hv zu zv
    go_enter Tryz.func83, Tryz.ntmps83
    go_wp2
    go_ret
    exact ⟨⟨_, rfl, by rw [HV.out]; rfl⟩, ((X.refl w).alloc _).alloc _⟩
  · have HV : Hid (Int.sign (x - y) = -1) := Int.sign_eq_neg_one_of_neg (by simp at h3 k3 h2; have : ¬ u = 0 := fun g => h2 (zu.2 g); omega)
    clear h1 h2 h3 k1 k2 k3 hu hv zu zv
    go_enter Tryz.func83, Tryz.ntmps83
    go_wp2
    go_ret
    exact ⟨⟨_, rfl, by rw [HV.out]; rfl⟩, ((X.refl w).alloc _).alloc _⟩
  · have HV : Hid (Int.sign (x - y) = Int.sign (v - u)) := by simp at h3 k3; rw [h3, k3]; congr 1; omega
    clear h1 h2 h3 k1 k2 k3 hu hv zu zv
    go_enter Tryz.func83, Tryz.ntmps83
    go_wp2_with fail
    refine (order_calls _ _ _ _ _ _ _ _ _ (K1.out.x (((X.refl w).alloc _).alloc _)) (H1.out.x (((X.refl w).alloc _).alloc _))).mono ?_
    rintro e w1 ⟨⟨q, rfl, rfl⟩, hx⟩
    have HX : Hid (X w w1) := ((((X.refl w).alloc _).alloc _).trans hx)
    clear hx
    go_wp2
    go_ret
    exact ⟨⟨_, rfl, by rw [HV.out]; rfl⟩, HX.out⟩

end Go.Proofs.YtogakaiibijjpaaGreatDoor

/- Package integer, fourth part: the sum and the difference of magnitudes. -/
set_option linter.unusedVariables false
set_option linter.unusedSimpArgs false
namespace Go.Proofs.YtogakaiibijjpaaGreatDoor
open Go.RowKit
open DDig

/-- A slice with digits of a number, zeros at the end or not. -/
def RawR (w : World) (v : Value) (z : Int) : Prop := ∃ (xs : List Int) (A : Option Addr) (c : Nat), v = .slice A xs.length c ∧ xs.length ≤ c ∧ Rd w .u32 A xs ∧ Dig B32 xs ∧ val B32 xs = z

theorem val_take_set {b : Int} {xs : List Int} {k : Nat} (h : k < xs.length) (v : Int) : val b ((xs.set k v).take (k + 1)) = val b (xs.take k) + pw b k * v := by
  rw [val_take_succ (by simpa using h)]
  congr 1
  · rw [List.take_set_of_le (Nat.le_refl _)]
  · simp [h]

theorem val_take_next {b : Int} (q : List Int) (k : Nat) : val b (q.take (k + 1)) = val b (q.take k) + pw b k * q.getD k 0 := by
  by_cases h : k < q.length
  · exact val_take_succ h
  · rw [List.take_of_length_le (by omega), List.take_of_length_le (by omega), List.getD_eq_getElem?_getD, List.getElem?_eq_none (by omega)]; simp

theorem plus_step {xs p q : List Int} {k : Nat} {cy : Int} (hk : k < xs.length) (h : val B32 (xs.take k) + pw B32 k * cy = val B32 (p.take k) + val B32 (q.take k)) (s : Int) (hs : s = cy + p.getD k 0 + q.getD k 0) :
    val B32 ((xs.set k (s % 4294967296)).take (k + 1)) + pw B32 (k + 1) * (s / 4294967296) = val B32 (p.take (k + 1)) + val B32 (q.take (k + 1)) := by
  rw [val_take_set hk, val_take_next p, val_take_next q, pw_succ]
  have e : s = s % 4294967296 + B32 * (s / 4294967296) := by unfold B32; omega
  have e2 : pw B32 k * s = pw B32 k * (s % 4294967296) + B32 * pw B32 k * (s / 4294967296) := by
    rw [e]
    have : (s % 4294967296 + B32 * (s / 4294967296)) % 4294967296 = s % 4294967296 := by unfold B32; omega
    have h2 : (s % 4294967296 + B32 * (s / 4294967296)) / 4294967296 = s / 4294967296 := by unfold B32; omega
    rw [this, h2]; grind
  have e3 : pw B32 k * s = pw B32 k * cy + pw B32 k * p.getD k 0 + pw B32 k * q.getD k 0 := by rw [hs]; grind
  omega

theorem nil_getD {q : List Int} {k : Nat} (h : ¬ k < q.length) : q.getD k 0 = 0 := by
  rw [List.getD_eq_getElem?_getD, List.getElem?_eq_none (by omega)]; rfl

set_option maxRecDepth 100000 in
set_option maxHeartbeats 1000000 in
theorem int_plus (w : World) (A0 A1 : Option Addr) (n0 n1 c0 c1 : Nat) (x y : Int) (h0 : MagR w A0 n0 c0 x) (h1 : MagR w A1 n1 c1 y) (s0 : n0 ≤ 1099511627776) (s1 : n1 ≤ 1099511627776) :
    Calls Tryz.prog 142 #[.slice A0 n0 c0, .slice A1 n1 c1] w (Ret w fun w' v => RawR w' v (x + y)) := by
  obtain ⟨l0, rfl, _, r0, i0, rfl⟩ := h0
  obtain ⟨l1, rfl, _, r1, i1, rfl⟩ := h1
  have H0 : Hid (Rd w .u32 A0 l0) := r0
  have H1 : Hid (Rd w .u32 A1 l1) := r1
  have I0 : Hid (Dig B32 l0) := i0.1
  have I1 : Hid (Dig B32 l1) := i1.1
  clear r0 r1 i0 i1
  go_enter Tryz.func142, Tryz.ntmps142
  go_upto_if 13 with (fail)
  go_cut [0, 1] (fun t0 t1 wc => ∃ P Q : Option Addr, ∃ cP cQ : Nat, ∃ p q : List Int, t0 = .slice P p.length cP ∧ t1 = .slice Q q.length cQ ∧ Rd w .u32 P p ∧ Rd w .u32 Q q ∧ Dig B32 p ∧ Dig B32 q ∧ q.length ≤ p.length ∧ p.length ≤ 1099511627776 ∧ val B32 l0 + val B32 l1 = val B32 p + val B32 q ∧ w = wc)
  case first =>
    go_wp2_with fail
    · go_meet; exact ⟨A1, A0, c1, c0, l1, l0, rfl, rfl, H1.out, H0.out, I1.out, I0.out, by omega, s1, Int.add_comm _ _, rfl⟩
    · go_meet; exact ⟨A0, A1, c0, c1, l0, l1, rfl, rfl, H0.out, H1.out, I0.out, I1.out, by omega, s0, rfl, rfl⟩
  case rest =>
    obtain ⟨P, Q, cP, cQ, p, q, rfl, rfl, hP, hQ, dP, dQ, hqp, hp, hval, rfl⟩ := hcut
    have HP : Hid (Rd w .u32 P p) := hP
    have HQ : Hid (Rd w .u32 Q q) := hQ
    have DP : Hid (Dig B32 p) := dP
    have DQ : Hid (Dig B32 q) := dQ
    have HV : Hid (val B32 l0 + val B32 l1 = val B32 p + val B32 q) := hval
    clear hP hQ hval dP dQ
    go_wp2_with (at_make; refine make_blk _ rfl _ _ 67 rfl 145 (.int .u32 0) 4 Tryz.underlying67 info_u32 rfl .i64 .i64 _ _ (p.length + 1) rfl rfl (by omega) (by omega) (by omega) (by omega) ?_; intro w1 hblk hx1; have HB1 : Hid (Blk w1 w.heap.size 145 (List.replicate (p.length + 1) (.int .u32 0))) := hblk; have HX1 : Hid (X w w1) := hx1; clear hblk hx1)
    go_loopw [6, 22] (fun t6 t22 wr => ∃ k : Nat, ∃ xs : List Int, ∃ cy : Int, k ≤ p.length ∧ t22 = .int .i64 k ∧ t6 = .int .u64 cy ∧ 0 ≤ cy ∧ cy ≤ 1 ∧ xs.length = p.length + 1 ∧ Dig B32 xs ∧ val B32 (xs.take k) + pw B32 k * cy = val B32 (p.take k) + val B32 (q.take k) ∧ Blk wr w.heap.size 145 (nums .u32 xs) ∧ X w wr) (fun _ i _ => p.length - (intOf i).toNat)
    case atStart => exact ⟨0, List.replicate (p.length + 1) 0, 0, Nat.zero_le _, rfl, rfl, by omega, by omega, by simp, Dig.replicate B32_pos _, by simp, by rw [nums_zeros]; exact HB1.out, HX1.out⟩
    case round =>
      obtain ⟨k, xs, cy, hk, rfl, rfl, hc0, hc1, hxl, hd, hv, hb, hx⟩ := hrel
      have HXL : Hid (xs.length = p.length + 1) := hxl
      have HB : Hid (Blk wr w.heap.size 145 (nums .u32 xs)) := hb
      have HX : Hid (X w wr) := hx
      have HD : Hid (Dig B32 xs) := hd
      have HVK : Hid (val B32 (xs.take k) + pw B32 k * cy = val B32 (p.take k) + val B32 (q.take k)) := hv
      clear hxl hb hx hd hv
      by_cases hlt : k < p.length
      · obtain ⟨bP, oP, rfl, gP⟩ := HP.out.2 (by omega)
        have e0 := HX.out.cell (gP k hlt)
        obtain ⟨x, hx⟩ : ∃ x, x = p.getD k 0 := ⟨_, rfl⟩
        rw [← hx] at e0
        have ⟨hx0, hx1⟩ : 0 ≤ x ∧ x ≤ 4294967295 := by rw [hx]; exact dig_le DP.out k
        have Hx : Hid (x = p.getD k 0) := hx
        clear gP hx
        have eo := HB.out.int (j := k) (by have := HXL.out; omega)
        have ef := HB.out.frozen k
        have hk1 : (k : Int) < (p.length : Int) := by omega
        by_cases hq : k < q.length
        · obtain ⟨bQ, oQ, rfl, gQ⟩ := HQ.out.2 (by omega)
          have e1 := HX.out.cell (gQ k hq)
          obtain ⟨y, hy⟩ : ∃ y, y = q.getD k 0 := ⟨_, rfl⟩
          rw [← hy] at e1
          have ⟨hy0, hy1⟩ : 0 ≤ y ∧ y ≤ 4294967295 := by rw [hy]; exact dig_le DQ.out k
          have Hy : Hid (y = q.getD k 0) := hy
          clear gQ hy
          go_wp2
          go_roundw
          case rel => exact ⟨k + 1, xs.set k ((cy + x + y) % 4294967296), (cy + x + y) / 4294967296, by omega, by go_num, rfl, by omega, by omega, by rw [List.length_set]; exact HXL.out, HD.out.set k (by omega) (by unfold B32; omega), plus_step (by have := HXL.out; omega) HVK.out _ (by rw [Hx.out, Hy.out]), by rw [nums_set]; exact HB.out.set _ _, HX.out.set (p := ⟨w.heap.size, k, none⟩) (Nat.le_refl _) _⟩
          case measure => simp [intOf]; omega
        · have hn := nil_getD hq
          have HN : Hid (q.getD k 0 = 0) := hn
          clear hn
          go_wp2
          go_roundw
          case rel => exact ⟨k + 1, xs.set k ((cy + x) % 4294967296), (cy + x) / 4294967296, by omega, by go_num, rfl, by omega, by omega, by rw [List.length_set]; exact HXL.out, HD.out.set k (by omega) (by unfold B32; omega), plus_step (by have := HXL.out; omega) HVK.out _ (by rw [Hx.out, HN.out]; omega), by rw [nums_set]; exact HB.out.set _ _, HX.out.set (p := ⟨w.heap.size, k, none⟩) (Nat.le_refl _) _⟩
          case measure => simp [intOf]; omega
      · obtain rfl : k = p.length := by omega
        have eo := HB.out.int (j := p.length) (by have := HXL.out; omega)
        have ef := HB.out.frozen p.length
        have HF : Hid (RawR (wr.setCell ⟨w.heap.size, p.length, none⟩ (.int .u32 cy)) (.slice (some ⟨w.heap.size, 0, none⟩) (p.length + 1) (p.length + 1)) (val B32 l0 + val B32 l1)) := by
          have hl := HXL.out
          refine ⟨xs.set p.length cy, _, p.length + 1, by rw [List.length_set, hl], by rw [List.length_set, hl]; exact Nat.le_refl _, Blk.rd (e := 145) (by rw [nums_set]; exact HB.out.set _ _) (by rw [List.length_set, hl]; omega), HD.out.set _ hc0 (by unfold B32; omega), ?_⟩
          have e1 := val_take_set (b := B32) (xs := xs) (k := p.length) (by omega) cy
          rw [List.take_of_length_le (by rw [List.length_set]; omega)] at e1
          rw [e1, HVK.out, List.take_length, List.take_of_length_le hqp, HV.out]
        have HXF : Hid (X w (wr.setCell ⟨w.heap.size, p.length, none⟩ (.int .u32 cy))) := HX.out.set (p := ⟨w.heap.size, p.length, none⟩) (Nat.le_refl _) _
        go_wp2
        go_ret
        exact ⟨⟨_, rfl, HF.out⟩, HXF.out⟩
end Go.Proofs.YtogakaiibijjpaaGreatDoor

/- Package integer, fifth part: the difference of magnitudes, sums and differences of integers. -/
set_option linter.unusedVariables false
set_option linter.unusedSimpArgs false
namespace Go.Proofs.YtogakaiibijjpaaGreatDoor
open Go.RowKit
open DDig

theorem minus_step {xs p q : List Int} {k : Nat} {bo bo2 d : Int} (hk : k < xs.length) (h : val B32 (xs.take k) = val B32 (p.take k) - val B32 (q.take k) + pw B32 k * bo) (hs : d = p.getD k 0 - bo - q.getD k 0 + B32 * bo2) :
    val B32 ((xs.set k d).take (k + 1)) = val B32 (p.take (k + 1)) - val B32 (q.take (k + 1)) + pw B32 (k + 1) * bo2 := by
  rw [val_take_set hk, val_take_next p, val_take_next q, pw_succ, h, hs]
  grind

theorem minus_end {xs p q : List Int} {bo : Int} (hd : Dig B32 xs) (hl : xs.length = p.length) (hqp : val B32 q ≤ val B32 p) (hql : q.length ≤ p.length) (hb : 0 ≤ bo ∧ bo ≤ 1) (h : val B32 (xs.take p.length) = val B32 (p.take p.length) - val B32 (q.take p.length) + pw B32 p.length * bo) : val B32 xs = val B32 p - val B32 q := by
  rw [← hl, List.take_length, hl, List.take_length, List.take_of_length_le hql] at h
  have h1 := val_lt B32_pos hd
  rw [hl] at h1
  by_cases e : bo = 0
  · subst e; simp at h; exact h
  · obtain rfl : bo = 1 := by omega
    simp at h; omega

set_option maxRecDepth 100000 in
set_option maxHeartbeats 1000000 in
theorem int_minus (w : World) (A0 A1 : Option Addr) (n0 n1 c0 c1 : Nat) (x y : Int) (h0 : MagR w A0 n0 c0 x) (h1 : MagR w A1 n1 c1 y) (s0 : n0 ≤ 1099511627776) (hxy : y ≤ x) :
    Calls Tryz.prog 143 #[.slice A0 n0 c0, .slice A1 n1 c1] w (Ret w fun w' v => RawR w' v (x - y)) := by
  obtain ⟨p, rfl, _, r0, i0, rfl⟩ := h0
  obtain ⟨q, rfl, _, r1, i1, rfl⟩ := h1
  have hqp : q.length ≤ p.length := Nat.le_of_not_lt fun g => by have := val_lt_of_length B32_gt i0.1 i1.1 i1.2 g; omega
  have HP : Hid (Rd w .u32 A0 p) := r0
  have HQ : Hid (Rd w .u32 A1 q) := r1
  have DP : Hid (Dig B32 p) := i0.1
  have DQ : Hid (Dig B32 q) := i1.1
  have HXY : Hid (val B32 q ≤ val B32 p) := hxy
  clear r0 r1 i0 i1 hxy
  go_enter Tryz.func143, Tryz.ntmps143
  go_wp2_with (at_make; refine make_blk _ rfl _ _ 67 rfl 145 (.int .u32 0) 4 Tryz.underlying67 info_u32 rfl .i64 .i64 _ _ p.length rfl rfl rfl rfl (by omega) (by omega) ?_; intro w1 hblk hx1; have HB1 : Hid (Blk w1 w.heap.size 145 (List.replicate p.length (.int .u32 0))) := hblk; have HX1 : Hid (X w w1) := hx1; clear hblk hx1)
  go_loopw [6, 15] (fun t6 t22 wr => ∃ k : Nat, ∃ xs : List Int, ∃ bo : Int, k ≤ p.length ∧ t22 = .int .i64 k ∧ t6 = .int .i64 bo ∧ 0 ≤ bo ∧ bo ≤ 1 ∧ xs.length = p.length ∧ Dig B32 xs ∧ val B32 (xs.take k) = val B32 (p.take k) - val B32 (q.take k) + pw B32 k * bo ∧ Blk wr w.heap.size 145 (nums .u32 xs) ∧ X w wr) (fun _ i _ => p.length - (intOf i).toNat)
  case atStart => exact ⟨0, List.replicate p.length 0, 0, Nat.zero_le _, rfl, rfl, by omega, by omega, by simp, Dig.replicate B32_pos _, by simp, by rw [nums_zeros]; exact HB1.out, HX1.out⟩
  case round =>
    obtain ⟨k, xs, bo, hk, rfl, rfl, hc0, hc1, hxl, hd, hv, hb, hx⟩ := hrel
    have HXL : Hid (xs.length = p.length) := hxl
    have HB : Hid (Blk wr w.heap.size 145 (nums .u32 xs)) := hb
    have HX : Hid (X w wr) := hx
    have HD : Hid (Dig B32 xs) := hd
    have HVK : Hid (val B32 (xs.take k) = val B32 (p.take k) - val B32 (q.take k) + pw B32 k * bo) := hv
    clear hxl hb hx hd hv
    by_cases hlt : k < p.length
    · obtain ⟨bP, oP, rfl, gP⟩ := HP.out.2 (by omega)
      have e0 := HX.out.cell (gP k hlt)
      obtain ⟨x, hx⟩ : ∃ x, x = p.getD k 0 := ⟨_, rfl⟩
      rw [← hx] at e0
      have ⟨hx0, hx1⟩ : 0 ≤ x ∧ x ≤ 4294967295 := by rw [hx]; exact dig_le DP.out k
      have Hx : Hid (x = p.getD k 0) := hx
      clear gP hx
      have eo := HB.out.int (j := k) (by have := HXL.out; omega)
      have ef := HB.out.frozen k
      have hk1 : (k : Int) < (p.length : Int) := by omega
      by_cases hq : k < q.length
      · obtain ⟨bQ, oQ, rfl, gQ⟩ := HQ.out.2 (by omega)
        have e1 := HX.out.cell (gQ k hq)
        obtain ⟨y, hy⟩ : ∃ y, y = q.getD k 0 := ⟨_, rfl⟩
        rw [← hy] at e1
        have ⟨hy0, hy1⟩ : 0 ≤ y ∧ y ≤ 4294967295 := by rw [hy]; exact dig_le DQ.out k
        have Hy : Hid (y = q.getD k 0) := hy
        clear gQ hy
        by_cases hneg : x - bo - y < 0
        · go_wp2
          go_roundw
          case rel => exact ⟨k + 1, xs.set k ((x - bo - y) % 4294967296), 1, by omega, by go_num, rfl, by omega, by omega, by rw [List.length_set]; exact HXL.out, HD.out.set k (by omega) (by unfold B32; omega), minus_step (by have := HXL.out; omega) HVK.out (by rw [← Hx.out, ← Hy.out]; unfold B32; omega), by rw [nums_set]; exact HB.out.set _ _, HX.out.set (p := ⟨w.heap.size, k, none⟩) (Nat.le_refl _) _⟩
          case measure => simp [intOf]; omega
        · go_wp2
          go_roundw
          case rel => exact ⟨k + 1, xs.set k (x - bo - y), 0, by omega, by go_num, rfl, by omega, by omega, by rw [List.length_set]; exact HXL.out, HD.out.set k (by omega) (by unfold B32; omega), minus_step (by have := HXL.out; omega) HVK.out (by rw [← Hx.out, ← Hy.out]; unfold B32; omega), by rw [nums_set]; exact HB.out.set _ _, HX.out.set (p := ⟨w.heap.size, k, none⟩) (Nat.le_refl _) _⟩
          case measure => simp [intOf]; omega
      · have hn := nil_getD hq
        have HN : Hid (q.getD k 0 = 0) := hn
        clear hn
        by_cases hneg : x - bo < 0
        · go_wp2
          go_roundw
          case rel => exact ⟨k + 1, xs.set k ((x - bo) % 4294967296), 1, by omega, by go_num, rfl, by omega, by omega, by rw [List.length_set]; exact HXL.out, HD.out.set k (by omega) (by unfold B32; omega), minus_step (by have := HXL.out; omega) HVK.out (by rw [← Hx.out, HN.out]; unfold B32; omega), by rw [nums_set]; exact HB.out.set _ _, HX.out.set (p := ⟨w.heap.size, k, none⟩) (Nat.le_refl _) _⟩
          case measure => simp [intOf]; omega
        · go_wp2
          go_roundw
          case rel => exact ⟨k + 1, xs.set k (x - bo), 0, by omega, by go_num, rfl, by omega, by omega, by rw [List.length_set]; exact HXL.out, HD.out.set k (by omega) (by unfold B32; omega), minus_step (by have := HXL.out; omega) HVK.out (by rw [← Hx.out, HN.out]; unfold B32; omega), by rw [nums_set]; exact HB.out.set _ _, HX.out.set (p := ⟨w.heap.size, k, none⟩) (Nat.le_refl _) _⟩
          case measure => simp [intOf]; omega
    · obtain rfl : k = p.length := by omega
      have HF : Hid (RawR wr (.slice (some ⟨w.heap.size, 0, none⟩) p.length p.length) (val B32 p - val B32 q)) := by
        have hl := HXL.out
        exact ⟨xs, _, p.length, by rw [hl], by rw [hl]; exact Nat.le_refl _, Blk.rd (e := 145) HB.out (by rw [hl]; omega), HD.out, minus_end HD.out hl HXY.out hqp ⟨hc0, hc1⟩ HVK.out⟩
      go_wp2
      go_ret
      exact ⟨⟨_, rfl, HF.out⟩, HX.out⟩
end Go.Proofs.YtogakaiibijjpaaGreatDoor

/- Package integer, sixth part: sums and differences of integers. -/
set_option linter.unusedVariables false
set_option linter.unusedSimpArgs false
namespace Go.Proofs.YtogakaiibijjpaaGreatDoor
open Go.RowKit
open DDig

theorem RawR.shape {w : World} {v : Value} {z : Int} (h : RawR w v z) : ∃ (xs : List Int) (A : Option Addr) (c : Nat), v = .slice A xs.length c ∧ xs.length ≤ c ∧ Rd w .u32 A xs ∧ Dig B32 xs ∧ val B32 xs = z := h

/-- signed, over what a sum or a difference of magnitudes gives. -/
theorem int_signed_raw (w : World) (neg : Bool) (v : Value) (z : Int) (h : RawR w v z) :
    Calls Tryz.prog 108 #[.bool neg, v] w (Ret w fun w' v => ∃ r : IV, v = r.v ∧ IntR w' r (if neg = true then - z else z)) := by
  obtain ⟨xs, A, c, rfl, h1, h2, h3, rfl⟩ := h
  exact int_signed w neg A c xs h1 h2 h3

set_option maxRecDepth 100000 in
set_option maxHeartbeats 3200000 in
theorem int_add (w : World) (a b : IV) (x y : Int) (ha : IntR w a x) (hb : IntR w b y) (s0 : a.n ≤ 1099511627776) (s1 : b.n ≤ 1099511627776) :
    Calls Tryz.prog 124 #[a.v, b.v] w (Ret w fun w' v => ∃ r : IV, v = r.v ∧ IntR w' r (x + y)) := by
  obtain ⟨s, A, n, c⟩ := a
  obtain ⟨t, B, m, d⟩ := b
  obtain ⟨u, h1, h2, h3⟩ := ha
  obtain ⟨v, k1, k2, k3⟩ := hb
  have hu := h1.nonneg
  have hv := k1.nonneg
  have H1 : Hid (MagR w A n c u) := h1
  have K1 : Hid (MagR w B m d v) := k1
  by_cases hst : s = t
  · subst hst
    have HV : Hid (x + y = if s = true then - (u + v) else u + v) := by
      show x + y = _
      cases s
      · simp only [Bool.false_eq_true, if_false] at h3 k3 ⊢; omega
      · simp only [if_true] at h3 k3 ⊢; omega
    clear h1 h2 h3 k1 k2 k3 hu hv
    have hbb : (s == s) = true := by simp
    go_enter Tryz.func124, Tryz.ntmps124
    go_wp2_with fail
    obtain ⟨W, hW⟩ : ∃ W : World, W = (((w.alloc (.cells #[.bool s, .slice A n c] 69)).alloc (.cells #[.bool s, .slice B m d] 69)).alloc (.cells #[.bool false, .slice none 0 0] 69)) := ⟨_, rfl⟩
    have hX : X w W := by rw [hW]; exact (((X.refl w).alloc _).alloc _).alloc _
    have b1 : Blk W w.heap.size 69 [.bool s, .slice A n c] := by rw [hW]; exact ((Blk.new _ _ _).x (((X.refl _).alloc _).alloc _))
    have b2 : Blk W (w.heap.size + 1) 69 [.bool s, .slice B m d] := by rw [hW]; exact ((Blk.new_at _ _ _ (by simp)).x ((X.refl _).alloc _))
    have b3 : Blk W (w.heap.size + 1 + 1) 69 [.bool false, .slice none 0 0] := by rw [hW]; exact Blk.new_at _ _ _ (by simp)
    rw [← hW]
    clear hW
    have n1 : ¬ w.heap.size + 1 + 1 = w.heap.size := by omega
    have c1 := b1.cell (j := 0) rfl
    have c2 := b1.cell (j := 1) rfl
    have c3 := b2.cell (j := 1) rfl
    go_region_held3 (fun w' => w'.cell? ⟨w.heap.size, 0, none⟩ = some (.bool s) ∧ w'.cell? ⟨w.heap.size, 1, none⟩ = some (.slice A n c) ∧ w'.cell? ⟨w.heap.size + 1, 1, none⟩ = some (.slice B m d))
      (go_keep)
      (first
        | (go_at_call 142; refine (int_plus _ A B n m c d u v (by exact H1.out.x ⟨hX.os, hX.tape, hX.output, hX.size, hX.block⟩) (by exact K1.out.x ⟨hX.os, hX.tape, hX.output, hX.size, hX.block⟩) s0 s1).mono ?_; rintro e w1 ⟨⟨v1, rfl, hr1⟩, hx1⟩; have hy1 : X W w1 := ⟨hx1.os, hx1.tape, hx1.output, hx1.size, hx1.block⟩; have d1 := hy1.cell c1; have d2 := hy1.cell c2; have d3 := hy1.cell c3)
        | (go_at_call 108; refine (int_signed_raw _ s _ _ (by assumption)).mono ?_; rintro e w2 ⟨⟨v2, rfl, ⟨rn, rA, rl, rc⟩, rfl, hr2⟩, hx2⟩; have hy2 : X w1 w2 := ⟨hx2.os, hx2.tape, hx2.output, hx2.size, hx2.block⟩; have e1 := hy2.cell d1; have e2 := hy2.cell d2; have e3 := hy2.cell d3; have g3 := (b3.x hy1).x hy2; have k0 := g3.cell (j := 0) rfl; have k1 := g3.cell (j := 1) rfl; have f0 := g3.frozen 0; have f1 := g3.frozen 1))
    have K := two_cells (.bool rn) (.slice rA rl rc) k0 k1
    have HX : Hid (X w _) := (((hX.trans hy1).trans hy2).set (p := ⟨w.heap.size + 1 + 1, 0, none⟩) (by simp; omega) (.bool rn)).set (p := ⟨w.heap.size + 1 + 1, 1, none⟩) (by simp; omega) (.slice rA rl rc)
    have hR := hr2.put2 g3 rn (.slice rA rl rc)
    rw [← HV.out] at hR
    have HR := hR
    replace HR : Hid _ := HR
    clear hR hr2 hr1 hx1 hx2 hy1 hy2 hX b1 b2 b3 g3
    go_wp2
    exact bodyPost_ret (v := .agg #[.bool rn, .slice rA rl rc]) (by simp [results, Tryz.results124, go_sem, K.1, K.2]) rfl ⟨⟨_, rfl, ⟨rn, rA, rl, rc⟩, rfl, HR.out⟩, HX.out⟩
  · have hbb : (s == t) = false := by simpa using hst
    by_cases huv : v ≤ u
    · have HV : Hid (x + y = if s = true then - (u - v) else u - v) := by
        show x + y = _
        cases s <;> cases t
        · simp at hst
        · simp only [Bool.false_eq_true, if_true, if_false] at h3 k3 ⊢; omega
        · simp only [Bool.false_eq_true, if_true, if_false] at h3 k3 ⊢; omega
        · simp at hst
      have hsg : 0 ≤ Int.sign (u - v) := by
        by_cases e : u - v = 0
        · rw [e]; simp
        · rw [Int.sign_eq_one_of_pos (by omega)]; omega
      clear h1 h2 h3 k1 k2 k3 hu hv hst
      go_enter Tryz.func124, Tryz.ntmps124
      go_wp2_with fail
      obtain ⟨W, hW⟩ : ∃ W : World, W = (((w.alloc (.cells #[.bool s, .slice A n c] 69)).alloc (.cells #[.bool t, .slice B m d] 69)).alloc (.cells #[.bool false, .slice none 0 0] 69)) := ⟨_, rfl⟩
      have hX : X w W := by rw [hW]; exact (((X.refl w).alloc _).alloc _).alloc _
      have b1 : Blk W w.heap.size 69 [.bool s, .slice A n c] := by rw [hW]; exact ((Blk.new _ _ _).x (((X.refl _).alloc _).alloc _))
      have b2 : Blk W (w.heap.size + 1) 69 [.bool t, .slice B m d] := by rw [hW]; exact ((Blk.new_at _ _ _ (by simp)).x ((X.refl _).alloc _))
      have b3 : Blk W (w.heap.size + 1 + 1) 69 [.bool false, .slice none 0 0] := by rw [hW]; exact Blk.new_at _ _ _ (by simp)
      rw [← hW]
      clear hW
      have n1 : ¬ w.heap.size + 1 + 1 = w.heap.size := by omega
      have c1 := b1.cell (j := 0) rfl
      have c2 := b1.cell (j := 1) rfl
      have c3 := b2.cell (j := 1) rfl
      refine (order_calls _ _ _ _ _ _ _ _ _ (H1.out.x hX) (K1.out.x hX)).mono ?_
      rintro e w0 ⟨⟨q, rfl, rfl⟩, hx0⟩
      obtain ⟨W0, hW0⟩ : ∃ W0, W0 = w0 := ⟨_, rfl⟩
      rw [← hW0] at hx0 ⊢
      clear hW0
      replace b1 := b1.x hx0
      replace b2 := b2.x hx0
      replace b3 := b3.x hx0
      replace hX := hX.trans hx0
      clear hx0 c1 c2 c3 W
      obtain ⟨W, rfl⟩ : ∃ W, W = W0 := ⟨_, rfl⟩
      have c1 := b1.cell (j := 0) rfl
      have c2 := b1.cell (j := 1) rfl
      have c3 := b2.cell (j := 1) rfl
      go_wp2_with fail
      go_region_held3 (fun w' => w'.cell? ⟨w.heap.size, 0, none⟩ = some (.bool s) ∧ w'.cell? ⟨w.heap.size, 1, none⟩ = some (.slice A n c) ∧ w'.cell? ⟨w.heap.size + 1, 1, none⟩ = some (.slice B m d))
        (go_keep)
        (first
          | (go_at_call 143; refine (int_minus _ A B n m c d u v (by exact H1.out.x ⟨hX.os, hX.tape, hX.output, hX.size, hX.block⟩) (by exact K1.out.x ⟨hX.os, hX.tape, hX.output, hX.size, hX.block⟩) s0 huv).mono ?_; rintro e w1 ⟨⟨v1, rfl, hr1⟩, hx1⟩; have hy1 : X W w1 := ⟨hx1.os, hx1.tape, hx1.output, hx1.size, hx1.block⟩; have d1 := hy1.cell c1; have d2 := hy1.cell c2; have d3 := hy1.cell c3)
          | (go_at_call 108; refine (int_signed_raw _ s _ _ (by assumption)).mono ?_; rintro e w2 ⟨⟨v2, rfl, ⟨rn, rA, rl, rc⟩, rfl, hr2⟩, hx2⟩; have hy2 : X w1 w2 := ⟨hx2.os, hx2.tape, hx2.output, hx2.size, hx2.block⟩; have e1 := hy2.cell d1; have e2 := hy2.cell d2; have e3 := hy2.cell d3; have g3 := (b3.x hy1).x hy2; have k0 := g3.cell (j := 0) rfl; have k1 := g3.cell (j := 1) rfl; have f0 := g3.frozen 0; have f1 := g3.frozen 1))
      have K := two_cells (.bool rn) (.slice rA rl rc) k0 k1
      have HX : Hid (X w _) := (((hX.trans hy1).trans hy2).set (p := ⟨w.heap.size + 1 + 1, 0, none⟩) (by simp; omega) (.bool rn)).set (p := ⟨w.heap.size + 1 + 1, 1, none⟩) (by simp; omega) (.slice rA rl rc)
      have hR := hr2.put2 g3 rn (.slice rA rl rc)
      rw [← HV.out] at hR
      have HR := hR
      replace HR : Hid _ := HR
      clear hR hr2 hr1 hx1 hx2 hy1 hy2 hX b1 b2 b3 g3
      go_wp2
      exact bodyPost_ret (v := .agg #[.bool rn, .slice rA rl rc]) (by simp [results, Tryz.results124, go_sem, K.1, K.2]) rfl ⟨⟨_, rfl, ⟨rn, rA, rl, rc⟩, rfl, HR.out⟩, HX.out⟩
    · have HV : Hid (x + y = if t = true then - (v - u) else v - u) := by
        show x + y = _
        cases s <;> cases t
        · simp at hst
        · simp only [Bool.false_eq_true, if_true, if_false] at h3 k3 ⊢; omega
        · simp only [Bool.false_eq_true, if_true, if_false] at h3 k3 ⊢; omega
        · simp at hst
      have hsg : Int.sign (u - v) < 0 := by rw [Int.sign_eq_neg_one_of_neg (by omega)]; omega
      clear h1 h2 h3 k1 k2 k3 hu hv hst
      go_enter Tryz.func124, Tryz.ntmps124
      go_wp2_with fail
      obtain ⟨W, hW⟩ : ∃ W : World, W = (((w.alloc (.cells #[.bool s, .slice A n c] 69)).alloc (.cells #[.bool t, .slice B m d] 69)).alloc (.cells #[.bool false, .slice none 0 0] 69)) := ⟨_, rfl⟩
      have hX : X w W := by rw [hW]; exact (((X.refl w).alloc _).alloc _).alloc _
      have b1 : Blk W w.heap.size 69 [.bool s, .slice A n c] := by rw [hW]; exact ((Blk.new _ _ _).x (((X.refl _).alloc _).alloc _))
      have b2 : Blk W (w.heap.size + 1) 69 [.bool t, .slice B m d] := by rw [hW]; exact ((Blk.new_at _ _ _ (by simp)).x ((X.refl _).alloc _))
      have b3 : Blk W (w.heap.size + 1 + 1) 69 [.bool false, .slice none 0 0] := by rw [hW]; exact Blk.new_at _ _ _ (by simp)
      rw [← hW]
      clear hW
      have n1 : ¬ w.heap.size + 1 + 1 = w.heap.size := by omega
      have c1 := b1.cell (j := 0) rfl
      have c2 := b1.cell (j := 1) rfl
      have c3 := b2.cell (j := 1) rfl
      refine (order_calls _ _ _ _ _ _ _ _ _ (H1.out.x hX) (K1.out.x hX)).mono ?_
      rintro e w0 ⟨⟨q, rfl, rfl⟩, hx0⟩
      obtain ⟨W0, hW0⟩ : ∃ W0, W0 = w0 := ⟨_, rfl⟩
      rw [← hW0] at hx0 ⊢
      clear hW0
      replace b1 := b1.x hx0
      replace b2 := b2.x hx0
      replace b3 := b3.x hx0
      replace hX := hX.trans hx0
      clear hx0 c1 c2 c3 W
      obtain ⟨W, rfl⟩ : ∃ W, W = W0 := ⟨_, rfl⟩
      have c1 := b2.cell (j := 0) rfl
      have c2 := b1.cell (j := 1) rfl
      have c3 := b2.cell (j := 1) rfl
      go_wp2_with fail
      go_region_held3 (fun w' => w'.cell? ⟨w.heap.size + 1, 0, none⟩ = some (.bool t) ∧ w'.cell? ⟨w.heap.size, 1, none⟩ = some (.slice A n c) ∧ w'.cell? ⟨w.heap.size + 1, 1, none⟩ = some (.slice B m d))
        (go_keep)
        (first
          | (go_at_call 143; refine (int_minus _ B A m n d c v u (by exact K1.out.x ⟨hX.os, hX.tape, hX.output, hX.size, hX.block⟩) (by exact H1.out.x ⟨hX.os, hX.tape, hX.output, hX.size, hX.block⟩) s1 (by omega)).mono ?_; rintro e w1 ⟨⟨v1, rfl, hr1⟩, hx1⟩; have hy1 : X W w1 := ⟨hx1.os, hx1.tape, hx1.output, hx1.size, hx1.block⟩; have d1 := hy1.cell c1; have d2 := hy1.cell c2; have d3 := hy1.cell c3)
          | (go_at_call 108; refine (int_signed_raw _ t _ _ (by assumption)).mono ?_; rintro e w2 ⟨⟨v2, rfl, ⟨rn, rA, rl, rc⟩, rfl, hr2⟩, hx2⟩; have hy2 : X w1 w2 := ⟨hx2.os, hx2.tape, hx2.output, hx2.size, hx2.block⟩; have e1 := hy2.cell d1; have e2 := hy2.cell d2; have e3 := hy2.cell d3; have g3 := (b3.x hy1).x hy2; have k0 := g3.cell (j := 0) rfl; have k1 := g3.cell (j := 1) rfl; have f0 := g3.frozen 0; have f1 := g3.frozen 1))
      have K := two_cells (.bool rn) (.slice rA rl rc) k0 k1
      have HX : Hid (X w _) := (((hX.trans hy1).trans hy2).set (p := ⟨w.heap.size + 1 + 1, 0, none⟩) (by simp; omega) (.bool rn)).set (p := ⟨w.heap.size + 1 + 1, 1, none⟩) (by simp; omega) (.slice rA rl rc)
      have hR := hr2.put2 g3 rn (.slice rA rl rc)
      rw [← HV.out] at hR
      have HR := hR
      replace HR : Hid _ := HR
      clear hR hr2 hr1 hx1 hx2 hy1 hy2 hX b1 b2 b3 g3
      go_wp2
      exact bodyPost_ret (v := .agg #[.bool rn, .slice rA rl rc]) (by simp [results, Tryz.results124, go_sem, K.1, K.2]) rfl ⟨⟨_, rfl, ⟨rn, rA, rl, rc⟩, rfl, HR.out⟩, HX.out⟩

end Go.Proofs.YtogakaiibijjpaaGreatDoor

/- Package integer, seventh part: differences of integers. -/
set_option linter.unusedVariables false
set_option linter.unusedSimpArgs false
namespace Go.Proofs.YtogakaiibijjpaaGreatDoor
open Go.RowKit
open DDig

/-- How many digits a number has, told by its size. -/
theorem MagR.size {w : World} {A : Option Addr} {n c : Nat} {z : Int} (h : MagR w A n c z) {k : Nat} (hk : z < pw B32 k) : n ≤ k := by
  obtain ⟨xs, h1, h2, h3, h4, h5⟩ := h
  apply Nat.le_of_not_lt
  intro hlt
  have := val_ge B32_pos h4.1 h4.2 (by intro e; subst e; simp at h1; omega)
  have := pw_mono (b := B32) (by decide) (show k ≤ xs.length - 1 by omega)
  omega
theorem MagR.lt {w : World} {A : Option Addr} {n c : Nat} {z : Int} (h : MagR w A n c z) : z < pw B32 n := by
  obtain ⟨xs, h1, h2, h3, h4, h5⟩ := h
  rw [h5, h1]; exact val_lt B32_pos h4.1
theorem IntR.lt {w : World} {a : IV} {z : Int} (h : IntR w a z) : (z.natAbs : Int) < pw B32 a.n := by
  obtain ⟨m, h1, h2, h3⟩ := h
  have := h1.lt
  have := h1.nonneg
  split at h3 <;> omega
theorem IntR.size {w : World} {a : IV} {z : Int} (h : IntR w a z) {k : Nat} (hk : (z.natAbs : Int) < pw B32 k) : a.n ≤ k := by
  obtain ⟨m, h1, h2, h3⟩ := h
  have := h1.nonneg
  exact h1.size (by split at h3 <;> omega)

set_option maxRecDepth 100000 in
set_option maxHeartbeats 3200000 in
theorem int_sub (w : World) (a b : IV) (x y : Int) (ha : IntR w a x) (hb : IntR w b y) (s0 : a.n ≤ 1099511627776) (s1 : b.n ≤ 1099511627776) :
    Calls Tryz.prog 139 #[a.v, b.v] w (Ret w fun w' v => ∃ r : IV, v = r.v ∧ IntR w' r (x - y)) := by
  obtain ⟨s, A, n, c⟩ := a
  obtain ⟨t, B, m, d⟩ := b
  have H1 : Hid (IntR w ⟨s, A, n, c⟩ x) := ha
  have K1 : Hid (IntR w ⟨t, B, m, d⟩ y) := hb
  have HS : Hid ((y.natAbs : Int) < pw B32 1099511627776) := by
    have h1 : (y.natAbs : Int) < pw B32 m := hb.lt
    have h2 := pw_mono (b := B32) (by decide) s1
    show (y.natAbs : Int) < _
    exact Int.lt_of_lt_of_le h1 h2
  clear ha hb
  go_enter Tryz.func139, Tryz.ntmps139
  go_wp2_with fail
  obtain ⟨W, hW⟩ : ∃ W : World, W = (((w.alloc (.cells #[.bool s, .slice A n c] 69)).alloc (.cells #[.bool t, .slice B m d] 69)).alloc (.cells #[.bool false, .slice none 0 0] 69)) := ⟨_, rfl⟩
  have hX : X w W := by rw [hW]; exact (((X.refl w).alloc _).alloc _).alloc _
  have b1 : Blk W w.heap.size 69 [.bool s, .slice A n c] := by rw [hW]; exact ((Blk.new _ _ _).x (((X.refl _).alloc _).alloc _))
  have b2 : Blk W (w.heap.size + 1) 69 [.bool t, .slice B m d] := by rw [hW]; exact ((Blk.new_at _ _ _ (by simp)).x ((X.refl _).alloc _))
  have b3 : Blk W (w.heap.size + 1 + 1) 69 [.bool false, .slice none 0 0] := by rw [hW]; exact Blk.new_at _ _ _ (by simp)
  rw [← hW]
  clear hW
  have n1 : ¬ w.heap.size + 1 + 1 = w.heap.size := by omega
  have c1 := b1.cell (j := 0) rfl
  have c2 := b1.cell (j := 1) rfl
  have c3 := b2.cell (j := 0) rfl
  have c4 := b2.cell (j := 1) rfl
  go_region_held3 (fun w' => w'.cell? ⟨w.heap.size, 0, none⟩ = some (.bool s) ∧ w'.cell? ⟨w.heap.size, 1, none⟩ = some (.slice A n c) ∧ w'.cell? ⟨w.heap.size + 1, 0, none⟩ = some (.bool t) ∧ w'.cell? ⟨w.heap.size + 1, 1, none⟩ = some (.slice B m d))
    (go_keep)
    (first
      | (go_at_call 87; refine (int_neg _ ⟨t, B, m, d⟩ y (by exact K1.out.x ⟨hX.os, hX.tape, hX.output, hX.size, hX.block⟩)).mono ?_; rintro e w1 ⟨⟨v1, rfl, ⟨qn, qA, ql, qc⟩, rfl, hr1⟩, hx1⟩; have hy1 : X W w1 := ⟨hx1.os, hx1.tape, hx1.output, hx1.size, hx1.block⟩; have d1 := hy1.cell c1; have d2 := hy1.cell c2; have d3 := hy1.cell c3; have d4 := hy1.cell c4)
      | (go_at_call 124; refine (int_add _ ⟨s, A, n, c⟩ ⟨qn, qA, ql, qc⟩ x (-y) (by have h5 := hX.trans hy1; exact H1.out.x ⟨h5.os, h5.tape, h5.output, h5.size, h5.block⟩) (by exact hr1.x ⟨rfl, rfl, rfl, Nat.le_refl _, fun _ _ => rfl⟩) s0 (hr1.size (by rw [Int.natAbs_neg]; exact HS.out))).mono ?_; rintro e w2 ⟨⟨v2, rfl, ⟨rn, rA, rl, rc⟩, rfl, hr2⟩, hx2⟩; have hy2 : X w1 w2 := ⟨hx2.os, hx2.tape, hx2.output, hx2.size, hx2.block⟩; have e1 := hy2.cell d1; have e2 := hy2.cell d2; have e3 := hy2.cell d3; have e4 := hy2.cell d4; have g3 := (b3.x hy1).x hy2; have k0 := g3.cell (j := 0) rfl; have k1 := g3.cell (j := 1) rfl; have f0 := g3.frozen 0; have f1 := g3.frozen 1))
  all_goals
    have K := two_cells (.bool rn) (.slice rA rl rc) k0 k1
    have HX : Hid (X w _) := (((hX.trans hy1).trans hy2).set (p := ⟨w.heap.size + 1 + 1, 0, none⟩) (by simp; omega) (.bool rn)).set (p := ⟨w.heap.size + 1 + 1, 1, none⟩) (by simp; omega) (.slice rA rl rc)
    have hR := hr2.put2 g3 rn (.slice rA rl rc)
    rw [← Int.sub_eq_add_neg] at hR
    have HR := hR
    replace HR : Hid _ := HR
    clear hR hr2 hr1 hx1 hx2 hy1 hy2 hX b1 b2 b3 g3
    go_wp2
    exact bodyPost_ret (v := .agg #[.bool rn, .slice rA rl rc]) (by simp [results, Tryz.results139, go_sem, K.1, K.2]) rfl ⟨⟨_, rfl, ⟨rn, rA, rl, rc⟩, rfl, HR.out⟩, HX.out⟩

end Go.Proofs.YtogakaiibijjpaaGreatDoor

/- Package integer, eighth part: products. -/
set_option linter.unusedVariables false
set_option linter.unusedSimpArgs false
namespace Go.Proofs.YtogakaiibijjpaaGreatDoor
open Go.RowKit
open DDig

theorem mul_step {out : List Int} {i k : Nat} {cy P x y t : Int} {q : List Int} (hk : i + k < out.length) (h : val B32 out + pw B32 (i + k) * cy = P + x * pw B32 i * val B32 (q.take k)) (hy : y = q.getD k 0) (ht : t = cy + (x * y + out.getD (i + k) 0)) :
    val B32 (out.set (i + k) (t % 4294967296)) + pw B32 (i + (k + 1)) * (t / 4294967296) = P + x * pw B32 i * val B32 (q.take (k + 1)) := by
  rw [val_set _ hk, val_take_next q, ← hy, show i + (k + 1) = (i + k) + 1 by omega, pw_succ, pw_add]
  have e : t = t % 4294967296 + B32 * (t / 4294967296) := by unfold B32; omega
  have e2 : pw B32 (i + k) * (t % 4294967296) = pw B32 (i + k) * t - B32 * pw B32 (i + k) * (t / 4294967296) := by
    have : t % 4294967296 = t - B32 * (t / 4294967296) := by omega
    rw [this]; grind
  rw [pw_add] at e2 h
  grind

theorem mul_row {out : List Int} {i m : Nat} {cy x : Int} {p q : List Int} (hm : m = q.length) (hk : i + m < out.length) (hz : out.getD (i + m) 0 = 0) (h : val B32 out + pw B32 (i + m) * cy = val B32 (p.take i) * val B32 q + x * pw B32 i * val B32 (q.take m)) (hx : x = p.getD i 0) :
    val B32 (out.set (i + m) cy) = val B32 (p.take (i + 1)) * val B32 q := by
  rw [val_set _ hk, hz, val_take_next p, ← hx]
  rw [hm, List.take_length] at h
  rw [hm]
  grind

theorem mul_bounds {x y : Int} (hx0 : 0 ≤ x) (hx1 : x ≤ 4294967295) (hy0 : 0 ≤ y) (hy1 : y ≤ 4294967295) : 0 ≤ x * y ∧ x * y ≤ 18446744065119617025 := by
  constructor
  · exact Int.mul_nonneg hx0 hy0
  · have h1 : x * y ≤ 4294967295 * y := Int.mul_le_mul_of_nonneg_right hx1 hy0
    omega

set_option maxRecDepth 100000 in
set_option maxHeartbeats 3200000 in
theorem int_mul (w : World) (a b : IV) (x y : Int) (ha : IntR w a x) (hb : IntR w b y) (s0 : a.n ≤ 1099511627776) (s1 : b.n ≤ 1099511627776) :
    Calls Tryz.prog 84 #[a.v, b.v] w (Ret w fun w' v => ∃ r : IV, v = r.v ∧ IntR w' r (x * y)) := by
  obtain ⟨s, A, n, c⟩ := a
  obtain ⟨t, B, m, d⟩ := b
  obtain ⟨u, ⟨p, hn, _, rp, ⟨dp, _⟩, rfl⟩, _, h3⟩ := ha
  obtain ⟨v, ⟨q, hm, _, rq, ⟨dq, _⟩, rfl⟩, _, k3⟩ := hb
  simp only at hn hm
  subst hn hm
  have HV : Hid (∀ z, (z = if (!(s == t)) = true then - (val B32 p * val B32 q) else val B32 p * val B32 q) → z = x * y) := by
    intro z hz
    subst h3 k3 hz
    cases s <;> cases t <;> simp <;> grind
  have HP : Hid (Rd w .u32 A p) := rp
  have HQ : Hid (Rd w .u32 B q) := rq
  have DP : Hid (Dig B32 p) := dp
  have DQ : Hid (Dig B32 q) := dq
  have s0' : p.length ≤ 1099511627776 := s0
  have s1' : q.length ≤ 1099511627776 := s1
  clear rp rq dp dq h3 k3 s0 s1
  go_enter Tryz.func84, Tryz.ntmps84
  go_wp2_with (at_make; refine make_blk _ rfl _ _ 67 rfl 145 (.int .u32 0) 4 Tryz.underlying67 info_u32 rfl .i64 .i64 _ _ (p.length + q.length) rfl rfl (by omega) (by omega) (by omega) (by omega) ?_; intro w1 hblk hx1; have hB : Blk w1 (w.heap.size + 1 + 1 + 1) 145 (List.replicate (p.length + q.length) (.int .u32 0)) := (by simpa using hblk); have hX1 : X w w1 := (((((X.refl w).alloc _).alloc _).alloc _).trans hx1); have b1 := (Blk.new w #[.bool s, .slice A p.length c] 69).x ((((X.refl _).alloc _).alloc _).trans hx1); have b2 := (Blk.new_at (g := w.heap.size + 1) _ #[.bool t, .slice B q.length d] 69 (by simp)).x (((X.refl _).alloc _).trans hx1); have b3 := (Blk.new_at (g := w.heap.size + 1 + 1) _ #[.bool false, .slice none 0 0] 69 (by simp)).x hx1; have HB1 := Hid.mk hB; have HX1 := Hid.mk hX1; have H1 := Hid.mk b1; have H2 := Hid.mk b2; have H3 := Hid.mk b3; have c1 := b1.cell (j := 1) rfl; clear hblk hx1 hB hX1 b1 b2 b3)
  clear c1
  go_loopw [22] (fun t22 wr => ∃ i : Nat, ∃ xs : List Int, i ≤ p.length ∧ t22 = .int .i64 i ∧ xs.length = p.length + q.length ∧ Dig B32 xs ∧ (∀ j, i + q.length ≤ j → j < xs.length → xs.getD j 0 = 0) ∧ val B32 xs = val B32 (p.take i) * val B32 q ∧ Blk wr (w.heap.size + 1 + 1 + 1) 145 (nums .u32 xs) ∧ X w wr ∧ Blk wr w.heap.size 69 [.bool s, .slice A p.length c] ∧ Blk wr (w.heap.size + 1) 69 [.bool t, .slice B q.length d] ∧ Blk wr (w.heap.size + 1 + 1) 69 [.bool false, .slice none 0 0]) (fun i _ => p.length - (intOf i).toNat)
  case atStart => exact ⟨0, List.replicate (p.length + q.length) 0, Nat.zero_le _, rfl, by simp, Dig.replicate B32_pos _, fun j _ _ => by simp [List.getD_eq_getElem?_getD, List.getElem?_replicate]; split <;> rfl, by simp [val_zeros], by rw [nums_zeros]; exact HB1.out, HX1.out, H1.out, H2.out, H3.out⟩
  case round =>
    obtain ⟨i, xs, hi, rfl, hxl, hd, hz, hv, hb, hx, b1, b2, b3⟩ := hrel
    obtain ⟨wo, rfl⟩ : ∃ wo : World, wo = wr := ⟨_, rfl⟩
    have HXL := Hid.mk hxl
    have HD := Hid.mk hd
    have HZ := Hid.mk hz
    have HVK := Hid.mk hv
    have HB := Hid.mk hb
    have HX := Hid.mk hx
    have H1 := Hid.mk b1
    have H2 := Hid.mk b2
    have H3 := Hid.mk b3
    clear hxl hd hz hv hb hx b1 b2 b3
    have k1 := H1.out.cell (j := 1) rfl
    have k2 := H2.out.cell (j := 1) rfl
    by_cases hlt : i < p.length
    · obtain ⟨bP, oP, rfl, gP⟩ := HP.out.2 (by omega)
      have e0 := HX.out.cell (gP i hlt)
      obtain ⟨u, hu⟩ : ∃ u, u = p.getD i 0 := ⟨_, rfl⟩
      rw [← hu] at e0
      have ⟨hu0, hu1⟩ : 0 ≤ u ∧ u ≤ 4294967295 := by rw [hu]; exact dig_le DP.out i
      have HU := Hid.mk hu
      clear gP hu
      have hk1 : (i : Int) < (p.length : Int) := by omega
      go_wp2
      go_loopw [8, 30] (fun t8 t30 wr => ∃ k : Nat, ∃ ys : List Int, ∃ cy : Int, k ≤ q.length ∧ t30 = .int .i64 k ∧ t8 = .int .u64 cy ∧ 0 ≤ cy ∧ cy ≤ 4294967295 ∧ ys.length = p.length + q.length ∧ Dig B32 ys ∧ (∀ j, i + q.length ≤ j → j < ys.length → ys.getD j 0 = 0) ∧ val B32 ys + pw B32 (i + k) * cy = val B32 (p.take i) * val B32 q + u * pw B32 i * val B32 (q.take k) ∧ Blk wr (w.heap.size + 1 + 1 + 1) 145 (nums .u32 ys) ∧ X w wr ∧ Blk wr w.heap.size 69 [.bool s, .slice (some ⟨bP, oP, none⟩) p.length c] ∧ Blk wr (w.heap.size + 1) 69 [.bool t, .slice B q.length d] ∧ Blk wr (w.heap.size + 1 + 1) 69 [.bool false, .slice none 0 0]) (fun _ k _ => q.length - (intOf k).toNat)
      case atStart => exact ⟨0, xs, 0, Nat.zero_le _, rfl, rfl, by omega, by omega, HXL.out, HD.out, HZ.out, by simpa using HVK.out, HB.out, HX.out, H1.out, H2.out, H3.out⟩
      case round =>
        clear HXL HD HZ HVK HB HX H1 H2 H3 k1 k2 e0
        obtain ⟨k, ys, cy, hk, rfl, rfl, hc0, hc1, hxl, hd, hz, hv, hb, hx, b1, b2, b3⟩ := hrel
        have HXL := Hid.mk hxl
        have HD := Hid.mk hd
        have HZ := Hid.mk hz
        have HVK := Hid.mk hv
        have HB := Hid.mk hb
        have HX := Hid.mk hx
        have H1 := Hid.mk b1
        have H2 := Hid.mk b2
        have H3 := Hid.mk b3
        clear hxl hd hz hv hb hx b1 b2 b3
        by_cases hkq : k < q.length
        · obtain ⟨bQ, oQ, rfl, gQ⟩ := HQ.out.2 (by omega)
          have e1 := HX.out.cell (gQ k hkq)
          obtain ⟨y, hy⟩ : ∃ y, y = q.getD k 0 := ⟨_, rfl⟩
          rw [← hy] at e1
          have ⟨hy0, hy1⟩ : 0 ≤ y ∧ y ≤ 4294967295 := by rw [hy]; exact dig_le DQ.out k
          have HY := Hid.mk hy
          clear gQ hy
          have hkq1 : (k : Int) < (q.length : Int) := by omega
          obtain ⟨z, hz⟩ : ∃ z, z = ys.getD (i + k) 0 := ⟨_, rfl⟩
          have ⟨hz0, hz1⟩ : 0 ≤ z ∧ z ≤ 4294967295 := by rw [hz]; exact dig_le HD.out (i + k)
          have eo := HB.out.int (j := i + k) (by have := HXL.out; omega)
          rw [← hz] at eo
          have ef := HB.out.frozen (i + k)
          have HZZ := Hid.mk hz
          clear hz
          have ⟨hm0, hm1⟩ := mul_bounds hu0 hu1 hy0 hy1
          go_wp2
          go_roundw
          case rel =>
            have hl : i + k < ys.length := by rw [HXL.out]; omega
            refine ⟨k + 1, ys.set (i + k) ((cy + (u * y + z)) % 4294967296), (cy + (u * y + z)) / 4294967296, by omega, by go_num, rfl, by omega, by omega, by rw [List.length_set]; exact HXL.out, HD.out.set _ (by omega) (by unfold B32; omega), fun j h1 h2 => ?_, mul_step hl HVK.out HY.out (by rw [← HZZ.out]), by rw [nums_set]; exact HB.out.set _ _, HX.out.set (p := ⟨w.heap.size + 1 + 1 + 1, i + k, none⟩) (by simp; omega) _, H1.out.other (by simp <;> omega) _, H2.out.other (by simp <;> omega) _, H3.out.other (by simp <;> omega) _⟩
            rw [List.length_set] at h2
            rw [List.getD_eq_getElem?_getD, List.getElem?_set_ne (by omega), ← List.getD_eq_getElem?_getD]
            exact HZ.out j h1 h2
          case measure => simp [intOf]; omega
        · obtain rfl : k = q.length := by omega
          have hl : i + q.length < ys.length := by rw [HXL.out]; omega
          have eo := HB.out.int (j := i + q.length) hl
          have ef := HB.out.frozen (i + q.length)
          have k2 := H2.out.cell (j := 1) rfl
          go_wp2
          go_roundw
          case rel =>
            refine ⟨i + 1, ys.set (i + q.length) cy, by omega, by go_num, by rw [List.length_set]; exact HXL.out, HD.out.set _ hc0 (by unfold B32; omega), fun j h1 h2 => ?_, mul_row rfl hl (HZ.out _ (Nat.le_refl _) hl) HVK.out HU.out, by rw [nums_set]; exact HB.out.set _ _, HX.out.set (p := ⟨w.heap.size + 1 + 1 + 1, i + q.length, none⟩) (by simp; omega) _, H1.out.other (by simp <;> omega) _, H2.out.other (by simp <;> omega) _, H3.out.other (by simp <;> omega) _⟩
            rw [List.length_set] at h2
            rw [List.getD_eq_getElem?_getD, List.getElem?_set_ne (by omega), ← List.getD_eq_getElem?_getD]
            exact HZ.out j (by omega) h2
          case measure => simp [intOf]; omega
    · obtain rfl : i = p.length := by omega
      have k3 := H1.out.cell (j := 0) rfl
      have k4 := H2.out.cell (j := 0) rfl
      have HR : Hid (RawR wo (.slice (some ⟨w.heap.size + 1 + 1 + 1, 0, none⟩) (p.length + q.length) (p.length + q.length)) (val B32 p * val B32 q)) := by
        have hl := HXL.out
        exact ⟨xs, _, p.length + q.length, by rw [hl], by omega, Blk.rd (e := 145) HB.out (by omega), HD.out, by rw [HVK.out, List.take_length]⟩
      clear k1 k2
      go_wp2_with fail
      refine (int_signed_raw _ _ _ _ HR.out).mono ?_
      rintro e w2 ⟨⟨v2, rfl, ⟨rn, rA, rl, rc⟩, rfl, hr2⟩, hx2⟩
      have g3 := H3.out.x hx2
      have k0 := g3.cell (j := 0) rfl
      have k1 := g3.cell (j := 1) rfl
      have f0 := g3.frozen 0
      have f1 := g3.frozen 1
      have K := two_cells (.bool rn) (.slice rA rl rc) k0 k1
      have hX := (((HX.out.trans hx2).set (p := ⟨w.heap.size + 1 + 1, 0, none⟩) (by simp; omega) (.bool rn)).set (p := ⟨w.heap.size + 1 + 1, 1, none⟩) (by simp; omega) (.slice rA rl rc))
      have hR := hr2.put2 g3 rn (.slice rA rl rc)
      rw [HV.out _ rfl] at hR
      have HXX := Hid.mk hX
      have HRR := Hid.mk hR
      clear hX hR hr2 hx2 g3 H1 H2 H3 HB HX HD HZ
      go_wp2
      exact bodyPost_ret (v := .agg #[.bool rn, .slice rA rl rc]) (by simp [results, Tryz.results84, go_sem, K.1, K.2]) rfl ⟨⟨_, rfl, ⟨rn, rA, rl, rc⟩, rfl, HRR.out⟩, HXX.out⟩
end Go.Proofs.YtogakaiibijjpaaGreatDoor

/- Package integer, ninth part: division by one digit. -/
set_option linter.unusedVariables false
set_option linter.unusedSimpArgs false
namespace Go.Proofs.YtogakaiibijjpaaGreatDoor
open Go.RowKit
open DDig

theorem or_high {x y : Int} (hx0 : 0 ≤ x) (hx1 : x ≤ 4294967295) (hy0 : 0 ≤ y) (hy1 : y ≤ 4294967295) : bits .or .u64 (x * 4294967296) y = x * 4294967296 + y :=
  bits_join .u64 64 (by decide) (fun n h0 h1 => by simp only [IntKind.wrap, IntKind.signed, IntKind.bits]; simp at h1 ⊢; omega) 32 _ _ (by omega) (by simp only [Int.reducePow]; omega) (by simp only [Int.reducePow]; omega) hy0 (by simp only [Int.reducePow]; omega) (by simp only [Int.reducePow]; omega)

theorem val_drop {b : Int} {xs : List Int} {k : Nat} (h : k < xs.length) : val b (xs.drop k) = xs.getD k 0 + b * val b (xs.drop (k + 1)) := by
  rw [List.drop_eq_getElem_cons h, val_cons, List.getD_eq_getElem?_getD, List.getElem?_eq_getElem h]; rfl

theorem val_drop_set {b : Int} {xs : List Int} {k : Nat} (h : k < xs.length) (v : Int) : val b ((xs.set k v).drop k) = v + b * val b (xs.drop (k + 1)) := by
  rw [val_drop (by simpa using h)]
  congr 1
  · simp [h]
  · rw [List.drop_set_of_lt (by omega)]

theorem short_step {m out : List Int} {k : Nat} {by_ rest : Int} (hk : k < out.length) (hm : k < m.length) (h : val B32 (m.drop (k + 1)) = by_ * val B32 (out.drop (k + 1)) + rest) (r : Int) (hr : r = rest * 4294967296 + m.getD k 0) :
    val B32 (m.drop k) = by_ * val B32 ((out.set k (r / by_)).drop k) + r % by_ := by
  rw [val_drop hm, val_drop_set hk, h]
  have e := Int.mul_ediv_add_emod r by_
  have e2 : m.getD k 0 = r - rest * 4294967296 := by omega
  rw [e2]
  unfold B32 at *
  grind

theorem short_bound {rest d y : Int} (h0 : 0 ≤ rest) (h1 : rest < y) (hd : 0 ≤ d ∧ d ≤ 4294967295) (hy : 0 < y) (hy1 : y ≤ 4294967295) : 0 ≤ (rest * 4294967296 + d) / y ∧ (rest * 4294967296 + d) / y ≤ 4294967295 ∧ 0 ≤ (rest * 4294967296 + d) % y ∧ (rest * 4294967296 + d) % y < y := by
  refine ⟨Int.ediv_nonneg (by omega) (by omega), ?_, Int.emod_nonneg _ (by omega), Int.emod_lt_of_pos _ hy⟩
  have : (rest * 4294967296 + d) / y < 4294967296 := Int.ediv_lt_of_lt_mul hy (by omega)
  omega

set_option maxRecDepth 100000 in
set_option maxHeartbeats 1000000 in
theorem int_short' (w : World) (A : Option Addr) (n c : Nat) (x y : Int) (h0 : MagR w A n c x) (hn : n ≤ 1099511627776) (hy0 : 0 < y) (hy1 : y ≤ 4294967295) :
    Calls Tryz.prog 102 #[.slice A n c, .int .u32 y] w (Ret w fun w' v => ∃ n' c', v = .tuple #[.slice (some ⟨w.heap.size, 0, none⟩) n' c', .int .u32 (x % y)] ∧ MagR w' (some ⟨w.heap.size, 0, none⟩) n' c' (x / y)) := by
  obtain ⟨p, rfl, _, r0, i0, rfl⟩ := h0
  have HP := Hid.mk r0
  have DP := Hid.mk i0.1
  clear r0 i0
  go_enter Tryz.func102, Tryz.ntmps102
  go_wp2_with (at_make; refine make_blk _ rfl _ _ 67 rfl 145 (.int .u32 0) 4 Tryz.underlying67 info_u32 rfl .i64 .i64 _ _ p.length rfl rfl rfl rfl (by omega) (by omega) ?_; intro w1 hblk hx1; have HB1 := Hid.mk hblk; have HX1 := Hid.mk hx1; clear hblk hx1)
  go_loopw [7, 8] (fun t7 t8 wr => ∃ k : Nat, ∃ xs : List Int, ∃ rest : Int, k ≤ p.length ∧ t8 = .int .i64 ((k : Int) - 1) ∧ t7 = .int .u64 rest ∧ 0 ≤ rest ∧ rest < y ∧ xs.length = p.length ∧ Dig B32 xs ∧ val B32 (p.drop k) = y * val B32 (xs.drop k) + rest ∧ Blk wr w.heap.size 145 (nums .u32 xs) ∧ X w wr) (fun _ i _ => (intOf i + 1).toNat)
  case atStart => exact ⟨p.length, List.replicate p.length 0, 0, Nat.le_refl _, rfl, rfl, by omega, by omega, by simp, Dig.replicate B32_pos _, by simp, by rw [nums_zeros]; exact HB1.out, HX1.out⟩
  case round =>
    obtain ⟨k, xs, rest, hk, rfl, rfl, hr0, hr1, hxl, hd, hv, hb, hx⟩ := hrel
    have HXL := Hid.mk hxl
    have HB := Hid.mk hb
    have HX := Hid.mk hx
    have HD := Hid.mk hd
    have HVK := Hid.mk hv
    clear hxl hb hx hd hv
    by_cases hk0 : 1 ≤ k
    · obtain ⟨i, rfl⟩ : ∃ i, k = i + 1 := ⟨k - 1, by omega⟩
      rw [show (((i + 1 : Nat) : Int) - 1) = (i : Int) by omega]
      obtain ⟨b0, o0, rfl, g0⟩ := HP.out.2 (by omega)
      have e0 := HX.out.cell (g0 i (by omega))
      clear g0
      obtain ⟨u, hu⟩ : ∃ u, u = p.getD i 0 := ⟨_, rfl⟩
      rw [← hu] at e0
      have ⟨hu0, hu1⟩ : 0 ≤ u ∧ u ≤ 4294967295 := by rw [hu]; exact dig_le DP.out i
      have HU := Hid.mk hu
      clear hu
      have hi1 : (i : Int) < (p.length : Int) := by omega
      have eo := HB.out.int (j := i) (by have := HXL.out; omega)
      have ef := HB.out.frozen i
      have hb0 : (y == 0) = false := by rw [beq_eq_false_iff_ne]; omega
      have hor := or_high (x := rest) hr0 (by omega) hu0 hu1
      have ⟨hq0, hq1, hm0, hm1⟩ := short_bound hr0 hr1 ⟨hu0, hu1⟩ hy0 hy1
      go_wp2
      go_roundw
      case rel => exact ⟨i, xs.set i ((rest * 4294967296 + u) / y), (rest * 4294967296 + u) % y, by omega, rfl, rfl, hm0, hm1, by rw [List.length_set]; exact HXL.out, HD.out.set _ hq0 (by unfold B32; omega), short_step (by have := HXL.out; omega) (by omega) HVK.out _ (by rw [← HU.out]), by rw [nums_set]; exact HB.out.set _ _, HX.out.set (p := ⟨w.heap.size, i, none⟩) (Nat.le_refl _) _⟩
      case measure => simp [intOf]
    · obtain rfl : k = 0 := by omega
      have hl := HXL.out
      have hval := HVK.out
      rw [List.drop_zero, List.drop_zero] at hval
      have hq : val B32 p / y = val B32 xs ∧ val B32 p % y = rest := by
        rw [hval, Int.add_comm]
        constructor
        · rw [Int.add_mul_ediv_left _ _ (by omega), Int.ediv_eq_zero_of_lt hr0 hr1]; simp
        · rw [Int.add_mul_emod_self_left, Int.emod_eq_of_lt hr0 hr1]
      have HQ := Hid.mk hq
      clear hq hval
      go_wp2_with fail
      have P := int_trim wr (some ⟨w.heap.size, 0, none⟩) p.length xs (by omega) (Blk.rd (e := 145) HB.out (by omega))
      rw [hl] at P
      refine P.mono ?_
      rintro e w2 ⟨⟨v, rfl, rfl⟩, hx2⟩
      have hM := trim_mag (c := p.length) (by omega) ((Blk.rd (e := 145) HB.out (by omega)).x hx2) HD.out
      rw [← HQ.out.1] at hM
      have HM := Hid.mk hM
      have HX2 := Hid.mk (HX.out.trans hx2)
      clear hx2 hM HB HX HB1 HX1 hl
      obtain ⟨n, hn⟩ : ∃ n, n = (trim xs).length := ⟨_, rfl⟩
      rw [← hn] at HM ⊢
      clear hn
      have hr2 : rest ≤ 4294967295 := by omega
      go_wp2
      go_ret2
      exact ⟨⟨_, rfl, _, _, by rw [HQ.out.2]; rfl, HM.out⟩, HX2.out⟩
theorem int_short (w : World) (A : Option Addr) (n c : Nat) (x y : Int) (h0 : MagR w A n c x) (hn : n ≤ 1099511627776) (hy0 : 0 < y) (hy1 : y ≤ 4294967295) :
    Calls Tryz.prog 102 #[.slice A n c, .int .u32 y] w (Ret w fun w' v => ∃ A' n' c', v = .tuple #[.slice A' n' c', .int .u32 (x % y)] ∧ MagR w' A' n' c' (x / y)) := by
  refine (int_short' w A n c x y h0 hn hy0 hy1).mono ?_
  rintro e w' ⟨⟨v, rfl, n', c', rfl, h⟩, hx⟩
  exact ⟨⟨_, rfl, _, n', c', rfl, h⟩, hx⟩
end Go.Proofs.YtogakaiibijjpaaGreatDoor

/- Package integer, tenth part: shifts of magnitudes. -/
set_option linter.unusedVariables false
set_option linter.unusedSimpArgs false
namespace Go.Proofs.YtogakaiibijjpaaGreatDoor
open Go.RowKit
open DDig

theorem pow_le31 {b : Nat} (hb : b ≤ 31) : (2 : Int) ^ b ≤ 2147483648 ∧ 0 < (2 : Int) ^ b := by
  have h : (2 : Nat) ^ b ≤ 2 ^ 31 := Nat.pow_le_pow_right (by omega) hb
  have h0 : 0 < (2 : Nat) ^ b := Nat.pow_pos (by omega)
  have e : ((2 ^ b : Nat) : Int) = (2 : Int) ^ b := by simp
  omega

theorem pow_dvd32 {b : Nat} (hb : b ≤ 31) : ∃ q : Int, 4294967296 = (2 : Int) ^ b * q := by
  refine ⟨(2 : Int) ^ (32 - b), ?_⟩
  rw [← Int.pow_add, show b + (32 - b) = 32 by omega]; rfl

theorem shl_mod {u : Int} {b : Nat} (hb : b ≤ 31) : (u * 2 ^ b % 4294967296) % 2 ^ b = 0 := by
  obtain ⟨q, hq⟩ := pow_dvd32 hb
  have ⟨h1, h2⟩ := pow_le31 hb
  rw [hq, Int.emod_emod_of_dvd _ (Int.dvd_mul_right _ _), Int.mul_emod_left]

theorem shl_room {u z : Int} {b : Nat} (hb : b ≤ 31) (hz : z < 2 ^ b) : z + u * 2 ^ b % 4294967296 ≤ 4294967295 := by
  obtain ⟨q, hq⟩ := pow_dvd32 hb
  have ⟨h1, h2⟩ := pow_le31 hb
  have h3 := Int.emod_lt_of_pos (u * 2 ^ b) (show (0 : Int) < 4294967296 by omega)
  have h4 := Int.mul_ediv_add_emod (u * 2 ^ b % 4294967296) (2 ^ b)
  rw [shl_mod hb] at h4
  have h5 : u * 2 ^ b % 4294967296 / 2 ^ b < q := by
    apply Int.ediv_lt_of_lt_mul h2
    rw [Int.mul_comm q, ← hq]; exact h3
  have h6 : 2 ^ b * (u * 2 ^ b % 4294967296 / 2 ^ b + 1) ≤ (2 : Int) ^ b * q := Int.mul_le_mul_of_nonneg_left (by omega) (by omega)
  rw [Int.mul_add] at h6
  omega

theorem or_low {u z : Int} {b : Nat} (hb : b ≤ 31) (hz0 : 0 ≤ z) (hz : z < 2 ^ b) : bits .or .u32 z (u * 2 ^ b % 4294967296) = z + u * 2 ^ b % 4294967296 := by
  have ⟨h1, h2⟩ := pow_le31 hb
  have hc : bits .or .u32 z (u * 2 ^ b % 4294967296) = bits .or .u32 (u * 2 ^ b % 4294967296) z := by simp only [bits, BitVec.or_comm]
  have h3 := Int.emod_lt_of_pos (u * 2 ^ b) (show (0 : Int) < 4294967296 by omega)
  have h4 := Int.emod_nonneg (u * 2 ^ b) (show (4294967296 : Int) ≠ 0 by omega)
  rw [hc, bits_join .u32 32 (by decide) (fun n h0 h1 => by rw [IntKind.wrap_u32]; omega) b _ _ h4 (shl_mod hb) (by simp only [Int.reducePow]; omega) hz0 hz (by simp only [Int.reducePow]; omega)]
  omega

theorem raised_step {xs p : List Int} {k b : Nat} {u z t : Int} (hk : k + 1 < xs.length) (h : val B32 (xs.take (k + 1)) = val B32 (p.take k) * 2 ^ b) (hz : z = xs.getD k 0) (hu : u = p.getD k 0) (ht : t = u * 2 ^ b) :
    val B32 (((xs.set k (z + t % 4294967296)).set (k + 1) (t / 4294967296)).take (k + 1 + 1)) = val B32 (p.take (k + 1)) * 2 ^ b := by
  rw [val_take_set (by simpa using hk), val_take_set (by omega), val_take_next p, ← hu, pw_succ]
  rw [val_take_succ (by omega), ← hz] at h
  have e : t = t % 4294967296 + B32 * (t / 4294967296) := by unfold B32; omega
  have e2 : pw B32 k * t = pw B32 k * (t % 4294967296) + B32 * pw B32 k * (t / 4294967296) := by
    have : t % 4294967296 = t - B32 * (t / 4294967296) := by omega
    rw [this]; grind
  rw [Int.add_mul, ← h, show pw B32 k * u * 2 ^ b = pw B32 k * t by rw [ht, Int.mul_assoc], e2]
  grind

set_option maxRecDepth 100000 in
set_option maxHeartbeats 1000000 in
theorem int_raised (w : World) (A : Option Addr) (n c : Nat) (x : Int) (b : Nat) (h0 : MagR w A n c x) (hn : n ≤ 1099511627776) (hb : b ≤ 31) :
    Calls Tryz.prog 165 #[.slice A n c, .int .i64 b] w (Ret w fun w' v => ∃ xs g, v = .slice (some ⟨g, 0, none⟩) xs.length xs.length ∧ xs.length = n + 1 ∧ w.heap.size ≤ g ∧ Blk w' g 145 (nums .u32 xs) ∧ Dig B32 xs ∧ val B32 xs = x * 2 ^ b) := by
  obtain ⟨p, rfl, _, r0, i0, rfl⟩ := h0
  have HP := Hid.mk r0
  have DP := Hid.mk i0.1
  clear r0 i0
  go_enter Tryz.func165, Tryz.ntmps165
  go_wp2_with (at_make; refine make_blk _ rfl _ _ 67 rfl 145 (.int .u32 0) 4 Tryz.underlying67 info_u32 rfl .i64 .i64 _ _ (p.length + 1) rfl rfl (by omega) (by omega) (by omega) (by omega) ?_; intro w1 hblk hx1; have HB1 := Hid.mk hblk; have HX1 := Hid.mk hx1; clear hblk hx1)
  go_loopw [14] (fun t14 wr => ∃ k : Nat, ∃ xs : List Int, k ≤ p.length ∧ t14 = .int .i64 k ∧ xs.length = p.length + 1 ∧ Dig B32 xs ∧ xs.getD k 0 < 2 ^ b ∧ val B32 (xs.take (k + 1)) = val B32 (p.take k) * 2 ^ b ∧ Blk wr w.heap.size 145 (nums .u32 xs) ∧ X w wr) (fun i _ => p.length - (intOf i).toNat)
  case atStart => exact ⟨0, List.replicate (p.length + 1) 0, Nat.zero_le _, rfl, by simp, Dig.replicate B32_pos _, by have := (pow_le31 hb).2; simp [List.getD_eq_getElem?_getD, List.getElem?_replicate]; omega, by rw [List.take_replicate, val_zeros]; simp, by rw [nums_zeros]; exact HB1.out, HX1.out⟩
  case round =>
    obtain ⟨k, xs, hk, rfl, hxl, hd, hlow, hv, hbk, hx⟩ := hrel
    have HXL := Hid.mk hxl
    have HB := Hid.mk hbk
    have HX := Hid.mk hx
    have HD := Hid.mk hd
    have HVK := Hid.mk hv
    have HLOW := Hid.mk hlow
    clear hxl hbk hx hd hv hlow
    by_cases hk0 : k < p.length
    · obtain ⟨b0, o0, rfl, g0⟩ := HP.out.2 (by omega)
      have e0 := HX.out.cell (g0 k (by omega))
      clear g0
      obtain ⟨u, hu⟩ : ∃ u, u = p.getD k 0 := ⟨_, rfl⟩
      rw [← hu] at e0
      have ⟨hu0, hu1⟩ : 0 ≤ u ∧ u ≤ 4294967295 := by rw [hu]; exact dig_le DP.out k
      have HU := Hid.mk hu
      clear hu
      have hi1 : (k : Int) < (p.length : Int) := by omega
      obtain ⟨z, hz⟩ : ∃ z, z = xs.getD k 0 := ⟨_, rfl⟩
      have eo := HB.out.int (j := k) (by have := HXL.out; omega)
      rw [← hz] at eo
      have ⟨hz0, hz1⟩ : 0 ≤ z ∧ z ≤ 4294967295 := by rw [hz]; exact dig_le HD.out k
      have HZ := Hid.mk hz
      clear hz
      have ef := HB.out.frozen k
      have eo1 := HB.out.int (j := k + 1) (by have := HXL.out; omega)
      have ef1 := HB.out.frozen (k + 1)
      have hzl : z < 2 ^ b := by rw [HZ.out]; exact HLOW.out
      have hor := or_low (u := u) hb hz0 hzl
      have hrm := shl_room (u := u) hb hzl
      have ⟨hp1, hp0⟩ := pow_le31 hb
      have ht0 : 0 ≤ u * 2 ^ b := Int.mul_nonneg hu0 (by omega)
      have ht1 : u * 2 ^ b / 4294967296 < 2 ^ b := by
        apply Int.ediv_lt_of_lt_mul (by omega)
        rw [Int.mul_comm]
        exact Int.mul_lt_mul_of_pos_left (by omega) hp0
      have ht2 : u * 2 ^ b ≤ 9223372034707292160 := by
        have : u * 2 ^ b ≤ 4294967295 * 2147483648 := Int.mul_le_mul hu1 hp1 (by omega) (by omega)
        omega
      have HZL := Hid.mk hzl
      have HT1 := Hid.mk ht1
      have HP0 := Hid.mk (And.intro hp0 hp1)
      clear hzl ht1 hp0 hp1
      go_wp2
      go_region
      go_wp2
      go_roundw
      case rel =>
        have hl := HXL.out
        have hp := HP0.out
        have ht1 := HT1.out
        have h4 := Int.emod_nonneg (u * 2 ^ b) (show (4294967296 : Int) ≠ 0 by omega)
        refine ⟨k + 1, (xs.set k (z + u * 2 ^ b % 4294967296)).set (k + 1) (u * 2 ^ b / 4294967296), by omega, by go_num, by rw [List.length_set, List.length_set]; exact hl, (HD.out.set _ (by omega) (by unfold B32; omega)).set _ (Int.ediv_nonneg ht0 (by omega)) (by unfold B32; omega), ?_, raised_step (by omega) HVK.out HZ.out HU.out rfl, ?_, ((HX.out.set (p := ⟨w.heap.size, k, none⟩) (Nat.le_refl _) _).set (p := ⟨w.heap.size, k + 1, none⟩) (Nat.le_refl _) _).drew⟩
        · rw [List.getD_eq_getElem?_getD, List.getElem?_set_self (by rw [List.length_set]; omega)]
          exact ht1
        · rw [nums_set, nums_set]; exact ((HB.out.set _ _).set _ _)
      case measure => simp [intOf]; omega
    · obtain rfl : k = p.length := by omega
      have hl := HXL.out
      have HF : Hid (∃ xs g, Value.slice (some ⟨w.heap.size, 0, none⟩) (p.length + 1) (p.length + 1) = .slice (some ⟨g, 0, none⟩) xs.length xs.length ∧ xs.length = p.length + 1 ∧ w.heap.size ≤ g ∧ Blk wr g 145 (nums .u32 xs) ∧ Dig B32 xs ∧ val B32 xs = val B32 p * 2 ^ b) :=
        ⟨xs, _, by rw [hl], hl, Nat.le_refl _, HB.out, HD.out, by have := HVK.out; rwa [List.take_length, List.take_of_length_le (by omega)] at this⟩
      clear hl
      go_wp2
      go_ret
      exact ⟨⟨_, rfl, HF.out⟩, HX.out⟩
end Go.Proofs.YtogakaiibijjpaaGreatDoor

/- Package integer, eleventh part: a copy of digits, and magnitudes divided by a power of 2. -/
set_option linter.unusedVariables false
set_option linter.unusedSimpArgs false
namespace Go.Proofs.YtogakaiibijjpaaGreatDoor
open Go.RowKit
open DDig

theorem Rd.news {w : World} {k : IntKind} {ad : Addr} {xs : List Int} (h : Rd w k (some ad) xs) : ∀ j u, (nums k xs)[j]? = some u → w.cell? (ad.add j) = some u := by
  intro j u hj
  have hl : j < xs.length := by
    have := (List.getElem?_eq_some_iff.1 hj).1
    rwa [nums_length] at this
  obtain ⟨b, o, e, hc⟩ := h.2 (by omega)
  injection e with e
  subst e
  rw [nums_get hl] at hj
  injection hj with hj
  subst hj
  have : (⟨b, o, none⟩ : Addr).add j = ⟨b, o + j, none⟩ := by unfold Addr.add; split <;> simp_all
  rw [this]
  exact hc j hl

set_option maxRecDepth 100000 in
set_option maxHeartbeats 1000000 in
theorem clone_u32 (w : World) (A : Option Addr) (c : Nat) (xs : List Int) (h : Rd w .u32 A xs) (hn : xs.length ≤ 1099511627776) (hnil : A = none → xs = []) :
    Calls Tryz.prog 184 #[.slice A xs.length c] w (Ret w fun w' v => w'.ownsRow w.heap.size 145 1 v xs.length (nums .u32 xs)) := by
  cases A with
  | none =>
    obtain rfl := hnil rfl
    clear hnil h
    have heq := fun (w : World) (n c : Nat) => Lib.run_eql_slice_nil (P := Tryz.prog) w 67 145 none n c 0 0 Tryz.underlying67
    go_enter Tryz.func184, Tryz.ntmps184
    go_wp2
    go_ret
    exact ⟨⟨_, rfl, World.ownsRow_nil _ _ _ _⟩, X.refl w⟩
  | some ad =>
    have H := Hid.mk h
    clear h hnil
    have heq := fun (w : World) (n c : Nat) => Lib.run_eql_slice_nil (P := Tryz.prog) w 67 145 (some ad) n c 0 0 Tryz.underlying67
    go_enter Tryz.func184, Tryz.ntmps184
    go_wp2_with (at_builtin; refine append_own _ rfl _ _ 67 rfl w.heap.size 145 (.int .u32 0) 1 4 Tryz.underlying67 info_u32 rfl (by omega) (.slice (some ⟨w.heap.size, 0, none⟩) 0 0) 0 [] rfl (World.ownsRow_made w #[] 0 (Nat.le_refl _) (by simp) rfl) ad xs.length c (nums .u32 xs) rfl (by rw [nums_length]; omega) (by exact (H.out.x ((X.refl w).alloc _)).news) (nums_one _ _) (by omega) (by omega) (by simp) ?_; intro v1 w1 ho1 hg1; have HO := Hid.mk ho1; have HX := Hid.mk (((X.refl w).alloc _).grown hg1 (fun k hk => by injection hk with hk; subst hk; exact Nat.le_refl _)); clear ho1 hg1)
    go_ret
    have ho := HO.out
    rw [Nat.zero_add, List.nil_append] at ho
    exact ⟨⟨_, rfl, ho⟩, HX.out⟩

/-- A row of the call's own, opened: its block, with what lies behind its elements. -/
theorem own_open {w : World} {base : Nat} {e : TypeId} {k : IntKind} {v : Value} {xs : List Int} (h : w.ownsRow base e 1 v xs.length (nums k xs)) (hx : 0 < xs.length) : ∃ g cap rest, v = .slice (some ⟨g, 0, none⟩) xs.length cap ∧ base ≤ g ∧ xs.length ≤ cap ∧ Blk w g e (nums k xs ++ rest) := by
  rcases h.2 with ⟨_, h0⟩ | ⟨g, cap, cur, hv, hg, hb, h1, h2, h3, h4⟩
  · omega
  · refine ⟨g, cap, cur.toList.drop (xs.length * 1), hv, hg, h1, ?_⟩
    unfold Blk
    rw [hb, ← h4, List.take_append_drop]

theorem Blk.int' {w : World} {g : Nat} {e : TypeId} {k : IntKind} {xs : List Int} {rest : List Value} (h : Blk w g e (nums k xs ++ rest)) {j : Nat} (hj : j < xs.length) : w.cell? ⟨g, j, none⟩ = some (.int k (xs.getD j 0)) :=
  h.cell (by rw [List.getElem?_append_left (by rw [nums_length]; exact hj)]; exact nums_get hj)
theorem Blk.set' {w : World} {g : Nat} {e : TypeId} {k : IntKind} {xs : List Int} {rest : List Value} (h : Blk w g e (nums k xs ++ rest)) {j : Nat} (hj : j < xs.length) (x : Int) : Blk (w.setCell ⟨g, j, none⟩ (.int k x)) g e (nums k (xs.set j x) ++ rest) := by
  have := h.set j (.int k x)
  rwa [List.set_append_left _ _ (by rw [nums_length]; exact hj), ← nums_set] at this
theorem Blk.rd' {w : World} {g : Nat} {e : TypeId} {k : IntKind} {xs : List Int} {rest : List Value} (h : Blk w g e (nums k xs ++ rest)) (hm : xs.length ≤ 9223372036854775807) : Rd w k (some ⟨g, 0, none⟩) xs :=
  ⟨hm, fun _ => ⟨g, 0, rfl, fun j hj => by rw [Nat.zero_add]; exact h.int' hj⟩⟩

theorem lower_digit {u v : Int} {b : Nat} (hb : b ≤ 31) (hu0 : 0 ≤ u) (hu1 : u ≤ 4294967295) (hv0 : 0 ≤ v) (hv1 : v ≤ 4294967295) :
    bits .or .u32 (u / 2 ^ b) (v * 4294967296 / 2 ^ b % 4294967296) = u / 2 ^ b + v * 4294967296 / 2 ^ b % 4294967296 ∧ (u / 2 ^ b + v * 4294967296 / 2 ^ b % 4294967296) * 2 ^ b = u - u % 2 ^ b + v % 2 ^ b * 4294967296 ∧ u / 2 ^ b + v * 4294967296 / 2 ^ b % 4294967296 ≤ 4294967295 := by
  have ⟨h1, h2⟩ := pow_le31 hb
  obtain ⟨q, hq⟩ := pow_dvd32 hb
  have hq0 : 0 < q := by
    apply Int.lt_of_mul_lt_mul_left (a := 2 ^ b) _ (by omega)
    rw [← hq]; omega
  have hr0 := Int.emod_nonneg v (show (2 : Int) ^ b ≠ 0 by omega)
  have hr1 := Int.emod_lt_of_pos v h2
  have hsp := Int.mul_ediv_add_emod v (2 ^ b)
  have e1 : v * 4294967296 / 2 ^ b = v * q := by
    rw [hq, show v * (2 ^ b * q) = (v * q) * 2 ^ b by grind, Int.mul_ediv_cancel _ (by omega)]
  have hrq : v % 2 ^ b * q < 4294967296 := by
    rw [hq]; exact Int.mul_lt_mul_of_pos_right hr1 hq0
  have e2 : v * q % 4294967296 = v % 2 ^ b * q := by
    have : v * q = v % 2 ^ b * q + 4294967296 * (v / 2 ^ b) := by
      rw [hq]
      have : v * q = (2 ^ b * (v / 2 ^ b) + v % 2 ^ b) * q := by rw [hsp]
      rw [this]; grind
    rw [this, Int.add_mul_emod_self_left, Int.emod_eq_of_lt (Int.mul_nonneg hr0 (by omega)) hrq]
  rw [e1, e2]
  have hu2 : u / 2 ^ b < q := by
    apply Int.ediv_lt_of_lt_mul h2
    rw [Int.mul_comm, ← hq]; omega
  have hu3 : 0 ≤ u / 2 ^ b := Int.ediv_nonneg hu0 (by omega)
  have hrq0 : 0 ≤ v % 2 ^ b * q := Int.mul_nonneg hr0 (by omega)
  have hsum : u / 2 ^ b + v % 2 ^ b * q < 4294967296 := by
    have h5 : (v % 2 ^ b + 1) * q ≤ 2 ^ b * q := Int.mul_le_mul_of_nonneg_right (by omega) (by omega)
    rw [← hq, Int.add_mul] at h5
    omega
  refine ⟨?_, ?_, by omega⟩
  · -- the parts share no bit: q is a power of 2
    have hqp : q = 2 ^ (32 - b) := by
      have e : (2 : Int) ^ b * q = 2 ^ b * 2 ^ (32 - b) := by
        rw [← hq, ← Int.pow_add, show b + (32 - b) = 32 by omega]; rfl
      exact Int.eq_of_mul_eq_mul_left (by omega) e
    have hc : bits .or .u32 (u / 2 ^ b) (v % 2 ^ b * q) = bits .or .u32 (v % 2 ^ b * q) (u / 2 ^ b) := by simp only [bits, BitVec.or_comm]
    rw [hc, bits_join .u32 32 (by decide) (fun n h0 h1 => by rw [IntKind.wrap_u32]; omega) (32 - b) _ _ hrq0 (by rw [hqp, Int.mul_emod_left]) (by simp only [Int.reducePow]; omega) hu3 (by rw [← hqp]; exact hu2) (by simp only [Int.reducePow]; omega)]
    omega
  · have h6 := Int.mul_ediv_add_emod u (2 ^ b)
    rw [Int.add_mul, hq]
    have : v % 2 ^ b * q * 2 ^ b = v % 2 ^ b * (2 ^ b * q) := by grind
    rw [this]
    have : u / 2 ^ b * 2 ^ b = 2 ^ b * (u / 2 ^ b) := Int.mul_comm _ _
    omega

theorem lowered_step {m out : List Int} {i b : Nat} {d r0 : Int} (hi : i < out.length) (h : val B32 (out.take i) * 2 ^ b = val B32 (m.take i) - r0 + m.getD i 0 % 2 ^ b * pw B32 i) (hd : d * 2 ^ b = m.getD i 0 - m.getD i 0 % 2 ^ b + m.getD (i + 1) 0 % 2 ^ b * 4294967296) :
    val B32 ((out.set i d).take (i + 1)) * 2 ^ b = val B32 (m.take (i + 1)) - r0 + m.getD (i + 1) 0 % 2 ^ b * pw B32 (i + 1) := by
  rw [val_take_set hi, val_take_next m, Int.add_mul, h, pw_succ, show pw B32 i * d * 2 ^ b = pw B32 i * (d * 2 ^ b) by grind, hd]
  unfold B32; grind

end Go.Proofs.YtogakaiibijjpaaGreatDoor

/- Reference 01 (decimal digits), first part: trim. -/
set_option linter.unusedVariables false
set_option linter.unusedSimpArgs false
namespace Go.Proofs.YtogakaiibijjpaaGreatDoor
open Go.RowKit
open DDig

/-- A slice and what the reference's trim leaves of it. -/
theorem ref_trim (w : World) (A : Option Addr) (c : Nat) (xs : List Int) (hc : xs.length ≤ c) (h0 : Rd w .i64 A xs) :
    Calls Tryz.prog 140 #[.slice A xs.length c] w (Ret w fun _ v => v = .slice A (trim xs).length c) := by
  have hm := h0.1
  have H0 : Hid (Rd w .i64 A xs) := h0
  clear h0
  go_enter Tryz.func140, Tryz.ntmps140
  go_wp2_with fail
  go_loopw [3] (fun t wr => ∃ k : Nat, ∃ q, k ≤ xs.length ∧ t = .int .i64 k ∧ wr = w.drewN q ∧ trim xs = trim (xs.take k)) (fun t _ => (intOf t).toNat)
  case atStart => exact ⟨xs.length, 0, Nat.le_refl _, rfl, rfl, by rw [List.take_length]⟩
  case round =>
    obtain ⟨k, q, hk, rfl, rfl, heq⟩ := hrel
    have HE : Hid (trim xs = trim (xs.take k)) := heq
    clear heq
    by_cases hk0 : 0 < k
    · obtain ⟨i, rfl⟩ : ∃ i, k = i + 1 := ⟨k - 1, by omega⟩
      obtain ⟨b0, o0, rfl, g0⟩ := H0.out.2 (by omega)
      have e0 := g0 i (by omega)
      clear g0
      obtain ⟨x, hx⟩ : ∃ x, x = xs.getD i 0 := ⟨_, rfl⟩
      rw [← hx] at e0
      have HX : Hid (x = xs.getD i 0) := hx
      clear hx
      by_cases hx0 : x = 0
      · have HT : Hid (trim (xs.take (i + 1)) = trim (xs.take i)) := take_succ_getD (by omega) (by rw [← HX.out]; exact hx0)
        subst hx0
        go_wp2
        go_roundw
        case rel => exact ⟨i, _, by omega, by go_num, rfl, HE.out.trans HT.out⟩
        case measure => simp [intOf]
      · have HT : Hid (trim (xs.take (i + 1)) = xs.take (i + 1)) := take_succ_getD_ne (by omega) (by rw [← HX.out]; exact hx0)
        have hb : (x == 0) = false := by rw [beq_eq_false_iff_ne]; exact hx0
        go_wp2
        go_ret
        refine ⟨⟨_, rfl, ?_⟩, (X.refl w).drewN _⟩
        rw [HE.out, HT.out, List.length_take, Nat.min_eq_left (by omega)]; simp
    · obtain rfl : k = 0 := by omega
      go_wp2
      go_ret
      refine ⟨⟨_, rfl, ?_⟩, (X.refl w).drewN _⟩
      rw [HE.out, List.take_zero]; rfl
end Go.Proofs.YtogakaiibijjpaaGreatDoor
