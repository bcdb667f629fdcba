/- Lemmas for the proof, part 2: S2, S3, S4, S5, S6, S7, S8, S9, S10, S11, S12, I12, I13. -/
import Derived.Test.YtogakaiibijjpaaGreatDoorW1
import Derived.Laws.BytesArg
import Derived.Laws.AppendOwnNone
import Derived.BigRegion
/- Reference 01 (decimal digits), second part: texts of integers, digits. -/
set_option linter.unusedVariables false
set_option linter.unusedSimpArgs false
namespace Go.Proofs.YtogakaiibijjpaaGreatDoor
open Go.RowKit
open DDig

theorem info_int : (Tryz.prog.info? 3).map (fun i => (i.zero, i.size, i.bytes)) = some (some (.int .i64 0), 1, 8) := by kernel_rfl
theorem info_byte : (Tryz.prog.info? 5).map (fun i => (i.zero, i.size, i.bytes)) = some (some (.int .u8 0), 1, 1) := by kernel_rfl

/-- 'append(out, x)': one element of so many cells. -/
theorem append_lit {P : Program} (w0 w : World) {ops : Array Oper} {rest : List Oper} {o : Oper} {a : Act} {Q : Exit → Act → World → Prop} (hgd : o.guard = none) (s x : Operand) (t : TypeId)
    (ho : o.op = .call { callee := .builtin .append, args := #[s, x], argTypes := #[t, t] })
    (e : TypeId) (z : Value) (size bytes : Nat) (ht : P.underlying t = some (.slice e)) (h2 : (P.info? e).map (fun i => (i.zero, i.size, i.bytes)) = some (some z, size, bytes)) (hzs : z.cells.size = size) (hsz : 0 < size)
    (v : Value) (n : Nat) (xs : List Value) (hs : a.eval s = v) (hown : w.ownsRow w0.heap.size e size v n xs)
    (cs : Array Value) (e' : TypeId) (c : Nat) (hx : a.eval x = .slice (some ⟨w.heap.size, 0, none⟩) 1 c) (hl : cs.size = size) (h1 : ∀ u ∈ cs.toList, u.oneCell' = true)
    (hb : (n + 1) * bytes ≤ 140737488355328) (h63 : n + 1 ≤ 9223372036854775807) (hX : X w0 w)
    (h : ∀ v' w', w'.ownsRow w0.heap.size e size v' (n + 1) (xs ++ cs.toList) → X w0 w' → wpList P ops Q rest (a.put o.dst v') w') : wpList P ops Q (o :: rest) a (w.alloc (.cells cs e')) := by
  refine append_own (w.alloc (.cells cs e')) hgd s x t ho w0.heap.size e z size bytes ht h2 hzs hsz v n xs hs (hown.alloc _) ⟨w.heap.size, 0, none⟩ 1 c cs.toList hx (by simpa using hl) ?_ h1 h63 hb (hX.alloc _).size (fun v' w' h3 h4 => h v' w' h3 ((hX.alloc _).grown h4 (own_ge hown)))
  intro j u hj
  have := (Blk.new w cs e').cell hj
  have e2 : (⟨w.heap.size, 0, none⟩ : Addr).add j = ⟨w.heap.size, j, none⟩ := by unfold Addr.add; split <;> simp_all
  rw [e2]; exact this

theorem own_rd {w : World} {base : Nat} {e : TypeId} {k : IntKind} {v : Value} {xs : List Int} (h : w.ownsRow base e 1 v xs.length (nums k xs)) : ∃ A c, v = .slice A xs.length c ∧ xs.length ≤ c ∧ Rd w k A xs ∧ (A = none → xs = [] ∧ c = 0) := by
  rcases h.2 with ⟨h1, h0⟩ | ⟨g, cap, cur, hv, hg, hb, h1, h2, h3, h4⟩
  · have : xs = [] := List.eq_nil_of_length_eq_zero h0
    subst this
    exact ⟨none, 0, h1, Nat.zero_le _, Rd.nil _ _ _, fun _ => ⟨rfl, rfl⟩⟩
  · refine ⟨some ⟨g, 0, none⟩, cap, hv, h1, ?_, by simp⟩
    have hB : Blk w g e (nums k xs ++ cur.toList.drop (xs.length * 1)) := by
      unfold Blk
      rw [hb, ← h4, List.take_append_drop]
    exact hB.rd' (by unfold maxLen at h2; omega)

/-- A slice whose block is none of the first b. -/
def Fresh (b : Nat) (v : Value) : Prop := ∀ ad n c, v = .slice (some ad) n c → b ≤ ad.block
theorem own_fresh {w : World} {base : Nat} {e : TypeId} {size n : Nat} {v : Value} {xs : List Value} (h : w.ownsRow base e size v n xs) : Fresh base v := by
  intro ad m c hv
  exact (h.lt ad.block (by rw [hv]; rfl)).1
theorem Fresh.cut {b : Nat} {A : Option Addr} {n c m d : Nat} (h : Fresh b (.slice A n c)) : Fresh b (.slice A m d) := by
  intro ad m' c' hv
  injection hv with h1 h2 h3
  subst h1
  exact h ad n c rfl
theorem Rd.far {w : World} {k : IntKind} {A : Option Addr} {xs : List Int} (h : Rd w k A xs) {p : Addr} (hp : ∀ ad, A = some ad → ad.block ≠ p.block) (v : Value) : Rd (w.setCell p v) k A xs := by
  refine ⟨h.1, fun h0 => ?_⟩
  obtain ⟨b, o, e, hc⟩ := h.2 h0
  refine ⟨b, o, e, fun j hj => ?_⟩
  rw [World.cell?_setCell_other _ _ _ _ ?_]
  · exact hc j hj
  · intro e'
    exact hp _ e (by rw [e'])

/-- A byte of a text. -/
def bty (s : ByteArray) (i : Nat) : Int := ((s.data.toList.getD i 0).toNat : Int)
theorem index_byte {P : Program} (t : TypeId) (h : P.underlying t = some .string) (s : ByteArray) (k : IntKind) (i : Nat) (hi : i < s.size) (w : World) :
    (Instr.index t (.string s) (.int k (i : Int))).run P w = .ok (.int .u8 (bty s i)) w := by
  rw [run_index_string w t s k i h, dif_pos ⟨by omega, by omega⟩]
  have hi' : i < s.data.toList.length := by simpa using hi
  have : bty s i = ((s[i]'hi).toNat : Int) := by
    unfold bty
    rw [List.getD_eq_getElem?_getD, List.getElem?_eq_getElem hi']
    simp [ByteArray.getElem_eq_getElem_data]
  rw [this]
  simp
theorem bty_range (s : ByteArray) (i : Nat) : 0 ≤ bty s i ∧ bty s i ≤ 255 := by
  unfold bty
  have := (s.data.toList.getD i 0).toNat_lt
  omega

/-- The digits of a text, the lowest one first. -/
def dgs (bs : List UInt8) : List Int := (bs.filter (· != 45)).reverse.map fun b => (b.toNat : Int) - 48
theorem dgs_cons (b : UInt8) (bs : List UInt8) : dgs (b :: bs) = if b = 45 then dgs bs else dgs bs ++ [(b.toNat : Int) - 48] := by
  unfold dgs
  by_cases h : b = 45 <;> simp [h]
theorem dgs_length (bs : List UInt8) : (dgs bs).length ≤ bs.length := by
  unfold dgs
  simp only [List.length_map, List.length_reverse]
  exact List.length_filter_le _ _

set_option maxHeartbeats 1000000 in
theorem ref_digits (w : World) (s : ByteArray) (hn : s.size ≤ 1099511627776) :
    Calls Tryz.prog 119 #[.string s] w (Ret w fun w' v => ∃ A c, v = .slice A (trim (dgs s.data.toList)).length c ∧ (trim (dgs s.data.toList)).length ≤ c ∧ Rd w' .i64 A (trim (dgs s.data.toList))) := by
  obtain ⟨bs, hbs⟩ : ∃ bs, bs = s.data.toList := ⟨_, rfl⟩
  have hsz : bs.length = s.size := by rw [hbs]; simp
  rw [← hbs]
  have HB := Hid.mk hbs
  clear hbs
  go_enter Tryz.func119, Tryz.ntmps119
  go_wp2_with fail
  go_loopw [3, 4] (fun t3 t4 wr => ∃ k : Nat, k ≤ bs.length ∧ t4 = .int .i64 ((k : Int) - 1) ∧ wr.ownsRow w.heap.size 3 1 t3 (dgs (bs.drop k)).length (nums .i64 (dgs (bs.drop k))) ∧ X w wr) (fun _ t _ => (intOf t + 1).toNat)
  case atStart => exact ⟨bs.length, Nat.le_refl _, by rw [hsz], by simpa [dgs, nums] using World.ownsRow_nil w w.heap.size 3 1, X.refl w⟩
  case round =>
    obtain ⟨k, hk, rfl, ho, hx⟩ := hrel
    have HO := Hid.mk ho
    have HX := Hid.mk hx
    clear ho hx
    by_cases hk0 : 0 < k
    · obtain ⟨i, rfl⟩ : ∃ i, k = i + 1 := ⟨k - 1, by omega⟩
      rw [show (((i + 1 : Nat) : Int) - 1) = (i : Int) by omega]
      have hix := fun w => index_byte (P := Tryz.prog) 9 Tryz.underlying9 s .i64 i (by omega) w
      have hr := bty_range s i
      obtain ⟨x, hx⟩ : ∃ x, x = bty s i := ⟨_, rfl⟩
      rw [← hx] at hix hr
      have hdrop : bs.drop i = bs.getD i 0 :: bs.drop (i + 1) := by
        rw [List.drop_eq_getElem_cons (by omega), List.getD_eq_getElem?_getD, List.getElem?_eq_getElem (by omega)]; rfl
      have hbx : x = ((bs.getD i 0).toNat : Int) := by rw [hx, bty, HB.out]
      have HD : Hid (dgs (bs.drop i) = if x = 45 then dgs (bs.drop (i + 1)) else dgs (bs.drop (i + 1)) ++ [x - 48]) := by
        show dgs (bs.drop i) = _
        rw [hdrop, dgs_cons]
        have : bs.getD i 0 = 45 ↔ x = 45 := by
          rw [hbx]
          constructor
          · intro h; rw [h]; rfl
          · intro h
            have h' : (bs.getD i 0).toNat = 45 := by omega
            exact UInt8.toNat_inj.1 h'
        rw [hbx] at this ⊢
        simp only [this]
      clear hdrop hbx hx
      have hl := dgs_length (bs.drop (i + 1))
      rw [List.length_drop] at hl
      by_cases h45 : x = 45
      · subst h45
        go_wp2
        go_roundw
        case rel =>
          refine ⟨i, by omega, by go_num, ?_, HX.out⟩
          rw [HD.out, if_pos rfl]; exact HO.out
        case measure => simp [intOf]
      · have hne : (x != 45) = true := by simpa using h45
        go_wp2_with (at_builtin; refine append_lit w _ rfl _ _ 30 rfl 3 (.int .i64 0) 1 8 Tryz.underlying30 info_int rfl (by omega) _ _ _ rfl HO.out _ _ _ rfl rfl (by simp [Value.oneCell']) (by omega) (by omega) HX.out ?_; intro v1 w1 ho1 hx1; have HO1 := Hid.mk ho1; have HX1 := Hid.mk hx1; clear ho1 hx1)
        go_roundw
        case rel =>
          refine ⟨i, by omega, by go_num, ?_, HX1.out⟩
          rw [HD.out, if_neg h45]
          have := HO1.out
          simpa [nums] using this
        case measure => simp [intOf]
    · obtain rfl : k = 0 := by omega
      obtain ⟨A, c, hv, hc, hrd, -⟩ := own_rd HO.out
      rw [List.drop_zero] at hv hc hrd
      subst hv
      clear HO
      have HR := Hid.mk hrd
      clear hrd
      go_wp2_with fail
      refine (ref_trim _ A c _ hc HR.out).mono ?_
      rintro e w1 ⟨⟨v, rfl, rfl⟩, hx1⟩
      have HX1 := Hid.mk (HX.out.trans hx1)
      have HR1 := Hid.mk (HR.out.x hx1)
      clear hx1
      go_wp2
      go_ret
      obtain ⟨n, h1, h2⟩ := trim_take (dgs bs)
      have hlt := trim_length_le (dgs bs)
      exact ⟨⟨_, rfl, A, c, rfl, by omega, by rw [h2]; exact HR1.out.take n⟩, HX1.out⟩
end Go.Proofs.YtogakaiibijjpaaGreatDoor

/- Reference 01 (decimal digits), third part: texts of integers; text, Sign. -/
set_option linter.unusedVariables false
set_option linter.unusedSimpArgs false
namespace Go.Proofs.YtogakaiibijjpaaGreatDoor
open Go.RowKit
open DDig

/-- The byte of a digit; the bytes of an integer's text. -/
def dby (d : Int) : UInt8 := UInt8.ofNat (48 + d).toNat
def txt (neg : Bool) (xs : List Int) : List UInt8 := if xs = [] then [48] else (if neg = true then [45] else []) ++ xs.reverse.map dby
/-- A text that is an integer's. -/
def TxtL (bs : List UInt8) (z : Int) : Prop := ∃ neg xs, IsNum 10 xs ∧ (xs = [] → neg = false) ∧ bs = txt neg xs ∧ z = if neg = true then - val 10 xs else val 10 xs
def Txt (s : ByteArray) (z : Int) : Prop := TxtL s.data.toList z

theorem dby_nat {d : Int} (h : 0 ≤ d ∧ d < 10) : ((dby d).toNat : Int) = 48 + d := by
  unfold dby
  rw [UInt8.toNat_ofNat_of_lt' (by simp [UInt8.size]; omega)]
  omega
theorem dby_ne {d : Int} (h : 0 ≤ d ∧ d < 10) : dby d ≠ 45 := by
  intro e
  have := dby_nat h
  rw [e] at this
  have h2 : ((45 : UInt8).toNat : Int) = 45 := rfl
  omega
theorem dgs_txt {neg : Bool} {xs : List Int} (h : IsNum 10 xs) : trim (dgs (txt neg xs)) = xs := by
  unfold txt
  by_cases hx : xs = []
  · subst hx; rfl
  · rw [if_neg hx]
    have key : dgs (xs.reverse.map dby) = xs := by
      unfold dgs
      rw [List.filter_eq_self.2, ← List.map_reverse, List.reverse_reverse, List.map_map]
      · conv => rhs; rw [← List.map_id xs]
        apply List.map_congr_left
        intro d hd
        have := dby_nat (h.1 d hd)
        simp only [Function.comp, id]
        omega
      · intro b hb
        simp only [List.mem_map, List.mem_reverse] at hb
        obtain ⟨d, hd, rfl⟩ := hb
        simpa using dby_ne (h.1 d hd)
    cases neg
    · simp only [Bool.false_eq_true, if_false, List.nil_append]
      rw [key, trim_norm h.2]
    · simp only [if_true, List.cons_append, List.nil_append]
      rw [dgs_cons, if_pos rfl, key, trim_norm h.2]

theorem TxtL.unique {bs : List UInt8} {x y : Int} (h : TxtL bs x) (g : TxtL bs y) : x = y := by
  obtain ⟨n1, xs, h1, h2, h3, h4⟩ := h
  obtain ⟨n2, ys, g1, g2, g3, g4⟩ := g
  have e : xs = ys := by rw [← dgs_txt (neg := n1) h1, ← h3, g3, dgs_txt g1]
  subst e
  by_cases hx : xs = []
  · rw [h4, g4, hx]; simp [val]
  · have : n1 = n2 := by
      rw [h3] at g3
      unfold txt at g3
      rw [if_neg hx, if_neg hx] at g3
      cases n1 <;> cases n2 <;> simp at g3 ⊢
    subst this
    rw [h4, g4]
theorem TxtL.same {bs cs : List UInt8} {x : Int} (h : TxtL bs x) (g : TxtL cs x) : bs = cs := by
  obtain ⟨n1, xs, h1, h2, h3, h4⟩ := h
  obtain ⟨n2, ys, g1, g2, g3, g4⟩ := g
  have p1 := val_nonneg (by decide : (0 : Int) < 10) h1.1
  have p2 := val_nonneg (by decide : (0 : Int) < 10) g1.1
  have z1 := val_eq_zero (by decide : (0 : Int) < 10) h1.1 h1.2
  have z2 := val_eq_zero (by decide : (0 : Int) < 10) g1.1 g1.2
  have hv : val 10 xs = val 10 ys := by
    rw [h4] at g4
    cases n1 <;> cases n2 <;> simp at g4 <;> omega
  obtain rfl := val_norm_inj (by decide) h1.1 g1.1 h1.2 g1.2 hv
  have hn : n1 = n2 := by
    cases n1 <;> cases n2 <;> simp at h2 g2 ⊢
    · rw [h4] at g4; simp at g4; exact absurd (z1.1 (by omega)) g2
    · rw [h4] at g4; simp at g4; exact absurd (z1.1 (by omega)) h2
  rw [h3, g3, hn]
theorem Txt.eq_iff {s t : ByteArray} {x y : Int} (h : Txt s x) (g : Txt t y) : s = t ↔ x = y := by
  constructor
  · intro e; subst e; exact TxtL.unique h g
  · intro e
    subst e
    have := TxtL.same h g
    exact ByteArray.ext (Array.ext' this)
theorem TxtL.size {bs : List UInt8} {z : Int} (h : TxtL bs z) : 0 < bs.length := by
  obtain ⟨n1, xs, h1, h2, h3, h4⟩ := h
  rw [h3]; unfold txt
  by_cases hx : xs = []
  · rw [if_pos hx]; simp
  · rw [if_neg hx]
    have : 0 < xs.length := List.length_pos_iff.2 hx
    simp; omega
/-- How a text begins. -/
theorem TxtL.zero {bs : List UInt8} {z : Int} (h : TxtL bs z) : bs = [48] ↔ z = 0 := by
  have h0 : TxtL [48] 0 := ⟨false, [], ⟨Dig.nil _, Norm.nil⟩, by simp, rfl, rfl⟩
  constructor
  · intro e; subst e; exact h.unique h0
  · intro e; subst e; exact h.same h0
theorem TxtL.minus {bs : List UInt8} {z : Int} (h : TxtL bs z) : bs.getD 0 0 = 45 ↔ z < 0 := by
  obtain ⟨n1, xs, h1, h2, h3, h4⟩ := h
  have p1 := val_nonneg (by decide : (0 : Int) < 10) h1.1
  have z1 := val_eq_zero (by decide : (0 : Int) < 10) h1.1 h1.2
  rw [h3, h4]
  unfold txt
  by_cases hx : xs = []
  · rw [if_pos hx]
    rw [h2 hx]
    simp; omega
  · rw [if_neg hx]
    cases n1
    · simp only [Bool.false_eq_true, if_false, List.nil_append]
      obtain ⟨ys, d, rfl⟩ : ∃ ys d, xs = ys ++ [d] := ⟨xs.dropLast, xs.getLast hx, (List.dropLast_concat_getLast hx).symm⟩
      have := dby_ne (h1.1 d (by simp))
      simp [this]; omega
    · have : val 10 xs ≠ 0 := fun e => hx (z1.1 e)
      simp; omega

theorem ref_sign (w : World) (s : ByteArray) (z : Int) (h : Txt s z) : Calls Tryz.prog 116 #[.string s] w (Ret w fun _ v => v = .int .i64 (Int.sign z)) := by
  have hsz : 0 < s.size := by have := TxtL.size h; simpa using this
  have h0 := TxtL.zero h
  have h1 := TxtL.minus h
  have hix := fun w => index_byte (P := Tryz.prog) 9 Tryz.underlying9 s .i64 0 hsz w
  have hb : (bty s 0 == 45) = decide (z < 0) := by
    rw [Bool.eq_iff_iff, beq_iff_eq, decide_eq_true_iff, ← h1]
    unfold bty
    constructor
    · intro e
      have : ((s.data.toList.getD 0 0).toNat) = (45 : UInt8).toNat := by
        have : (45 : UInt8).toNat = 45 := rfl
        omega
      exact UInt8.toNat_inj.1 this
    · intro e; rw [e]; rfl
  obtain ⟨x, hx⟩ : ∃ x, x = bty s 0 := ⟨_, rfl⟩
  rw [← hx] at hix hb
  simp only [Int.natCast_zero] at hix
  have hz : (s.toList == [48]) = decide (z = 0) := by
    rw [Bool.eq_iff_iff, beq_iff_eq, decide_eq_true_iff, ← h0, ByteArray.toList_eq]
  clear h h0 h1 hx
  by_cases hz0 : z = 0
  · rw [hz0] at hz ⊢
    simp at hz
    go_enter Tryz.func116, Tryz.ntmps116
    go_wp2
    go_ret
    exact ⟨⟨_, rfl, rfl⟩, X.refl w⟩
  · by_cases hz1 : z < 0
    · have hb' : x = 45 := by simpa [hz1] using hb
      have hz' : ¬ s.toList = [48] := by simpa [hz0] using hz
      have hs : Int.sign z = -1 := Int.sign_eq_neg_one_of_neg hz1
      rw [hs]
      subst hb'
      go_enter Tryz.func116, Tryz.ntmps116
      go_wp2
      go_ret
      exact ⟨⟨_, rfl, rfl⟩, X.refl w⟩
    · have hb' : ¬ x = 45 := by simpa [hz1] using hb
      have hb2 : (x == 45) = false := by simpa using hb'
      have hz' : ¬ s.toList = [48] := by simpa [hz0] using hz
      have hs : Int.sign z = 1 := Int.sign_eq_one_of_pos (by omega)
      rw [hs]
      go_enter Tryz.func116, Tryz.ntmps116
      go_wp2
      go_ret
      exact ⟨⟨_, rfl, rfl⟩, X.refl w⟩
end Go.Proofs.YtogakaiibijjpaaGreatDoor

/- Reference 01 (decimal digits), fourth part: text, order. -/
set_option linter.unusedVariables false
set_option linter.unusedSimpArgs false
namespace Go.Proofs.YtogakaiibijjpaaGreatDoor
open Go.RowKit
open DDig

theorem wrap_u8 {d : Int} (h : 0 ≤ d ∧ d < 10) : IntKind.u8.wrap (48 + d) = 48 + d := by
  rw [IntKind.wrap_u8]; omega

theorem drop_get {α : Type} {xs : List α} {i : Nat} {d : α} (hi : i < xs.length) : xs.drop i = xs.getD i d :: xs.drop (i + 1) := by
  rw [List.drop_eq_getElem_cons hi, List.getD_eq_getElem?_getD, List.getElem?_eq_getElem hi]; rfl

/-- A sign put before a number. -/
def sg (neg : Bool) (z : Int) : Int := if neg = true then - z else z
def pre (neg : Bool) : List Int := if neg = true then [45] else []
theorem text_bytes {neg : Bool} {xs : List Int} (h : IsNum 10 xs) (hx : xs ≠ []) : Txt (strOfNums (pre neg ++ xs.reverse.map (fun d => 48 + d))) (sg neg (val 10 xs)) := by
  refine ⟨neg, xs, h, fun e => absurd e hx, ?_, rfl⟩
  rw [strOfNums_data, List.map_append, txt, if_neg hx]
  congr 1
  · cases neg <;> rfl
  · rw [List.map_map]; rfl

set_option maxRecDepth 100000 in
set_option maxHeartbeats 1000000 in
theorem ref_text (w : World) (neg : Bool) (A : Option Addr) (c : Nat) (xs : List Int) (hc : xs.length ≤ c) (h0 : Rd w .i64 A xs) (hd : Dig 10 xs) (hn : xs.length ≤ 1099511627776) :
    Calls Tryz.prog 120 #[.bool neg, .slice A xs.length c] w (Ret w fun w' v => ∃ r, v = .string r ∧ Txt r (sg neg (val 10 xs))) := by
  have hm : IsNum 10 (trim xs) := IsNum.trim hd
  have hlt := trim_length_le xs
  have H0 := Hid.mk h0
  have ht : Rd w .i64 A (trim xs) := by
    obtain ⟨n, h1, h2⟩ := trim_take xs
    rw [h2]; exact h0.take n
  rw [← val_trim 10 xs]
  have htr := ref_trim w A c xs hc h0
  obtain ⟨ys, hys⟩ : ∃ ys, ys = trim xs := ⟨_, rfl⟩
  rw [← hys] at hm hlt ht htr ⊢
  have HN := Hid.mk hm
  have HT0 := Hid.mk ht
  have HTR := Hid.mk htr
  clear h0 hd hys hm ht htr H0
  go_enter Tryz.func120, Tryz.ntmps120
  go_wp2_with fail
  refine HTR.out.mono ?_
  rintro e w1 ⟨⟨v, rfl, rfl⟩, hx1⟩
  have HX := Hid.mk hx1
  have HT := Hid.mk (HT0.out.x hx1)
  clear hx1 HTR HT0
  by_cases hy0 : ys = []
  · subst hy0
    go_wp2
    go_ret
    exact ⟨⟨_, rfl, _, rfl, ⟨false, [], ⟨Dig.nil _, Norm.nil⟩, by simp, rfl, by cases neg <;> rfl⟩⟩, HX.out⟩
  · have hy1 : 0 < ys.length := List.length_pos_iff.2 hy0
    have hyb : ¬ ys.length = 0 := by omega
    clear hy0
    go_upto_if 12 with (fail)
    go_cut [5] (fun t5 wc => wc.ownsRow w1.heap.size 5 1 t5 (pre neg).length (nums .u8 (pre neg)) ∧ X w1 wc)
    case first =>
      cases neg with
      | true =>
        go_wp2_with (at_builtin; refine append_lit w1 _ rfl _ _ 176 rfl 5 (.int .u8 0) 1 1 Tryz.underlying176 info_byte rfl (by omega) _ _ _ rfl (World.ownsRow_nil _ _ _ _) _ _ _ rfl rfl (by simp [Value.oneCell']) (by omega) (by omega) (X.refl _) ?_; intro v1 w2 ho1 hx1)
        go_meet
        exact ⟨ho1, hx1⟩
      | false =>
        go_wp2
        go_meet
        exact ⟨World.ownsRow_nil _ _ _ _, X.refl _⟩
    case rest =>
      obtain ⟨ho, hx⟩ := hcut
      have hpl : (pre neg).length ≤ 1 := by unfold pre; split <;> simp
      have HO := Hid.mk ho
      have HX1 := Hid.mk hx
      clear ho hx
      go_wp2_with fail
      go_loopw [5, 6] (fun t5 t6 wr => ∃ k : Nat, k ≤ ys.length ∧ t6 = .int .i64 ((k : Int) - 1) ∧ wr.ownsRow w1.heap.size 5 1 t5 (pre neg ++ (ys.drop k).reverse.map (fun d => 48 + d)).length (nums .u8 (pre neg ++ (ys.drop k).reverse.map (fun d => 48 + d))) ∧ X w1 wr) (fun _ t _ => (intOf t + 1).toNat)
      case atStart => exact ⟨ys.length, Nat.le_refl _, rfl, by rw [List.drop_length]; simpa using HO.out, HX1.out⟩
      case round =>
        obtain ⟨k, hk, rfl, ho, hx⟩ := hrel
        have HO := Hid.mk ho
        have HX2 := Hid.mk hx
        clear ho hx
        by_cases hk0 : 0 < k
        · obtain ⟨i, rfl⟩ : ∃ i, k = i + 1 := ⟨k - 1, by omega⟩
          rw [show (((i + 1 : Nat) : Int) - 1) = (i : Int) by omega]
          obtain ⟨b0, o0, rfl, g0⟩ := (HT.out.x HX2.out).2 (by omega)
          have e0 := g0 i (by omega)
          clear g0
          have hr := HN.out.1.getB (by decide : (0 : Int) < 10) i
          have HD : Hid (pre neg ++ (ys.drop i).reverse.map (fun d => 48 + d) = (pre neg ++ (ys.drop (i + 1)).reverse.map (fun d => 48 + d)) ++ [48 + ys.getD i 0]) := by
            show pre neg ++ (ys.drop i).reverse.map (fun d => 48 + d) = _
            rw [drop_get (d := 0) (show i < ys.length by omega)]
            simp
          obtain ⟨x, hx⟩ : ∃ x, x = ys.getD i 0 := ⟨_, rfl⟩
          rw [← hx] at e0 hr HD
          clear hx
          have hwr := wrap_u8 hr
          have hl : (pre neg ++ (ys.drop (i + 1)).reverse.map (fun d => 48 + d)).length ≤ ys.length + 1 := by
            simp; omega
          go_wp2_with (at_builtin; refine append_lit w1 _ rfl _ _ 176 rfl 5 (.int .u8 0) 1 1 Tryz.underlying176 info_byte rfl (by omega) _ _ _ rfl HO.out _ _ _ rfl rfl (by simp [Value.oneCell']) (by omega) (by omega) HX2.out ?_; intro v1 w2 ho1 hx1; have HO1 := Hid.mk ho1; have HX3 := Hid.mk hx1; clear ho1 hx1)
          go_roundw
          case rel =>
            refine ⟨i, by omega, by go_num, ?_, HX3.out⟩
            rw [HD.out]
            have := HO1.out
            simpa [nums, Nat.add_assoc] using this
          case measure => simp [intOf]
        · obtain rfl : k = 0 := by omega
          have hne : pre neg ++ ys.reverse.map (fun d => 48 + d) ≠ [] := by
            intro e
            have := congrArg List.length e
            rw [List.length_append, List.length_map, List.length_reverse] at this
            simp only [List.length_nil] at this
            omega
          have ho := HO.out
          rw [List.drop_zero] at ho
          obtain ⟨zs, hzs⟩ : ∃ zs, zs = pre neg ++ ys.reverse.map (fun d => 48 + d) := ⟨_, rfl⟩
          rw [← hzs] at ho hne
          obtain ⟨A2, c2, rfl, hc2, hrd, -⟩ := own_rd ho
          obtain ⟨b0, o0, rfl, g0⟩ := hrd.2 (List.length_pos_iff.2 hne)
          have hconv := run_convert_bytes_arg (P := Tryz.prog) wr 176 5 Tryz.underlying176 Tryz.underlying5 b0 o0 zs.length c2 zs rfl (fun i hi => g0 i hi) 9 Tryz.underlying9
          have HZ := Hid.mk hzs
          clear ho hrd g0 HO hne hzs
          go_wp2
          go_ret
          have hy0 : ys ≠ [] := List.length_pos_iff.1 hy1
          exact ⟨⟨_, rfl, _, rfl, by rw [HZ.out]; exact text_bytes HN.out hy0⟩, HX.out.trans HX2.out⟩
end Go.Proofs.YtogakaiibijjpaaGreatDoor

/- Reference 01 (decimal digits), fifth part: order, plus. -/
set_option linter.unusedVariables false
set_option linter.unusedSimpArgs false
namespace Go.Proofs.YtogakaiibijjpaaGreatDoor
open Go.RowKit
open DDig

set_option maxRecDepth 100000 in
set_option maxHeartbeats 1000000 in
theorem ref_order (w : World) (A B : Option Addr) (c d : Nat) (xs ys : List Int) (h0 : Rd w .i64 A xs) (h1 : Rd w .i64 B ys) (hx : IsNum 10 xs) (hy : IsNum 10 ys) :
    Calls Tryz.prog 122 #[.slice A xs.length c, .slice B ys.length d] w (Ret w fun _ v => v = .int .i64 (Int.sign (val 10 xs - val 10 ys))) := by
  have hA := h0.1
  have hB := h1.1
  have H0 := Hid.mk h0
  have H1 := Hid.mk h1
  have D0 := Hid.mk hx
  have D1 := Hid.mk hy
  clear h0 h1 hx hy
  by_cases hl : xs.length = ys.length
  · obtain ⟨n, hn⟩ : ∃ n, n = ys.length := ⟨_, rfl⟩
    rw [← hn] at hl hB ⊢
    have HN := Hid.mk hn
    have hlb : ¬ (xs.length : Int) < (n : Int) := by omega
    have hle : ((xs.length : Int) != (n : Int)) = false := by rw [bne_eq_false_iff_eq]; omega
    have HL := Hid.mk hl
    clear hn hl
    go_enter Tryz.func122, Tryz.ntmps122
    go_wp2_with fail
    go_loopw [5] (fun i wr => ∃ k : Nat, ∃ q, k ≤ xs.length ∧ i = .int .i64 ((k : Int) - 1) ∧ wr = w.drewN q ∧ ∀ j, k ≤ j → j < xs.length → xs.getD j 0 = ys.getD j 0) (fun i _ => (intOf i + 1).toNat)
    case atStart => exact ⟨xs.length, 0, Nat.le_refl _, rfl, rfl, fun j h1 h2 => by omega⟩
    case round =>
      obtain ⟨k, q, hk, rfl, rfl, heq⟩ := hrel
      have HE : Hid (∀ j, k ≤ j → j < xs.length → xs.getD j 0 = ys.getD j 0) := heq
      clear heq
      by_cases hk0 : 1 ≤ k
      · obtain ⟨i, rfl⟩ : ∃ i, k = i + 1 := ⟨k - 1, by omega⟩
        rw [show (((i + 1 : Nat) : Int) - 1) = (i : Int) by omega]
        obtain ⟨b0, o0, rfl, g0⟩ := H0.out.2 (by omega)
        have hl := HL.out
        have hn := HN.out
        obtain ⟨b1, o1, rfl, g1⟩ := H1.out.2 (by omega)
        have e0 := g0 i (by omega)
        have e1 := g1 i (by omega)
        have hi1 : (i : Int) < (n : Int) := by omega
        have hi0 : (i : Int) < (xs.length : Int) := by omega
        clear g0 g1 hl hn
        obtain ⟨x, hx⟩ : ∃ x, x = xs.getD i 0 := ⟨_, rfl⟩
        obtain ⟨y, hy⟩ : ∃ y, y = ys.getD i 0 := ⟨_, rfl⟩
        rw [← hx] at e0
        rw [← hy] at e1
        have HX : Hid (x = xs.getD i 0) := hx
        have HY : Hid (y = ys.getD i 0) := hy
        clear hx hy
        by_cases hlt : x < y
        · have hv := val_cmp (by decide : (0 : Int) < 10) (i := i) D0.out.1 D1.out.1 (HL.out.trans HN.out) (by omega) (fun j h1 h2 => HE.out j (by omega) h2) (by rw [← HX.out, ← HY.out]; exact hlt)
          have HV : Hid (Int.sign (val 10 xs - val 10 ys) = -1) := Int.sign_eq_neg_one_of_neg (by omega)
          clear hv
          go_wp2
          go_quiet (fail)
          go_wp2
          go_ret
          exact ⟨⟨_, rfl, by rw [HV.out]; rfl⟩, ((X.refl w).drewN _).drewN _⟩
        · by_cases hgt : y < x
          · have hv := val_cmp (by decide : (0 : Int) < 10) (i := i) D1.out.1 D0.out.1 (HL.out.trans HN.out).symm (by have := HL.out; have := HN.out; omega) (fun j h1 h2 => (HE.out j (by omega) (by have := HL.out; have := HN.out; omega)).symm) (by rw [← HX.out, ← HY.out]; exact hgt)
            have HV : Hid (Int.sign (val 10 xs - val 10 ys) = 1) := Int.sign_eq_one_of_pos (by omega)
            clear hv
            go_wp2
            go_quiet (fail)
            go_wp2
            go_quiet (fail)
            go_wp2
            go_ret
            exact ⟨⟨_, rfl, by rw [HV.out]; rfl⟩, (((X.refl w).drewN _).drewN _).drewN _⟩
          · have HC : Hid (x = y) := by show x = y; omega
            go_wp2
            go_quiet (fail)
            go_wp2
            go_quiet (fail)
            go_wp2
            go_roundw
            case rel =>
              refine ⟨i, _, by omega, rfl, rfl, fun j h1 h2 => ?_⟩
              by_cases hj : j = i
              · rw [hj, ← HX.out, ← HY.out]; exact HC.out
              · exact HE.out j (by omega) h2
            case measure => simp [intOf]
      · have hv := cmp_eq (HL.out.trans HN.out).symm (fun j h => HE.out j (by omega) h)
        have HV : Hid (Int.sign (val 10 xs - val 10 ys) = 0) := by rw [hv]; show Int.sign _ = 0; simp
        clear hv
        go_wp2
        go_ret
        exact ⟨⟨_, rfl, by rw [HV.out]; rfl⟩, (X.refl w).drewN _⟩
  · have hle : ((xs.length : Int) != (ys.length : Int)) = true := by rw [bne_iff_ne]; omega
    by_cases hlt : xs.length < ys.length
    · have hv := val_lt_of_length (by decide : (1 : Int) < 10) D0.out.1 D1.out.1 D1.out.2 hlt
      have HV : Hid (Int.sign (val 10 xs - val 10 ys) = -1) := Int.sign_eq_neg_one_of_neg (by omega)
      clear hv
      go_enter Tryz.func122, Tryz.ntmps122
      go_wp2
      go_ret
      exact ⟨⟨_, rfl, by rw [HV.out]; rfl⟩, X.refl w⟩
    · have hv := val_lt_of_length (by decide : (1 : Int) < 10) D1.out.1 D0.out.1 D0.out.2 (show ys.length < xs.length by omega)
      have HV : Hid (Int.sign (val 10 xs - val 10 ys) = 1) := Int.sign_eq_one_of_pos (by omega)
      clear hv
      go_enter Tryz.func122, Tryz.ntmps122
      go_wp2
      go_ret
      exact ⟨⟨_, rfl, by rw [HV.out]; rfl⟩, X.refl w⟩
end Go.Proofs.YtogakaiibijjpaaGreatDoor

/- Reference 01 (decimal digits), sixth part: plus. -/
set_option linter.unusedVariables false
set_option linter.unusedSimpArgs false
namespace Go.Proofs.YtogakaiibijjpaaGreatDoor
open Go.RowKit
open DDig

theorem plus_step10 {ds p q : List Int} {k : Nat} {cy : Int} (hk : ds.length = k) (h : val 10 ds + pw 10 k * cy = val 10 (p.take k) + val 10 (q.take k)) (s : Int) (hs : s = cy + p.getD k 0 + q.getD k 0) :
    val 10 (ds ++ [s % 10]) + pw 10 (k + 1) * (s / 10) = val 10 (p.take (k + 1)) + val 10 (q.take (k + 1)) := by
  rw [val_snoc, hk, val_take_next p, val_take_next q, pw_succ]
  have e : s = s % 10 + 10 * (s / 10) := by omega
  have e2 : pw 10 k * s = pw 10 k * (s % 10) + 10 * pw 10 k * (s / 10) := by
    conv => lhs; rw [e]
    grind
  have e3 : pw 10 k * s = pw 10 k * cy + pw 10 k * p.getD k 0 + pw 10 k * q.getD k 0 := by rw [hs]; grind
  omega

/-- A list of digits that a slice holds, zeros at the end or not. -/
def Raw10 (w : World) (v : Value) (z : Int) (n : Nat) : Prop := ∃ (xs : List Int) (A : Option Addr) (c : Nat), v = .slice A xs.length c ∧ xs.length ≤ c ∧ Rd w .i64 A xs ∧ Dig 10 xs ∧ val 10 xs = z ∧ xs.length ≤ n
theorem Raw10.x {w w' : World} {v : Value} {z : Int} {n : Nat} (h : Raw10 w v z n) (hx : X w w') : Raw10 w' v z n := by
  obtain ⟨xs, A, c, h1, h2, h3, h4, h5, h6⟩ := h
  exact ⟨xs, A, c, h1, h2, h3.x hx, h4, h5, h6⟩

set_option maxRecDepth 100000 in
set_option maxHeartbeats 2000000 in
theorem ref_plus (w : World) (A B : Option Addr) (c d : Nat) (xs ys : List Int) (h0 : Rd w .i64 A xs) (h1 : Rd w .i64 B ys) (hx : Dig 10 xs) (hy : Dig 10 ys) (M : Nat) (hxM : xs.length ≤ M) (hyM : ys.length ≤ M) (hM : M ≤ 1099511627776) :
    Calls Tryz.prog 121 #[.slice A xs.length c, .slice B ys.length d] w (Ret w fun w' v => Raw10 w' v (val 10 xs + val 10 ys) (M + 1)) := by
  have H0 := Hid.mk h0
  have H1 := Hid.mk h1
  have D0 := Hid.mk hx
  have D1 := Hid.mk hy
  clear h0 h1 hx hy
  go_enter Tryz.func121, Tryz.ntmps121
  go_wp2_with fail
  go_loopw [5, 6, 7] (fun t5 t6 t7 wr => ∃ k : Nat, ∃ cy : Int, ∃ ds : List Int, ds.length = k ∧ t7 = .int .i64 k ∧ t6 = .int .i64 cy ∧ 0 ≤ cy ∧ cy ≤ 1 ∧ (k ≤ M ∨ (k = M + 1 ∧ cy = 0)) ∧ Dig 10 ds ∧ val 10 ds + pw 10 k * cy = val 10 (xs.take k) + val 10 (ys.take k) ∧ wr.ownsRow w.heap.size 3 1 t5 ds.length (nums .i64 ds) ∧ X w wr) (fun _ _ t _ => M + 1 - (intOf t).toNat)
  case atStart => exact ⟨0, 0, [], rfl, rfl, rfl, by omega, by omega, by omega, Dig.nil _, by simp [val], World.ownsRow_nil _ _ _ _, X.refl w⟩
  case round =>
    obtain ⟨k, cy, ds, hdl, rfl, rfl, hc0, hc1, hk, hd, hv, ho, hX⟩ := hrel
    have HL := Hid.mk hdl
    have HD := Hid.mk hd
    have HV := Hid.mk hv
    have HO := Hid.mk ho
    have HX := Hid.mk hX
    clear hd hv ho hX
    have key : ∀ s : Int, s = cy + xs.getD k 0 + ys.getD k 0 → 0 ≤ s % 10 ∧ s % 10 < 10 ∧ 0 ≤ s / 10 ∧ s / 10 ≤ 1 := by
      intro s hs
      have := D0.out.getB (by decide : (0 : Int) < 10) k
      have := D1.out.getB (by decide : (0 : Int) < 10) k
      omega
    have KEY := Hid.mk key
    clear key hdl
    have hdk : ds.length = k := HL.out
    by_cases hx : k < xs.length
    · obtain ⟨b0, o0, rfl, g0⟩ := (H0.out.x HX.out).2 (by omega)
      have e0 := g0 k hx
      clear g0
      obtain ⟨x, hxv⟩ : ∃ x, x = xs.getD k 0 := ⟨_, rfl⟩
      rw [← hxv] at e0
      have hxr := D0.out.getB (by decide : (0 : Int) < 10) k
      rw [← hxv] at hxr
      have XV := Hid.mk hxv
      clear hxv
      have hx' : (k : Int) < (xs.length : Int) := by omega
      by_cases hy : k < ys.length
      · obtain ⟨b1, o1, rfl, g1⟩ := (H1.out.x HX.out).2 (by omega)
        have e1 := g1 k hy
        clear g1
        obtain ⟨y, hyv⟩ : ∃ y, y = ys.getD k 0 := ⟨_, rfl⟩
        rw [← hyv] at e1
        have hyr := D1.out.getB (by decide : (0 : Int) < 10) k
        rw [← hyv] at hyr
        have YV := Hid.mk hyv
        clear hyv
        have hy' : (k : Int) < (ys.length : Int) := by omega
        go_wp2_with (at_builtin; refine append_lit w _ rfl _ _ 30 rfl 3 (.int .i64 0) 1 8 Tryz.underlying30 info_int rfl (by omega) _ _ _ rfl HO.out _ _ _ rfl rfl (by simp [Value.oneCell']) (by omega) (by omega) HX.out ?_; intro v1 w1 ho1 hx1; have HO1 := Hid.mk ho1; have HX1 := Hid.mk hx1; clear ho1 hx1)
        go_roundw
        case rel =>
          have hs : cy + x + y = cy + xs.getD k 0 + ys.getD k 0 := by rw [XV.out, YV.out]
          have hk1 := KEY.out _ hs
          exact ⟨k + 1, (cy + x + y) / 10, ds ++ [(cy + x + y) % 10], by simp [HL.out], by go_num, rfl, by omega, by omega, by omega, HD.out.append (Dig.cons (by omega) (by omega) (Dig.nil _)), plus_step10 HL.out HV.out _ hs, by simpa [nums] using HO1.out, HX1.out⟩
        case measure => simp [intOf]; omega
      · have hy' : ¬ (k : Int) < (ys.length : Int) := by omega
        have YZ := Hid.mk (nil_getD hy)
        go_wp2_with (at_builtin; refine append_lit w _ rfl _ _ 30 rfl 3 (.int .i64 0) 1 8 Tryz.underlying30 info_int rfl (by omega) _ _ _ rfl HO.out _ _ _ rfl rfl (by simp [Value.oneCell']) (by omega) (by omega) HX.out ?_; intro v1 w1 ho1 hx1; have HO1 := Hid.mk ho1; have HX1 := Hid.mk hx1; clear ho1 hx1)
        go_roundw
        case rel =>
          have hs : cy + x = cy + xs.getD k 0 + ys.getD k 0 := by rw [XV.out, YZ.out]; omega
          have hk1 := KEY.out _ hs
          exact ⟨k + 1, (cy + x) / 10, ds ++ [(cy + x) % 10], by simp [HL.out], by go_num, rfl, by omega, by omega, by omega, HD.out.append (Dig.cons (by omega) (by omega) (Dig.nil _)), plus_step10 HL.out HV.out _ hs, by simpa [nums] using HO1.out, HX1.out⟩
        case measure => simp [intOf]; omega
    · have hx' : ¬ (k : Int) < (xs.length : Int) := by omega
      have XZ := Hid.mk (nil_getD hx)
      by_cases hy : k < ys.length
      · obtain ⟨b1, o1, rfl, g1⟩ := (H1.out.x HX.out).2 (by omega)
        have e1 := g1 k hy
        clear g1
        obtain ⟨y, hyv⟩ : ∃ y, y = ys.getD k 0 := ⟨_, rfl⟩
        rw [← hyv] at e1
        have hyr := D1.out.getB (by decide : (0 : Int) < 10) k
        rw [← hyv] at hyr
        have YV := Hid.mk hyv
        clear hyv
        have hy' : (k : Int) < (ys.length : Int) := by omega
        go_wp2_with (at_builtin; refine append_lit w _ rfl _ _ 30 rfl 3 (.int .i64 0) 1 8 Tryz.underlying30 info_int rfl (by omega) _ _ _ rfl HO.out _ _ _ rfl rfl (by simp [Value.oneCell']) (by omega) (by omega) HX.out ?_; intro v1 w1 ho1 hx1; have HO1 := Hid.mk ho1; have HX1 := Hid.mk hx1; clear ho1 hx1)
        go_roundw
        case rel =>
          have hs : cy + y = cy + xs.getD k 0 + ys.getD k 0 := by rw [XZ.out, YV.out]; omega
          have hk1 := KEY.out _ hs
          exact ⟨k + 1, (cy + y) / 10, ds ++ [(cy + y) % 10], by simp [HL.out], by go_num, rfl, by omega, by omega, by omega, HD.out.append (Dig.cons (by omega) (by omega) (Dig.nil _)), plus_step10 HL.out HV.out _ hs, by simpa [nums] using HO1.out, HX1.out⟩
        case measure => simp [intOf]; omega
      · have hy' : ¬ (k : Int) < (ys.length : Int) := by omega
        have YZ := Hid.mk (nil_getD hy)
        by_cases hcy : 0 < cy
        · obtain rfl : cy = 1 := by omega
          go_wp2_with (at_builtin; refine append_lit w _ rfl _ _ 30 rfl 3 (.int .i64 0) 1 8 Tryz.underlying30 info_int rfl (by omega) _ _ _ rfl HO.out _ _ _ rfl rfl (by simp [Value.oneCell']) (by omega) (by omega) HX.out ?_; intro v1 w1 ho1 hx1; have HO1 := Hid.mk ho1; have HX1 := Hid.mk hx1; clear ho1 hx1)
          go_roundw
          case rel =>
            have hs : (1 : Int) = 1 + xs.getD k 0 + ys.getD k 0 := by rw [XZ.out, YZ.out]; rfl
            have hk1 := KEY.out _ hs
            exact ⟨k + 1, (1) / 10, ds ++ [(1) % 10], by simp [HL.out], by go_num, rfl, by omega, by omega, by rcases hk with h | h <;> omega, HD.out.append (Dig.cons (by omega) (by omega) (Dig.nil _)), plus_step10 HL.out HV.out _ hs, by simpa [nums] using HO1.out, HX1.out⟩
          case measure => simp [intOf]; omega
        · obtain rfl : cy = 0 := by omega
          have HF : Hid (val 10 ds = val 10 xs + val 10 ys) := by
            have := HV.out
            rw [List.take_of_length_le (by omega), List.take_of_length_le (by omega)] at this
            show val 10 ds = _
            omega
          obtain ⟨A2, c2, rfl, hc2, hrd, -⟩ := own_rd HO.out
          have HR : Hid (Raw10 wr (.slice A2 k c2) (val 10 xs + val 10 ys) (M + 1)) := ⟨ds, A2, c2, by rw [hdk], hc2, hrd, HD.out, HF.out, by omega⟩
          clear hrd HO
          go_wp2
          go_ret
          exact ⟨⟨_, rfl, HR.out⟩, HX.out⟩
end Go.Proofs.YtogakaiibijjpaaGreatDoor

/- Reference 01 (decimal digits), seventh part: minus. -/
set_option linter.unusedVariables false
set_option linter.unusedSimpArgs false
namespace Go.Proofs.YtogakaiibijjpaaGreatDoor
open Go.RowKit
open DDig

theorem minus_step10 {ds p q : List Int} {k : Nat} {bw : Int} (hk : ds.length = k) (h : val 10 ds - pw 10 k * bw = val 10 (p.take k) - val 10 (q.take k)) (s nb : Int) (hs : s - 10 * nb = p.getD k 0 - bw - q.getD k 0) :
    val 10 (ds ++ [s]) - pw 10 (k + 1) * nb = val 10 (p.take (k + 1)) - val 10 (q.take (k + 1)) := by
  rw [val_snoc, hk, val_take_next p, val_take_next q, pw_succ]
  have e3 : pw 10 k * (s - 10 * nb) = pw 10 k * p.getD k 0 - pw 10 k * bw - pw 10 k * q.getD k 0 := by rw [hs]; grind
  have e4 : pw 10 k * (s - 10 * nb) = pw 10 k * s - 10 * pw 10 k * nb := by grind
  omega

/-- A list of digits in normal form that a slice holds. -/
def Num10 (w : World) (v : Value) (z : Int) : Prop := ∃ (xs : List Int) (A : Option Addr) (c : Nat), v = .slice A xs.length c ∧ xs.length ≤ c ∧ Rd w .i64 A xs ∧ IsNum 10 xs ∧ val 10 xs = z ∧ (A = none → xs = [] ∧ c = 0)

set_option maxRecDepth 100000 in
set_option maxHeartbeats 2000000 in
theorem ref_minus (w : World) (A B : Option Addr) (c d : Nat) (xs ys : List Int) (h0 : Rd w .i64 A xs) (h1 : Rd w .i64 B ys) (hx : Dig 10 xs) (hy : Dig 10 ys) (hl : ys.length ≤ xs.length) (hle : val 10 ys ≤ val 10 xs) (hM : xs.length ≤ 1099511627776) :
    Calls Tryz.prog 123 #[.slice A xs.length c, .slice B ys.length d] w (Ret w fun w' v => Num10 w' v (val 10 xs - val 10 ys) ∧ Fresh w.heap.size v) := by
  have H0 := Hid.mk h0
  have H1 := Hid.mk h1
  have D0 := Hid.mk hx
  have D1 := Hid.mk hy
  have HLE := Hid.mk hle
  clear h0 h1 hx hy hle
  go_enter Tryz.func123, Tryz.ntmps123
  go_wp2_with fail
  go_loopw [5, 6, 7] (fun t5 t6 t7 wr => ∃ k : Nat, ∃ bw : Int, ∃ ds : List Int, ds.length = k ∧ t7 = .int .i64 k ∧ t6 = .int .i64 bw ∧ 0 ≤ bw ∧ bw ≤ 1 ∧ k ≤ xs.length ∧ Dig 10 ds ∧ val 10 ds - pw 10 k * bw = val 10 (xs.take k) - val 10 (ys.take k) ∧ wr.ownsRow w.heap.size 3 1 t5 ds.length (nums .i64 ds) ∧ X w wr) (fun _ _ t _ => xs.length - (intOf t).toNat)
  case atStart => exact ⟨0, 0, [], rfl, rfl, rfl, by omega, by omega, by omega, Dig.nil _, by simp [val], World.ownsRow_nil _ _ _ _, X.refl w⟩
  case round =>
    obtain ⟨k, bw, ds, hdl, rfl, rfl, hc0, hc1, hk, hd, hv, ho, hX⟩ := hrel
    have HL := Hid.mk hdl
    have HD := Hid.mk hd
    have HV := Hid.mk hv
    have HO := Hid.mk ho
    have HX := Hid.mk hX
    clear hd hv ho hX hdl
    have hdk : ds.length = k := HL.out
    by_cases hx : k < xs.length
    · obtain ⟨b0, o0, rfl, g0⟩ := (H0.out.x HX.out).2 (by omega)
      have e0 := g0 k hx
      clear g0
      obtain ⟨x, hxv⟩ : ∃ x, x = xs.getD k 0 := ⟨_, rfl⟩
      rw [← hxv] at e0
      have hxr := D0.out.getB (by decide : (0 : Int) < 10) k
      rw [← hxv] at hxr
      have XV := Hid.mk hxv
      clear hxv
      have hx' : (k : Int) < (xs.length : Int) := by omega
      by_cases hy : k < ys.length
      · obtain ⟨b1, o1, rfl, g1⟩ := (H1.out.x HX.out).2 (by omega)
        have e1 := g1 k hy
        clear g1
        obtain ⟨y, hyv⟩ : ∃ y, y = ys.getD k 0 := ⟨_, rfl⟩
        rw [← hyv] at e1
        have hyr := D1.out.getB (by decide : (0 : Int) < 10) k
        rw [← hyv] at hyr
        have YV := Hid.mk hyv
        clear hyv
        have hy' : (k : Int) < (ys.length : Int) := by omega
        by_cases hn : x - bw - y < 0
        · go_wp2_with (at_builtin; refine append_lit w _ rfl _ _ 30 rfl 3 (.int .i64 0) 1 8 Tryz.underlying30 info_int rfl (by omega) _ _ _ rfl HO.out _ _ _ rfl rfl (by simp [Value.oneCell']) (by omega) (by omega) HX.out ?_; intro v1 w1 ho1 hx1; have HO1 := Hid.mk ho1; have HX1 := Hid.mk hx1; clear ho1 hx1)
          go_roundw
          case rel =>
            have hs : (x - bw - y + 10) - 10 * 1 = xs.getD k 0 - bw - ys.getD k 0 := by rw [← XV.out, ← YV.out]; omega
            exact ⟨k + 1, 1, ds ++ [(x - bw - y + 10)], by simp [HL.out], by go_num, rfl, by omega, by omega, by omega, HD.out.append (Dig.cons (by omega) (by omega) (Dig.nil _)), minus_step10 HL.out HV.out _ _ hs, by simpa [nums] using HO1.out, HX1.out⟩
          case measure => simp [intOf]; omega
        · go_wp2_with (at_builtin; refine append_lit w _ rfl _ _ 30 rfl 3 (.int .i64 0) 1 8 Tryz.underlying30 info_int rfl (by omega) _ _ _ rfl HO.out _ _ _ rfl rfl (by simp [Value.oneCell']) (by omega) (by omega) HX.out ?_; intro v1 w1 ho1 hx1; have HO1 := Hid.mk ho1; have HX1 := Hid.mk hx1; clear ho1 hx1)
          go_roundw
          case rel =>
            have hs : (x - bw - y) - 10 * 0 = xs.getD k 0 - bw - ys.getD k 0 := by rw [← XV.out, ← YV.out]; omega
            exact ⟨k + 1, 0, ds ++ [(x - bw - y)], by simp [HL.out], by go_num, rfl, by omega, by omega, by omega, HD.out.append (Dig.cons (by omega) (by omega) (Dig.nil _)), minus_step10 HL.out HV.out _ _ hs, by simpa [nums] using HO1.out, HX1.out⟩
          case measure => simp [intOf]; omega
      · have hy' : ¬ (k : Int) < (ys.length : Int) := by omega
        have YZ := Hid.mk (nil_getD hy)
        by_cases hn : x - bw < 0
        · go_wp2_with (at_builtin; refine append_lit w _ rfl _ _ 30 rfl 3 (.int .i64 0) 1 8 Tryz.underlying30 info_int rfl (by omega) _ _ _ rfl HO.out _ _ _ rfl rfl (by simp [Value.oneCell']) (by omega) (by omega) HX.out ?_; intro v1 w1 ho1 hx1; have HO1 := Hid.mk ho1; have HX1 := Hid.mk hx1; clear ho1 hx1)
          go_roundw
          case rel =>
            have hs : (x - bw + 10) - 10 * 1 = xs.getD k 0 - bw - ys.getD k 0 := by rw [← XV.out, YZ.out]; omega
            exact ⟨k + 1, 1, ds ++ [(x - bw + 10)], by simp [HL.out], by go_num, rfl, by omega, by omega, by omega, HD.out.append (Dig.cons (by omega) (by omega) (Dig.nil _)), minus_step10 HL.out HV.out _ _ hs, by simpa [nums] using HO1.out, HX1.out⟩
          case measure => simp [intOf]; omega
        · go_wp2_with (at_builtin; refine append_lit w _ rfl _ _ 30 rfl 3 (.int .i64 0) 1 8 Tryz.underlying30 info_int rfl (by omega) _ _ _ rfl HO.out _ _ _ rfl rfl (by simp [Value.oneCell']) (by omega) (by omega) HX.out ?_; intro v1 w1 ho1 hx1; have HO1 := Hid.mk ho1; have HX1 := Hid.mk hx1; clear ho1 hx1)
          go_roundw
          case rel =>
            have hs : (x - bw) - 10 * 0 = xs.getD k 0 - bw - ys.getD k 0 := by rw [← XV.out, YZ.out]; omega
            exact ⟨k + 1, 0, ds ++ [(x - bw)], by simp [HL.out], by go_num, rfl, by omega, by omega, by omega, HD.out.append (Dig.cons (by omega) (by omega) (Dig.nil _)), minus_step10 HL.out HV.out _ _ hs, by simpa [nums] using HO1.out, HX1.out⟩
          case measure => simp [intOf]; omega
    · have hx' : ¬ (k : Int) < (xs.length : Int) := by omega
      have HF : Hid (val 10 ds = val 10 xs - val 10 ys) := by
        have := HV.out
        rw [List.take_of_length_le (by omega), List.take_of_length_le (by omega)] at this
        have h1 := val_lt (by decide : (0 : Int) < 10) HD.out
        rw [hdk] at h1
        have h2 := HLE.out
        have h3 : bw = 0 ∨ bw = 1 := by omega
        show val 10 ds = _
        rcases h3 with h3 | h3 <;> subst h3 <;> omega
      obtain ⟨A2, c2, rfl, hc2, hrd, hnil2⟩ := own_rd HO.out
      have HNIL2 := Hid.mk hnil2
      clear hnil2
      have HFR := Hid.mk (own_fresh HO.out)
      have HR := Hid.mk hrd
      clear hrd HO HV
      rw [hdk] at hc2
      go_wp2_with fail
      have hcall := ref_trim wr A2 c2 ds (by omega) HR.out
      rw [hdk] at hcall
      refine hcall.mono ?_
      rintro e w1 ⟨⟨v, rfl, rfl⟩, hx1⟩
      have HX1 := Hid.mk (HX.out.trans hx1)
      have HN : Hid (Num10 w1 (.slice A2 (trim ds).length c2) (val 10 xs - val 10 ys)) := by
        obtain ⟨n, h1, h2⟩ := trim_take ds
        have := trim_length_le ds
        exact ⟨trim ds, A2, c2, rfl, by omega, by rw [h2]; exact (HR.out.x hx1).take n, IsNum.trim HD.out, by rw [val_trim]; exact HF.out, fun h => ⟨by rw [(HNIL2.out h).1]; rfl, (HNIL2.out h).2⟩⟩
      clear hx1 hcall
      go_wp2
      go_ret
      exact ⟨⟨_, rfl, HN.out, HFR.out.cut⟩, HX1.out⟩
end Go.Proofs.YtogakaiibijjpaaGreatDoor

/- Reference 01 (decimal digits), eighth part: Neg, Add, Sub. -/
set_option linter.unusedVariables false
set_option linter.unusedSimpArgs false
namespace Go.Proofs.YtogakaiibijjpaaGreatDoor
open Go.RowKit
open DDig

theorem TxtL.digits {bs : List UInt8} {z : Int} (h : TxtL bs z) : IsNum 10 (trim (dgs bs)) ∧ val 10 (trim (dgs bs)) = z.natAbs := by
  obtain ⟨n1, xs, h1, h2, h3, h4⟩ := h
  have p1 := val_nonneg (by decide : (0 : Int) < 10) h1.1
  rw [h3, dgs_txt h1]
  refine ⟨h1, ?_⟩
  rw [h4]; split <;> omega
theorem TxtL.length_le {bs : List UInt8} {z : Int} (h : TxtL bs z) {n : Nat} (hz : (z.natAbs : Int) < pw 10 n) : bs.length ≤ n + 1 := by
  obtain ⟨n1, xs, h1, h2, h3, h4⟩ := h
  have p1 := val_nonneg (by decide : (0 : Int) < 10) h1.1
  have hv : val 10 xs = z.natAbs := by rw [h4]; split <;> omega
  rw [h3]
  unfold txt
  by_cases hx : xs = []
  · rw [if_pos hx]; simp
  · rw [if_neg hx]
    have hg := val_ge (by decide : (0 : Int) < 10) h1.1 h1.2 hx
    have hl : xs.length ≤ n := by
      apply Nat.le_of_not_lt
      intro hlt
      have := pw_mono (b := 10) (by decide) (show n ≤ xs.length - 1 by omega)
      omega
    cases n1 <;> simp <;> omega

/-- What digits leaves: so many digits at most. -/
def NumN (w : World) (v : Value) (z : Int) (n : Nat) : Prop := ∃ (xs : List Int) (A : Option Addr) (c : Nat), v = .slice A xs.length c ∧ xs.length ≤ c ∧ Rd w .i64 A xs ∧ IsNum 10 xs ∧ val 10 xs = z ∧ xs.length ≤ n
theorem NumN.x {w w' : World} {v : Value} {z : Int} {n : Nat} (h : NumN w v z n) (hx : X w w') : NumN w' v z n := by
  obtain ⟨xs, A, c, h1, h2, h3, h4, h5, h6⟩ := h
  exact ⟨xs, A, c, h1, h2, h3.x hx, h4, h5, h6⟩

theorem ref_digits_of (w : World) (s : ByteArray) (z : Int) (h : Txt s z) (hn : s.size ≤ 1099511627776) :
    Calls Tryz.prog 119 #[.string s] w (Ret w fun w' v => NumN w' v z.natAbs s.size) := by
  refine (ref_digits w s hn).mono ?_
  rintro e w' ⟨⟨v, rfl, A, c, rfl, h1, h2⟩, hx⟩
  obtain ⟨h3, h4⟩ := TxtL.digits h
  refine ⟨⟨_, rfl, _, A, c, rfl, h1, h2, h3, h4, ?_⟩, hx⟩
  have := trim_length_le (dgs s.data.toList)
  have := dgs_length s.data.toList
  simp at this ⊢
  omega

theorem ref_text_of (w : World) (neg : Bool) (v : Value) (z : Int) (h : ∃ (xs : List Int) (A : Option Addr) (c : Nat), v = .slice A xs.length c ∧ xs.length ≤ c ∧ Rd w .i64 A xs ∧ Dig 10 xs ∧ val 10 xs = z ∧ xs.length ≤ 1099511627776) :
    Calls Tryz.prog 120 #[.bool neg, v] w (Ret w fun w' v => ∃ r, v = .string r ∧ Txt r (sg neg z)) := by
  obtain ⟨xs, A, c, rfl, h1, h2, h3, rfl, h4⟩ := h
  exact ref_text w neg A c xs h1 h2 h3 h4

theorem ref_neg (w : World) (s : ByteArray) (z : Int) (h : Txt s z) (hn : s.size ≤ 549755813888) :
    Calls Tryz.prog 93 #[.string s] w (Ret w fun w' v => ∃ r, v = .string r ∧ Txt r (- z)) := by
  have H := Hid.mk h
  clear h
  go_enter Tryz.func93, Tryz.ntmps93
  go_wp2_with fail
  refine (ref_sign _ s z H.out).mono ?_
  rintro e w1 ⟨⟨v, rfl, rfl⟩, hx1⟩
  have HX1 := Hid.mk hx1
  clear hx1
  go_wp2_with fail
  refine (ref_digits_of _ s z H.out (by omega)).mono ?_
  rintro e w2 ⟨⟨v, rfl, xs, A, c, rfl, h1, h2, h3, h4, h5⟩, hx2⟩
  have HX2 := Hid.mk (HX1.out.trans hx2)
  have HR := Hid.mk h2
  have HN := Hid.mk h3
  have HV := Hid.mk h4
  clear hx2 h2 h3 h4 HX1
  go_wp2_with fail
  refine (ref_text_of _ _ _ z.natAbs ⟨xs, A, c, rfl, h1, HR.out, HN.out.1, HV.out, by omega⟩).mono ?_
  rintro e w3 ⟨⟨v, rfl, r, rfl, hr⟩, hx3⟩
  have HX3 := Hid.mk (HX2.out.trans hx3)
  have HT : Hid (Txt r (- z)) := by
    have : sg (decide (0 < z)) z.natAbs = - z := by
      unfold sg
      by_cases h : 0 < z
      · rw [if_pos (by simpa using h)]; omega
      · rw [if_neg (by simpa using h)]; omega
    rw [← this]; exact hr
  clear hr hx3
  go_wp2
  go_ret
  exact ⟨⟨_, rfl, r, rfl, HT.out⟩, HX3.out⟩

theorem length_le_of_val {xs ys : List Int} (hx : IsNum 10 xs) (hy : Dig 10 ys) (h : val 10 ys ≤ val 10 xs) (hy' : IsNum 10 ys) : ys.length ≤ xs.length := by
  apply Nat.le_of_not_lt
  intro hlt
  have := val_lt_of_length (by decide : (1 : Int) < 10) hx.1 hy hy'.2 hlt
  omega

set_option maxRecDepth 100000 in
set_option maxHeartbeats 1000000 in
theorem ref_add (w : World) (s t : ByteArray) (x y : Int) (hs : Txt s x) (ht : Txt t y) (hn : s.size ≤ 549755813888) (hm : t.size ≤ 549755813888) :
    Calls Tryz.prog 94 #[.string s, .string t] w (Ret w fun w' v => ∃ r, v = .string r ∧ Txt r (x + y)) := by
  have HS := Hid.mk hs
  have HT := Hid.mk ht
  clear hs ht
  go_enter Tryz.func94, Tryz.ntmps94
  go_wp2_with fail
  refine (ref_digits_of _ s x HS.out (by omega)).mono ?_
  rintro e w1 ⟨⟨v, rfl, xs, A, c, rfl, h1, h2, h3, h4, h5⟩, hx1⟩
  have HX1 := Hid.mk hx1
  have HR0 := Hid.mk h2
  have HN0 := Hid.mk h3
  have HV0 := Hid.mk h4
  clear hx1 h2 h3 h4
  go_wp2_with fail
  refine (ref_digits_of _ t y HT.out (by omega)).mono ?_
  rintro e w2 ⟨⟨v, rfl, ys, B, d, rfl, k1, k2, k3, k4, k5⟩, hx2⟩
  have HX2 := Hid.mk (HX1.out.trans hx2)
  have HR := Hid.mk (HR0.out.x hx2)
  have HR1 := Hid.mk k2
  have HN1 := Hid.mk k3
  have HV1 := Hid.mk k4
  clear hx2 k2 k3 k4 HR0 HX1
  go_wp2_with fail
  refine (ref_sign _ s x HS.out).mono ?_
  rintro e w3 ⟨⟨v, rfl, rfl⟩, hx3⟩
  have HX3 := Hid.mk hx3
  clear hx3
  go_wp2_with fail
  refine (ref_sign _ t y HT.out).mono ?_
  rintro e w4 ⟨⟨v, rfl, rfl⟩, hx4⟩
  have HX4 := Hid.mk (HX2.out.trans (HX3.out.trans hx4))
  have HA := Hid.mk (HR.out.x (HX3.out.trans hx4))
  have HB := Hid.mk (HR1.out.x (HX3.out.trans hx4))
  clear hx4 HX2 HX3 HR HR1
  by_cases hsg : x < 0 ↔ y < 0
  · have hbb : (decide (x < 0) == decide (y < 0)) = true := by simpa using hsg
    have HG := Hid.mk hsg
    clear hsg
    go_wp2_with fail
    refine (ref_sign _ s x HS.out).mono ?_
    rintro e w5 ⟨⟨v, rfl, rfl⟩, hx5⟩
    have HX5 := Hid.mk (HX4.out.trans hx5)
    have HA5 := Hid.mk (HA.out.x hx5)
    have HB5 := Hid.mk (HB.out.x hx5)
    clear hx5
    go_wp2_with fail
    refine (ref_plus _ A B c d xs ys HA5.out HB5.out HN0.out.1 HN1.out.1 549755813888 (by omega) (by omega) (by omega)).mono ?_
    rintro e w6 ⟨⟨v, rfl, hr⟩, hx6⟩
    have HX6 := Hid.mk (HX5.out.trans hx6)
    rw [HV0.out, HV1.out] at hr
    have HP := Hid.mk hr
    clear hx6 hr
    go_wp2_with fail
    refine (ref_text_of _ _ _ ((x.natAbs : Int) + y.natAbs) ?_).mono ?_
    · obtain ⟨zs, C, cc, rfl, z1, z2, z3, z4, z5⟩ := HP.out
      exact ⟨zs, C, cc, rfl, z1, z2, z3, z4, by omega⟩
    rintro e w7 ⟨⟨v, rfl, r, rfl, hr⟩, hx7⟩
    have HX7 := Hid.mk (HX6.out.trans hx7)
    have HF : Hid (Txt r (x + y)) := by
      have : sg (decide (x < 0)) ((x.natAbs : Int) + y.natAbs) = x + y := by
        have := HG.out
        unfold sg
        by_cases h : x < 0
        · rw [if_pos (by simpa using h)]; omega
        · rw [if_neg (by simpa using h)]; omega
      rw [← this]; exact hr
    clear hr hx7
    go_wp2
    go_ret
    exact ⟨⟨_, rfl, r, rfl, HF.out⟩, HX7.out⟩
  · have hbb : (decide (x < 0) == decide (y < 0)) = false := by
      rw [beq_eq_false_iff_ne]; simpa using hsg
    have HG := Hid.mk hsg
    clear hsg
    go_wp2_with fail
    refine (ref_order _ A B c d xs ys HA.out HB.out HN0.out HN1.out).mono ?_
    rintro e w5 ⟨⟨v, rfl, rfl⟩, hx5⟩
    rw [HV0.out, HV1.out]
    have HX5 := Hid.mk (HX4.out.trans hx5)
    have HA5 := Hid.mk (HA.out.x hx5)
    have HB5 := Hid.mk (HB.out.x hx5)
    clear hx5
    obtain ⟨z, hz⟩ : ∃ z, z = Int.sign ((x.natAbs : Int) - y.natAbs) := ⟨_, rfl⟩
    rw [← hz]
    by_cases hxy : (y.natAbs : Int) ≤ x.natAbs
    · have hz0 : 0 ≤ z := by
        rw [hz]
        by_cases e : (x.natAbs : Int) - y.natAbs = 0
        · rw [e]; simp
        · rw [Int.sign_eq_one_of_pos (by omega)]; omega
      have HXY := Hid.mk hxy
      clear hz hxy
      go_wp2_with fail
      refine (ref_sign _ s x HS.out).mono ?_
      rintro e w6 ⟨⟨v, rfl, rfl⟩, hx6⟩
      have HX6 := Hid.mk (HX5.out.trans hx6)
      have HA6 := Hid.mk (HA5.out.x hx6)
      have HB6 := Hid.mk (HB5.out.x hx6)
      clear hx6
      go_wp2_with fail
      refine (ref_minus _ A B c d xs ys HA6.out HB6.out HN0.out.1 HN1.out.1 (length_le_of_val HN0.out HN1.out.1 (by rw [HV0.out, HV1.out]; exact HXY.out) HN1.out) (by rw [HV0.out, HV1.out]; exact HXY.out) (by omega)).mono ?_
      rintro e w7 ⟨⟨v, rfl, hr, -⟩, hx7⟩
      have HX7 := Hid.mk (HX6.out.trans hx7)
      rw [HV0.out, HV1.out] at hr
      have HP := Hid.mk hr
      clear hx7 hr
      go_wp2_with fail
      refine (ref_text_of _ _ _ ((x.natAbs : Int) - y.natAbs) ?_).mono ?_
      · obtain ⟨zs, C, cc, rfl, z1, z2, z3, z4, -⟩ := HP.out
        have := length_le_of_val HN0.out z3.1 (by rw [z4, HV0.out]; omega) z3
        exact ⟨zs, C, cc, rfl, z1, z2, z3.1, z4, by omega⟩
      rintro e w8 ⟨⟨v, rfl, r, rfl, hr⟩, hx8⟩
      have HX8 := Hid.mk (HX7.out.trans hx8)
      have HF : Hid (Txt r (x + y)) := by
        have : sg (decide (x < 0)) ((x.natAbs : Int) - y.natAbs) = x + y := by
          have := HG.out
          unfold sg
          by_cases h : x < 0
          · rw [if_pos (by simpa using h)]; omega
          · rw [if_neg (by simpa using h)]; omega
        rw [← this]; exact hr
      clear hr hx8
      go_wp2
      go_ret
      exact ⟨⟨_, rfl, r, rfl, HF.out⟩, HX8.out⟩
    · have hz0 : z < 0 := by rw [hz, Int.sign_eq_neg_one_of_neg (by omega)]; omega
      have HXY : Hid ((x.natAbs : Int) ≤ y.natAbs) := by show (x.natAbs : Int) ≤ y.natAbs; omega
      clear hz hxy
      go_wp2_with fail
      refine (ref_sign _ t y HT.out).mono ?_
      rintro e w6 ⟨⟨v, rfl, rfl⟩, hx6⟩
      have HX6 := Hid.mk (HX5.out.trans hx6)
      have HA6 := Hid.mk (HA5.out.x hx6)
      have HB6 := Hid.mk (HB5.out.x hx6)
      clear hx6
      go_wp2_with fail
      refine (ref_minus _ B A d c ys xs HB6.out HA6.out HN1.out.1 HN0.out.1 (length_le_of_val HN1.out HN0.out.1 (by rw [HV0.out, HV1.out]; exact HXY.out) HN0.out) (by rw [HV0.out, HV1.out]; exact HXY.out) (by omega)).mono ?_
      rintro e w7 ⟨⟨v, rfl, hr, -⟩, hx7⟩
      have HX7 := Hid.mk (HX6.out.trans hx7)
      rw [HV0.out, HV1.out] at hr
      have HP := Hid.mk hr
      clear hx7 hr
      go_wp2_with fail
      refine (ref_text_of _ _ _ ((y.natAbs : Int) - x.natAbs) ?_).mono ?_
      · obtain ⟨zs, C, cc, rfl, z1, z2, z3, z4, -⟩ := HP.out
        have := length_le_of_val HN1.out z3.1 (by rw [z4, HV1.out]; omega) z3
        exact ⟨zs, C, cc, rfl, z1, z2, z3.1, z4, by omega⟩
      rintro e w8 ⟨⟨v, rfl, r, rfl, hr⟩, hx8⟩
      have HX8 := Hid.mk (HX7.out.trans hx8)
      have HF : Hid (Txt r (x + y)) := by
        have : sg (decide (y < 0)) ((y.natAbs : Int) - x.natAbs) = x + y := by
          have := HG.out
          unfold sg
          by_cases h : y < 0
          · rw [if_pos (by simpa using h)]; omega
          · rw [if_neg (by simpa using h)]; omega
        rw [← this]; exact hr
      clear hr hx8
      go_wp2
      go_ret
      exact ⟨⟨_, rfl, r, rfl, HF.out⟩, HX8.out⟩

theorem ref_sub (w : World) (s t : ByteArray) (x y : Int) (hs : Txt s x) (ht : Txt t y) (hn : s.size ≤ 549755813888) (hm : t.size ≤ 549755813886) :
    Calls Tryz.prog 141 #[.string s, .string t] w (Ret w fun w' v => ∃ r, v = .string r ∧ Txt r (x - y)) := by
  have HS := Hid.mk hs
  have HT := Hid.mk ht
  clear hs ht
  go_enter Tryz.func141, Tryz.ntmps141
  go_wp2_with fail
  refine (ref_neg _ t y HT.out (by omega)).mono ?_
  rintro e w1 ⟨⟨v, rfl, r, rfl, hr⟩, hx1⟩
  have HX1 := Hid.mk hx1
  have HR := Hid.mk hr
  have hsz : r.size ≤ 549755813888 := by
    have h1 := TxtL.length_le (n := t.size) hr (by
      obtain ⟨h3, h4⟩ := TxtL.digits HT.out
      have h5 := val_lt (by decide : (0 : Int) < 10) h3.1
      have h6 := trim_length_le (dgs t.data.toList)
      have h7 := dgs_length t.data.toList
      simp at h7
      have := pw_mono (b := 10) (by decide) (show (trim (dgs t.data.toList)).length ≤ t.size by omega)
      rw [Int.natAbs_neg]
      omega)
    simp at h1
    omega
  clear hx1 hr
  go_wp2_with fail
  refine (ref_add _ s r x (-y) HS.out HR.out hn hsz).mono ?_
  rintro e w2 ⟨⟨v, rfl, q, rfl, hq⟩, hx2⟩
  have HX2 := Hid.mk (HX1.out.trans hx2)
  rw [show x + -y = x - y by omega] at hq
  have HQ := Hid.mk hq
  clear hx2 hq
  go_wp2
  go_ret
  exact ⟨⟨_, rfl, q, rfl, HQ.out⟩, HX2.out⟩
end Go.Proofs.YtogakaiibijjpaaGreatDoor

/- Reference 01 (decimal digits), ninth part: Mul. -/
set_option linter.unusedVariables false
set_option linter.unusedSimpArgs false
namespace Go.Proofs.YtogakaiibijjpaaGreatDoor
open Go.RowKit
open DDig

theorem mul_step10 {out : List Int} {m : Nat} {cy n T u : Int} (hm : m < out.length) (h : val 10 out + pw 10 m * cy = T) (hn : n = out.getD m 0 + cy + u) :
    val 10 (out.set m (n % 10)) + pw 10 (m + 1) * (n / 10) = T + pw 10 m * u := by
  rw [val_set _ hm, pw_succ, ← h]
  have e : n = n % 10 + 10 * (n / 10) := by omega
  have e2 : pw 10 m * n = pw 10 m * (n % 10) + 10 * pw 10 m * (n / 10) := by
    conv => lhs; rw [e]
    grind
  have e3 : pw 10 m * n = pw 10 m * out.getD m 0 + pw 10 m * cy + pw 10 m * u := by rw [hn]; grind
  grind

theorem mul_total {a b : List Int} (ha : Dig 10 a) (hb : Dig 10 b) {i k : Nat} (hi : i < a.length) :
    val 10 (a.take i) * val 10 b + pw 10 i * a.getD i 0 * val 10 (b.take k) < pw 10 (i + 1 + b.length) := by
  have h0 := pw_pos (by decide : (0 : Int) < 10) i
  have h1 := val_nonneg (by decide : (0 : Int) < 10) hb
  have h2 := val_lt (by decide : (0 : Int) < 10) hb
  have h3 := val_lt (by decide : (0 : Int) < 10) (ha.take (i + 1))
  have h4 := val_take_succ (b := 10) (xs := a) hi
  have h5 := ha.getB (by decide : (0 : Int) < 10) i
  have h6 : val 10 (b.take k) ≤ val 10 b := by
    by_cases hk : k ≤ b.length
    · have := val_take_drop 10 b k hk
      have := val_nonneg (by decide : (0 : Int) < 10) (hb.drop k)
      have := Int.mul_nonneg (Int.le_of_lt (pw_pos (by decide : (0 : Int) < 10) k)) this
      omega
    · rw [List.take_of_length_le (by omega)]; exact Int.le_refl _
  have h7 : pw 10 i * a.getD i 0 * val 10 (b.take k) ≤ pw 10 i * a.getD i 0 * val 10 b := Int.mul_le_mul_of_nonneg_left h6 (Int.mul_nonneg (by omega) (by omega))
  have h8 : val 10 (a.take (i + 1)) * val 10 b = val 10 (a.take i) * val 10 b + pw 10 i * a.getD i 0 * val 10 b := by rw [h4, Int.add_mul]
  have h9 := val_nonneg (by decide : (0 : Int) < 10) (ha.take (i + 1))
  have h10 : (a.take (i + 1)).length = i + 1 := by rw [List.length_take]; omega
  rw [h10] at h3
  rw [pw_add]
  have h11 : val 10 (a.take (i + 1)) * val 10 b ≤ val 10 (a.take (i + 1)) * pw 10 b.length := Int.mul_le_mul_of_nonneg_left (Int.le_of_lt h2) h9
  have h12 : val 10 (a.take (i + 1)) * pw 10 b.length < pw 10 (i + 1) * pw 10 b.length := Int.mul_lt_mul_of_pos_right h3 (pw_pos (by decide) _)
  omega

theorem mul_room {a b out : List Int} (ha : Dig 10 a) (hb : Dig 10 b) {i k : Nat} {cy : Int} (hi : i < a.length) (hd : Dig 10 out) (hc : 0 < cy)
    (h : val 10 out + pw 10 (i + k) * cy = val 10 (a.take i) * val 10 b + pw 10 i * a.getD i 0 * val 10 (b.take k)) : k ≤ b.length := by
  apply Nat.le_of_not_lt
  intro hlt
  have h1 := mul_total ha hb (k := k) hi
  have h2 := val_nonneg (by decide : (0 : Int) < 10) hd
  have h3 := pw_mono (b := 10) (by decide) (show i + 1 + b.length ≤ i + k by omega)
  have h4 : pw 10 (i + k) * 1 ≤ pw 10 (i + k) * cy := Int.mul_le_mul_of_nonneg_left (by omega) (Int.le_of_lt (pw_pos (by decide) _))
  omega

set_option maxRecDepth 100000 in
set_option maxHeartbeats 4000000 in
theorem ref_mul (w : World) (s t : ByteArray) (x y : Int) (hs : Txt s x) (ht : Txt t y) (hn : s.size ≤ 274877906944) (hm : t.size ≤ 274877906944) :
    Calls Tryz.prog 92 #[.string s, .string t] w (Ret w fun w' v => ∃ r, v = .string r ∧ Txt r (x * y)) := by
  have HS := Hid.mk hs
  have HT := Hid.mk ht
  clear hs ht
  go_enter Tryz.func92, Tryz.ntmps92
  go_wp2_with fail
  refine (ref_digits_of _ s x HS.out (by omega)).mono ?_
  rintro e w1 ⟨⟨v, rfl, xs, A, c, rfl, h1, h2, h3, h4, h5⟩, hx1⟩
  have HX1 := Hid.mk hx1
  have HR0 := Hid.mk h2
  have HN0 := Hid.mk h3
  have HV0 := Hid.mk h4
  clear hx1 h2 h3 h4
  go_wp2_with fail
  refine (ref_digits_of _ t y HT.out (by omega)).mono ?_
  rintro e w2 ⟨⟨v, rfl, ys, B, d, rfl, k1, k2, k3, k4, k5⟩, hx2⟩
  have HX2 := Hid.mk (HX1.out.trans hx2)
  have HR := Hid.mk (HR0.out.x hx2)
  have HR1 := Hid.mk k2
  have HN1 := Hid.mk k3
  have HV1 := Hid.mk k4
  clear hx2 k2 k3 k4 HR0 HX1
  go_wp2_with (at_make; refine make_blk _ rfl _ _ 30 rfl 3 (.int .i64 0) 8 Tryz.underlying30 info_int rfl .i64 .i64 _ _ (xs.length + ys.length + 1) rfl rfl (by omega) (by omega) (by omega) (by omega) ?_; intro w3 hblk hx3; have HB3 := Hid.mk hblk; have HX3 := Hid.mk hx3; clear hblk hx3)
  obtain ⟨g, hg⟩ : ∃ g, g = w2.heap.size := ⟨_, rfl⟩
  rw [← hg] at HB3 ⊢
  have HG : Hid (w2.heap.size ≤ g) := Nat.le_of_eq hg.symm
  clear hg
  go_loopw [8] (fun t8 wr => ∃ i : Nat, ∃ out : List Int, i ≤ xs.length ∧ t8 = .int .i64 i ∧ out.length = xs.length + ys.length + 1 ∧ Dig 10 out ∧ val 10 out = val 10 (xs.take i) * val 10 ys ∧ Blk wr g 3 (nums .i64 out) ∧ X w2 wr) (fun t _ => xs.length - (intOf t).toNat)
  case atStart => exact ⟨0, List.replicate (xs.length + ys.length + 1) 0, Nat.zero_le _, rfl, by simp, Dig.replicate (by decide) _, by rw [val_zeros]; simp [val], by rw [nums_zeros]; exact HB3.out, HX3.out⟩
  case round =>
    obtain ⟨i, out, hi, rfl, hol, hod, hov, hb, hx⟩ := hrel
    obtain ⟨wo, rfl⟩ : ∃ wo : World, wo = wr := ⟨_, rfl⟩
    have HOD := Hid.mk hod
    have HOV := Hid.mk hov
    have HB := Hid.mk hb
    have HX := Hid.mk hx
    clear hod hov hb hx HB3 HX3
    by_cases hia : i < xs.length
    · have hia' : (i : Int) < (xs.length : Int) := by omega
      go_wp2_with fail
      have XR := HN0.out.1.getB (by decide : (0 : Int) < 10) i
      have hol' := hol
      clear hol
      go_loopw [9, 10] (fun t9 t10 wr => ∃ k : Nat, ∃ cy : Int, ∃ out2 : List Int, t10 = .int .i64 k ∧ t9 = .int .i64 cy ∧ 0 ≤ cy ∧ cy ≤ 9 ∧ (k ≤ ys.length ∨ (k = ys.length + 1 ∧ cy = 0)) ∧ out2.length = xs.length + ys.length + 1 ∧ Dig 10 out2 ∧ val 10 out2 + pw 10 (i + k) * cy = val 10 (xs.take i) * val 10 ys + pw 10 i * xs.getD i 0 * val 10 (ys.take k) ∧ Blk wr g 3 (nums .i64 out2) ∧ X w2 wr) (fun _ t _ => ys.length + 1 - (intOf t).toNat)
      case atStart => exact ⟨0, 0, out, rfl, rfl, by omega, by omega, by omega, hol', HOD.out, by rw [HOV.out]; simp [val], HB.out, HX.out⟩
      case round =>
        clear HOD HOV HB HX hol' out
        obtain ⟨k, cy, out2, rfl, rfl, hc0, hc1, hk, hol, hod, hov, hb, hx⟩ := hrel
        have HOL := Hid.mk hol
        have HOD2 := Hid.mk hod
        have HT2 := Hid.mk hov
        have HB2 := Hid.mk hb
        have HX2' := Hid.mk hx
        clear hod hov hb hx
        by_cases hky : k < ys.length ∨ 0 < cy
        · have hkb : k ≤ ys.length := by
            rcases hk with h | ⟨h, h'⟩ <;> omega
          have hik : i + k < out2.length := by omega
          have eo := HB2.out.int (j := i + k) hik
          have ef := HB2.out.frozen (i + k)
          have hzr := HOD2.out.getB (by decide : (0 : Int) < 10) (i + k)
          obtain ⟨z, hz⟩ : ∃ z, z = out2.getD (i + k) 0 := ⟨_, rfl⟩
          rw [← hz] at eo hzr
          have ZV := Hid.mk hz
          have hik' : ((i : Int) + (k : Int)) < (xs.length : Int) + (ys.length : Int) + 1 := by omega
          have eoc := hol
          clear hz hol
          by_cases hkl : k < ys.length
          · have hkl' : (k : Int) < (ys.length : Int) := by omega
            obtain ⟨b0, o0, rfl, g0⟩ := (HR.out.x HX2'.out).2 (by omega)
            have e0 := g0 i hia
            obtain ⟨b1, o1, rfl, g1⟩ := (HR1.out.x HX2'.out).2 (by omega)
            have e1 := g1 k hkl
            clear g0 g1
            have hyr := HN1.out.1.getB (by decide : (0 : Int) < 10) k
            obtain ⟨u, hu⟩ : ∃ u, u = xs.getD i 0 := ⟨_, rfl⟩
            obtain ⟨v, hv⟩ : ∃ v, v = ys.getD k 0 := ⟨_, rfl⟩
            rw [← hu] at e0 XR
            rw [← hv] at e1 hyr
            have UV := Hid.mk hu
            have VV := Hid.mk hv
            clear hu hv
            have hm0 : 0 ≤ u * v := Int.mul_nonneg XR.1 hyr.1
            have hm1 : u * v ≤ 81 := by
              have h1 : u * v ≤ 9 * v := Int.mul_le_mul_of_nonneg_right (by omega) hyr.1
              omega
            go_wp2
            go_quiet (fail)
            go_wp2
            go_roundw
            case rel =>
              have hs : z + cy + u * v = out2.getD (i + k) 0 + cy + u * v := by rw [← ZV.out]
              have hst := mul_step10 (by rw [HOL.out]; omega) HT2.out hs
              exact ⟨k + 1, (z + cy + u * v) / 10, out2.set (i + k) ((z + cy + u * v) % 10), by go_num, rfl, by omega, by omega, by omega, by rw [List.length_set]; exact HOL.out, HOD2.out.set _ (by omega) (by omega), by rw [← Nat.add_assoc, hst, val_take_next, UV.out, VV.out, pw_add]; grind, by rw [nums_set]; exact (HB2.out.drewN _).set _ _, (HX2'.out.drewN _).set (p := ⟨g, i + k, none⟩) HG.out _⟩
            case measure => simp [intOf]; omega
          · have hkl' : ¬ (k : Int) < (ys.length : Int) := by omega
            have hcy : 0 < cy := by omega
            have hyz := nil_getD hkl
            have YZ := Hid.mk hyz
            clear hyz
            go_wp2
            go_roundw
            case rel =>
              have hs : z + cy = out2.getD (i + k) 0 + cy + 0 := by rw [← ZV.out]; omega
              have hst := mul_step10 (by rw [HOL.out]; omega) HT2.out hs
              have hst2 : val 10 (out2.set (i + k) ((z + cy) % 10)) + pw 10 (i + (k + 1)) * ((z + cy) / 10) = val 10 (xs.take i) * val 10 ys + pw 10 i * xs.getD i 0 * val 10 (ys.take (k + 1)) := by
                rw [← Nat.add_assoc, hst, val_take_next, YZ.out]; grind
              have hod2 : Dig 10 (out2.set (i + k) ((z + cy) % 10)) := HOD2.out.set _ (by omega) (by omega)
              have hc0' : (z + cy) / 10 = 0 := by
                apply Classical.byContradiction
                intro hne
                have := mul_room HN0.out.1 HN1.out.1 hia hod2 (show 0 < (z + cy) / 10 by omega) hst2
                omega
              exact ⟨k + 1, (z + cy) / 10, out2.set (i + k) ((z + cy) % 10), by go_num, rfl, by omega, by omega, by omega, by rw [List.length_set]; exact HOL.out, hod2, hst2, by rw [nums_set]; exact HB2.out.set _ _, HX2'.out.set (p := ⟨g, i + k, none⟩) HG.out _⟩
            case measure => simp [intOf]; omega
        · have hkl : ¬ (k : Int) < (ys.length : Int) := by omega
          have hcy : ¬ 0 < cy := by omega
          obtain rfl : cy = 0 := by omega
          have HF : Hid (val 10 out2 = val 10 (xs.take (i + 1)) * val 10 ys) := by
            have h := HT2.out
            rw [Int.mul_zero, Int.add_zero, List.take_of_length_le (show ys.length ≤ k by omega)] at h
            show val 10 out2 = _
            rw [h, val_take_succ hia, Int.add_mul]
          clear HT2
          go_wp2
          go_roundw
          case rel => exact ⟨i + 1, out2, by omega, by go_num, hol, HOD2.out, HF.out, HB2.out, HX2'.out⟩
          case measure => simp [intOf]; omega
    · obtain rfl : i = xs.length := by omega
      have hir : Int.sign x = -1 ∨ Int.sign x = 0 ∨ Int.sign x = 1 := by
        rcases Int.lt_trichotomy x 0 with h | h | h
        · left; exact Int.sign_eq_neg_one_of_neg h
        · right; left; rw [h]; rfl
        · right; right; exact Int.sign_eq_one_of_pos h
      have hjr : Int.sign y = -1 ∨ Int.sign y = 0 ∨ Int.sign y = 1 := by
        rcases Int.lt_trichotomy y 0 with h | h | h
        · left; exact Int.sign_eq_neg_one_of_neg h
        · right; left; rw [h]; rfl
        · right; right; exact Int.sign_eq_one_of_pos h
      have SX := Hid.mk (rfl : Int.sign x = Int.sign x)
      obtain ⟨sx, hsx⟩ : ∃ sx, Int.sign x = sx := ⟨_, rfl⟩
      obtain ⟨sy, hsy⟩ : ∃ sy, Int.sign y = sy := ⟨_, rfl⟩
      rw [hsx] at hir
      rw [hsy] at hjr
      have hp0 : -1 ≤ sx * sy ∧ sx * sy ≤ 1 := by rcases hir with h | h | h <;> rcases hjr with h' | h' | h' <;> subst h <;> subst h' <;> decide
      obtain ⟨hp0, hp1⟩ := hp0
      have HSX := Hid.mk hsx
      have HSY := Hid.mk hsy
      clear hsx hsy hir hjr SX
      go_wp2_with fail
      refine (ref_sign _ s x HS.out).mono ?_
      rintro e w4 ⟨⟨v, rfl, rfl⟩, hx4⟩
      rw [HSX.out]
      have HX4 := Hid.mk (HX.out.trans hx4)
      have HB4 := Hid.mk (HB.out.x hx4)
      clear hx4
      go_wp2_with fail
      refine (ref_sign _ t y HT.out).mono ?_
      rintro e w5 ⟨⟨v, rfl, rfl⟩, hx5⟩
      rw [HSY.out]
      have HX5 := Hid.mk (HX4.out.trans hx5)
      have HB5 := Hid.mk (HB4.out.x hx5)
      clear hx5
      go_wp2_with fail
      refine (ref_text_of _ _ _ (val 10 xs * val 10 ys) ⟨out, some ⟨g, 0, none⟩, xs.length + ys.length + 1, by rw [hol], by omega, HB5.out.rd (by omega), HOD.out, by have := HOV.out; rw [List.take_length] at this; exact this, by omega⟩).mono ?_
      rintro e w6 ⟨⟨v, rfl, r, rfl, hr⟩, hx6⟩
      have HX6 := Hid.mk (HX2.out.trans (HX5.out.trans hx6))
      have HF : Hid (Txt r (x * y)) := by
        have : sg (decide (sx * sy < 0)) (val 10 xs * val 10 ys) = x * y := by
          have hdec : decide (sx * sy < 0) = decide (x * y < 0) := by
            rw [← HSX.out, ← HSY.out, ← Int.sign_mul]; simp only [Int.sign_neg_iff]
          rw [HV0.out, HV1.out, hdec]
          unfold sg
          have e : (x.natAbs : Int) * y.natAbs = ((x * y).natAbs : Int) := by rw [Int.natAbs_mul, Int.natCast_mul]
          rw [e]
          by_cases h : x * y < 0
          · rw [if_pos (by simpa using h)]; omega
          · rw [if_neg (by simpa using h)]; omega
        rw [← this]; exact hr
      clear hr hx6
      go_wp2
      go_ret
      exact ⟨⟨_, rfl, r, rfl, HF.out⟩, HX6.out⟩
end Go.Proofs.YtogakaiibijjpaaGreatDoor

/- Reference 01 (decimal digits), tenth part: DivMod by a positive number. -/
set_option linter.unusedVariables false
set_option linter.unusedSimpArgs false
namespace Go.Proofs.YtogakaiibijjpaaGreatDoor
open Go.RowKit
open DDig

/-- 'append(out, xs...)' of whole numbers. -/
theorem append_nums {P : Program} (w0 w : World) {ops : Array Oper} {rest : List Oper} {o : Oper} {a : Act} {Q : Exit → Act → World → Prop} (hgd : o.guard = none) (s x : Operand) (t : TypeId)
    (ho : o.op = .call { callee := .builtin .append, args := #[s, x], argTypes := #[t, t] })
    (e : TypeId) (z : Value) (bytes : Nat) (k : IntKind) (ht : P.underlying t = some (.slice e)) (h2 : (P.info? e).map (fun i => (i.zero, i.size, i.bytes)) = some (some z, 1, bytes)) (hzs : z.cells.size = 1)
    (v : Value) (n : Nat) (xs : List Value) (hs : a.eval s = v) (hown : w.ownsRow w0.heap.size e 1 v n xs)
    (A : Option Addr) (m c : Nat) (ys : List Int) (hx : a.eval x = .slice A m c) (hm : m = ys.length) (hnil : A = none → ys = [] ∧ c = 0) (hr : Rd w k A ys)
    (hb : (n + ys.length) * bytes ≤ 140737488355328) (h63 : n + ys.length ≤ 9223372036854775807) (hX : X w0 w)
    (h : ∀ v' w', w'.ownsRow w0.heap.size e 1 v' (n + ys.length) (xs ++ nums k ys) → X w0 w' → wpList P ops Q rest (a.put o.dst v') w') : wpList P ops Q (o :: rest) a w := by
  subst hm
  cases A with
  | none =>
    obtain ⟨rfl, rfl⟩ := hnil rfl
    obtain ⟨i, hi, e1, e2, e3⟩ := info_parts h2
    refine wpList_append_own_none hgd s x t ho w0.heap.size e i 1 ht hi v n xs hs hown hx ?_
    have := h v w (by simpa [nums] using hown) hX
    exact this
  | some ad =>
    exact append_own w hgd s x t ho w0.heap.size e z 1 bytes ht h2 hzs (by omega) v n xs hs hown ad ys.length c (nums k ys) hx (by rw [nums_length]; omega) hr.news (nums_one _ _) h63 hb hX.size (fun v' w' h3 h4 => h v' w' h3 (hX.grown h4 (own_ge hown)))

theorem divmod_low {a y R Q d : Int} (hy : 0 < y) (hd : 0 ≤ d ∧ d < 10) (h : a = Q * y + R) (h0 : 0 ≤ R) (h1 : R < y) : 0 ≤ d + 10 * R ∧ d + 10 * R < 10 * y := by omega

set_option maxRecDepth 100000 in
set_option maxHeartbeats 4000000 in
theorem ref_divmod (w : World) (s t : ByteArray) (x y : Int) (hs : Txt s x) (ht : Txt t y) (hn : s.size ≤ 274877906944) (hm : t.size ≤ 274877906944) (hy : 0 < y) (hxy : 0 ≤ x ∨ y ∣ x) :
    Calls Tryz.prog 118 #[.string s, .string t] w (Ret w fun w' v => ∃ q r, v = .tuple #[.string q, .string r] ∧ Txt q (x / y) ∧ Txt r (x % y)) := by
  have HS := Hid.mk hs
  have HT := Hid.mk ht
  clear hs ht
  go_enter Tryz.func118, Tryz.ntmps118
  go_wp2_with fail
  refine (ref_digits_of _ s x HS.out (by omega)).mono ?_
  rintro e w1 ⟨⟨v, rfl, xs, A, c, rfl, h1, h2, h3, h4, h5⟩, hx1⟩
  have HX1 := Hid.mk hx1
  have HR0 := Hid.mk h2
  have HN0 := Hid.mk h3
  have HV0 := Hid.mk h4
  clear hx1 h2 h3 h4
  go_wp2_with fail
  refine (ref_digits_of _ t y HT.out (by omega)).mono ?_
  rintro e w2 ⟨⟨v, rfl, ys, B, d, rfl, k1, k2, k3, k4, k5⟩, hx2⟩
  have HX2 := Hid.mk (HX1.out.trans hx2)
  have HR := Hid.mk (HR0.out.x hx2)
  have HR1 := Hid.mk k2
  have HN1 := Hid.mk k3
  have HV1 : Hid (val 10 ys = y) := by show val 10 ys = y; omega
  clear hx2 k2 k3 k4 HR0 HX1
  go_wp2_with (at_make; refine make_blk _ rfl _ _ 30 rfl 3 (.int .i64 0) 8 Tryz.underlying30 info_int rfl .i64 .i64 _ _ xs.length rfl rfl (by omega) (by omega) (by omega) (by omega) ?_; intro w3 hblk hx3; have HB3 := Hid.mk hblk; have HX3 := Hid.mk hx3; clear hblk hx3)
  obtain ⟨g, hg⟩ : ∃ g, g = w2.heap.size := ⟨_, rfl⟩
  rw [← hg] at HB3 ⊢
  have HG : Hid (w2.heap.size ≤ g) := Nat.le_of_eq hg.symm
  clear hg
  go_loopw [8, 10] (fun t8 t10 wr => ∃ k : Nat, ∃ out rs : List Int, ∃ C : Option Addr, ∃ cc : Nat, k ≤ xs.length ∧ t10 = .int .i64 ((k : Int) - 1) ∧ t8 = .slice C rs.length cc ∧ rs.length ≤ cc ∧ (C = none → rs = [] ∧ cc = 0) ∧ Rd wr .i64 C rs ∧ IsNum 10 rs ∧ val 10 rs < val 10 ys ∧ out.length = xs.length ∧ Dig 10 out ∧ (∀ j, j < k → out.getD j 0 = 0) ∧ val 10 (xs.drop k) = val 10 (out.drop k) * val 10 ys + val 10 rs ∧ Blk wr g 3 (nums .i64 out) ∧ X w2 wr) (fun _ t _ => (intOf t + 1).toNat)
  case atStart => exact ⟨xs.length, List.replicate xs.length 0, [], none, 0, Nat.le_refl _, rfl, rfl, Nat.le_refl _, fun _ => ⟨rfl, rfl⟩, Rd.nil _ _ _, ⟨Dig.nil _, Norm.nil⟩, by rw [HV1.out]; simpa [val] using hy, by simp, Dig.replicate (by decide) _, fun j h => by simp [List.getD_eq_getElem?_getD, List.getElem?_replicate]; split <;> rfl, by rw [List.drop_length, List.drop_of_length_le (by simp)]; simp [val], by rw [nums_zeros]; exact HB3.out, HX3.out⟩
  case round =>
    obtain ⟨k, out, rs, C, cc, hk, rfl, rfl, hcc, hnil, hrs, hrn, hrv, hol, hod, hoz, hv, hb, hx⟩ := hrel
    obtain ⟨wo, rfl⟩ : ∃ wo : World, wo = wr := ⟨_, rfl⟩
    have HNIL := Hid.mk hnil
    have HRS := Hid.mk hrs
    have HRN := Hid.mk hrn
    have HRV := Hid.mk hrv
    have HOL := Hid.mk hol
    have HOD := Hid.mk hod
    have HOZ := Hid.mk hoz
    have HV := Hid.mk hv
    have HB := Hid.mk hb
    have HX := Hid.mk hx
    have hrl : rs.length ≤ ys.length := length_le_of_val HN1.out hrn.1 (by omega) hrn
    clear hnil hrs hrn hrv hol hod hoz hv hb hx HB3 HX3
    by_cases hk0 : 0 < k
    · obtain ⟨i, rfl⟩ : ∃ i, k = i + 1 := ⟨k - 1, by omega⟩
      rw [show (((i + 1 : Nat) : Int) - 1) = (i : Int) by omega]
      obtain ⟨b0, o0, rfl, g0⟩ := (HR.out.x HX.out).2 (by omega)
      have e0 := g0 i (by omega)
      clear g0
      have hdr := HN0.out.1.getB (by decide : (0 : Int) < 10) i
      obtain ⟨dg, hdg⟩ : ∃ dg, dg = xs.getD i 0 := ⟨_, rfl⟩
      rw [← hdg] at e0 hdr
      have DG := Hid.mk hdg
      clear hdg
      have hi' : (i : Int) < (xs.length : Int) := by omega
      go_wp2_with (at_builtin; refine append_nums wo _ rfl _ _ 30 rfl 3 (.int .i64 0) 8 .i64 Tryz.underlying30 info_int rfl _ 1 [.int .i64 dg] rfl (World.ownsRow_lit wo #[.int .i64 dg] 1 (Nat.le_refl _) (by simp [maxLen]) rfl) C _ _ rs rfl rfl HNIL.out (HRS.out.x ((X.refl _).alloc _)) (by omega) (by omega) ((X.refl _).alloc _) ?_; intro v1 w4 ho1 hx1)
      have ho2 : w4.ownsRow wo.heap.size 3 1 v1 (dg :: rs).length (nums .i64 (dg :: rs)) := by
        have := ho1
        rw [Nat.add_comm] at this
        simpa [nums] using this
      obtain ⟨A4, c4, rfl, hc4, hr4, hn4⟩ := own_rd ho2
      have H4 := Hid.mk hr4
      clear ho1 ho2 hr4
      have HD4 : Hid (Dig 10 (dg :: rs)) := Dig.cons hdr.1 hdr.2 HRN.out.1
      refine (ref_trim _ A4 c4 (dg :: rs) hc4 H4.out).mono ?_
      rintro e w5 ⟨⟨v, rfl, rfl⟩, hx5⟩
      have hX5 := hx1.trans hx5
      have htr : Rd w5 .i64 A4 (trim (dg :: rs)) := by
        obtain ⟨n, h1, h2⟩ := trim_take (dg :: rs)
        rw [h2]; exact (H4.out.x hx5).take n
      have htn : IsNum 10 (trim (dg :: rs)) := IsNum.trim HD4.out
      have htv : val 10 (trim (dg :: rs)) = dg + 10 * val 10 rs := by rw [val_trim, val_cons]
      have htl : (trim (dg :: rs)).length ≤ c4 := Nat.le_trans (trim_length_le _) hc4
      have htA : A4 = none → trim (dg :: rs) = [] ∧ c4 = 0 := fun h => by have := (hn4 h).1; cases this
      have hT0 : 0 ≤ val 10 rs := val_nonneg (by decide) HRN.out.1
      have hT1 : dg + 10 * val 10 rs < 10 * val 10 ys := by have := HRV.out; omega
      obtain ⟨T, hT⟩ : ∃ T, T = dg + 10 * val 10 rs := ⟨_, rfl⟩
      rw [← hT] at htv hT1
      obtain ⟨r5, hr5⟩ : ∃ r5, r5 = trim (dg :: rs) := ⟨_, rfl⟩
      rw [← hr5] at htr htn htv htl htA ⊢
      have HT5 := Hid.mk hT
      have HR5 := Hid.mk htr
      have HN5 := Hid.mk htn
      have HV5 := Hid.mk htv
      have HL5 := Hid.mk htl
      have HA5 := Hid.mk htA
      have HX5 := Hid.mk (HX.out.trans hX5)
      have HB5 := Hid.mk (HB.out.x hX5)
      have HT1 := Hid.mk hT1
      clear htr htn htv htl htA hX5 hx5 hx1 hr5 hT hn4 hT0 hT1 H4 HD4 HRS HX HB hc4
      go_wp2_with fail
      go_loopg [8] 10 (fun q t8 wr => ∃ cnt : Nat, ∃ r' : List Int, ∃ C' : Option Addr, ∃ cc' : Nat, q + cnt = 10 ∧ t8 = .slice C' r'.length cc' ∧ r'.length ≤ cc' ∧ (C' = none → r' = [] ∧ cc' = 0) ∧ Rd wr .i64 C' r' ∧ IsNum 10 r' ∧ (cnt : Int) * val 10 ys + val 10 r' = T ∧ Blk wr g 3 (nums .i64 (out.set i cnt)) ∧ X w2 wr)
      case atStart =>
        refine ⟨0, r5, A4, c4, rfl, rfl, HL5.out, HA5.out, HR5.out, HN5.out, by rw [HV5.out]; simp, ?_, HX5.out⟩
        have : out.set i ((0 : Nat) : Int) = out := by
          have h0 := HOZ.out i (by omega)
          have hl : i < out.length := by rw [HOL.out]; omega
          rw [List.getD_eq_getElem?_getD, List.getElem?_eq_getElem hl] at h0
          have h1 := List.set_getElem_self hl
          simp only [Option.getD_some] at h0
          rw [h0] at h1
          exact h1
        rw [this]; exact HB5.out
      case round =>
        clear HR5 HN5 HV5 HL5 HA5 HX5 HB5
        obtain ⟨cnt, r', C', cc', hq, rfl, hcc', hnil', hr', hn', hv', hb', hx'⟩ := hrel
        have HNIL' := Hid.mk hnil'
        have HR' := Hid.mk hr'
        have HN' := Hid.mk hn'
        have HV' := Hid.mk hv'
        have HB' := Hid.mk hb'
        have HX' := Hid.mk hx'
        have HQ := Hid.mk hq
        clear hnil' hr' hn' hv' hb' hx' hq
        go_wp2_with fail
        refine (ref_order _ C' B cc' d r' ys HR'.out (HR1.out.x HX'.out) HN'.out HN1.out).mono ?_
        rintro e w6 ⟨⟨v, rfl, rfl⟩, hx6⟩
        obtain ⟨z, hz⟩ : ∃ z, z = Int.sign (val 10 r' - val 10 ys) := ⟨_, rfl⟩
        rw [← hz]
        have HX6 := Hid.mk (HX'.out.trans hx6)
        have HR6 := Hid.mk (HR'.out.x hx6)
        have HB6 := Hid.mk (HB'.out.x hx6)
        clear hx6
        have hvr := val_nonneg (by decide : (0 : Int) < 10) HN'.out.1
        by_cases hge : val 10 ys ≤ val 10 r'
        · have hz0 : 0 ≤ z := by
            rw [hz]
            by_cases e : val 10 r' - val 10 ys = 0
            · rw [e]; simp
            · rw [Int.sign_eq_one_of_pos (by omega)]; omega
          have HGE := Hid.mk hge
          clear hz hge
          have hcnt : cnt ≤ 8 := by
            have h1 := HV'.out
            have h2 := HT1.out
            have h3 := HGE.out
            have h4 : 0 < val 10 ys := by rw [HV1.out]; exact hy
            apply Nat.le_of_not_lt
            intro hlt
            have : (9 : Int) * val 10 ys ≤ cnt * val 10 ys := Int.mul_le_mul_of_nonneg_right (by omega) (by omega)
            omega
          cases gk with
          | zero => exact absurd HQ.out (by omega)
          | succ q1 =>
            have hrl' : r'.length ≤ ys.length + 1 := by
              apply Nat.le_of_not_lt
              intro hlt
              have h4 : r' ≠ [] := by intro e; rw [e] at hlt; simp at hlt
              have h5 := val_ge (by decide : (0 : Int) < 10) HN'.out.1 HN'.out.2 h4
              have h6 := val_lt (by decide : (0 : Int) < 10) HN1.out.1
              have h7 := pw_mono (b := 10) (by decide) (show ys.length + 1 ≤ r'.length - 1 by omega)
              rw [pw_succ] at h7
              have h8 := HV'.out
              have h9 := HT1.out
              have h10 : 0 ≤ (cnt : Int) * val 10 ys := Int.mul_nonneg (by omega) (by rw [HV1.out]; omega)
              omega
            go_wp2_with fail
            refine (ref_minus _ C' B cc' d r' ys HR6.out (HR1.out.x HX6.out) HN'.out.1 HN1.out.1 (length_le_of_val HN'.out HN1.out.1 HGE.out HN1.out) HGE.out (by omega)).mono ?_
            rintro e w7 ⟨⟨v, rfl, ⟨r7, A7, c7, rfl, h71, h72, h73, h74, h75⟩, h76⟩, hx7⟩
            have HX7 := Hid.mk (HX6.out.trans hx7)
            have HB7 := Hid.mk (HB6.out.x hx7)
            have HR7 := Hid.mk h72
            have HN7 := Hid.mk h73
            have HV7 := Hid.mk h74
            clear hx7 h72 h73 h74
            have HA7 := Hid.mk h75
            have HFR : Hid (∀ ad, A7 = some ad → ad.block ≠ g) := fun ad e => by
              have h1 := h76 ad r7.length c7 (by rw [e])
              have h2 := HB6.out.lt
              omega
            have hil : i < (out.set i (cnt : Int)).length := by rw [List.length_set, HOL.out]; omega
            have eo := HB7.out.int (j := i) hil
            have ef := HB7.out.frozen i
            have hgi : (out.set i (cnt : Int)).getD i 0 = cnt := by
              rw [List.getD_eq_getElem?_getD, List.getElem?_set_self (by rw [HOL.out]; omega)]; rfl
            rw [hgi] at eo
            have HF : Hid (((cnt + 1 : Nat) : Int) * val 10 ys + val 10 r7 = T) := by
              show ((cnt + 1 : Nat) : Int) * val 10 ys + val 10 r7 = T
              rw [HV7.out, ← HV'.out, Int.natCast_add, Int.add_mul]; omega
            clear h75 h76 hgi hil
            go_wp2
            go_roundg q1
            case measure => omega
            case rel =>
              exact ⟨cnt + 1, r7, A7, c7, by have := HQ.out; omega, rfl, h71, HA7.out, HR7.out.far HFR.out _, HN7.out, HF.out, by
                have := HB7.out.set i (.int .i64 ((cnt : Int) + 1))
                rw [← nums_set, List.set_set] at this
                exact this, HX7.out.set (p := ⟨g, i, none⟩) HG.out _⟩
        · have hz0 : z < 0 := by rw [hz, Int.sign_eq_neg_one_of_neg (by omega)]; omega
          have hcnt9 : cnt ≤ 9 := by
            have h1 := HV'.out
            have h2 := HT1.out
            have h4 : 0 < val 10 ys := by rw [HV1.out]; exact hy
            apply Nat.le_of_not_lt
            intro hlt
            have : (10 : Int) * val 10 ys ≤ cnt * val 10 ys := Int.mul_le_mul_of_nonneg_right (by omega) (by omega)
            omega
          have HF : Hid (val 10 (xs.drop i) = val 10 ((out.set i (cnt : Int)).drop i) * val 10 ys + val 10 r') := by
            show val 10 (xs.drop i) = _
            have hl : i < (out.set i (cnt : Int)).length := by rw [List.length_set, HOL.out]; omega
            rw [drop_get (d := 0) (show i < xs.length by omega), drop_get (d := 0) hl, val_cons, val_cons, HV.out, ← DG.out]
            have e1 : (out.set i (cnt : Int)).getD i 0 = cnt := by
              rw [List.getD_eq_getElem?_getD, List.getElem?_set_self (by rw [HOL.out]; omega)]; rfl
            have e2 : (out.set i (cnt : Int)).drop (i + 1) = out.drop (i + 1) := by
              rw [List.drop_set_of_lt (by omega)]
            rw [e1, e2]
            have h1 := HV'.out
            rw [HT5.out] at h1
            rw [Int.add_mul, Int.mul_assoc]
            omega
          have HLT : Hid (val 10 r' < val 10 ys) := by show val 10 r' < _; omega
          have HNZ : Hid (∀ j, j < i → (out.set i (cnt : Int)).getD j 0 = 0) := by
            intro j hj
            rw [List.getD_eq_getElem?_getD, List.getElem?_set_ne (by omega), ← List.getD_eq_getElem?_getD]
            exact HOZ.out j (by omega)
          clear hz hge hvr
          go_wp2
          go_roundw
          case rel => exact ⟨i, out.set i (cnt : Int), r', C', cc', by omega, by go_num, rfl, hcc', HNIL'.out, HR6.out, HN'.out, HLT.out, by rw [List.length_set]; exact HOL.out, HOD.out.set _ (by omega) (by omega), HNZ.out, HF.out, HB6.out, HX6.out⟩
          case measure => simp [intOf]
    · obtain rfl : k = 0 := by omega
      have hv0 := HV.out
      rw [List.drop_zero, List.drop_zero, HV0.out, HV1.out] at hv0
      have hr0 := val_nonneg (by decide : (0 : Int) < 10) HRN.out.1
      have hr1 := HRV.out
      rw [HV1.out] at hr1
      have hs1 : Int.sign y = 1 := Int.sign_eq_one_of_pos hy
      have hdivmod : val 10 out = (x.natAbs : Int) / y ∧ val 10 rs = (x.natAbs : Int) % y := by
        have := Int.ediv_emod_unique (a := (x.natAbs : Int)) (b := y) (r := val 10 rs) (q := val 10 out) hy
        have h := this.2 ⟨by rw [Int.mul_comm y]; omega, hr0, hr1⟩
        exact ⟨h.1.symm, h.2.symm⟩
      have HDM := Hid.mk hdivmod
      have HS1 := Hid.mk hs1
      clear hdivmod hv0 hr0 hr1 hs1
      go_wp2_with fail
      refine (ref_sign _ s x HS.out).mono ?_
      rintro e w4 ⟨⟨v, rfl, rfl⟩, hx4⟩
      have HX4 := Hid.mk (HX.out.trans hx4)
      have HB4 := Hid.mk (HB.out.x hx4)
      have HRS4 := Hid.mk (HRS.out.x hx4)
      clear hx4
      go_wp2_with fail
      refine (ref_sign _ t y HT.out).mono ?_
      rintro e w5 ⟨⟨v, rfl, rfl⟩, hx5⟩
      rw [HS1.out]
      have HX5 := Hid.mk (HX4.out.trans hx5)
      have HB5 := Hid.mk (HB4.out.x hx5)
      have HRS5 := Hid.mk (HRS4.out.x hx5)
      clear hx5
      obtain ⟨sx, hsx⟩ : ∃ sx, Int.sign x = sx := ⟨_, rfl⟩
      have hsr : -1 ≤ sx ∧ sx ≤ 1 := by
        rw [← hsx]
        rcases Int.lt_trichotomy x 0 with h | h | h
        · rw [Int.sign_eq_neg_one_of_neg h]; omega
        · rw [h]; decide
        · rw [Int.sign_eq_one_of_pos h]; omega
      have HSX := Hid.mk hsx
      rw [hsx]
      clear hsx
      go_wp2_with fail
      refine (ref_text_of _ _ _ ((x.natAbs : Int) / y) ⟨out, some ⟨g, 0, none⟩, xs.length, by rw [HOL.out], by rw [HOL.out]; exact Nat.le_refl _, HB5.out.rd (by rw [HOL.out]; omega), HOD.out, HDM.out.1, by rw [HOL.out]; omega⟩).mono ?_
      rintro e w6 ⟨⟨v, rfl, tq, rfl, hq⟩, hx6⟩
      have hex : sg (decide (sx < 0)) ((x.natAbs : Int) / y) = x / y ∧ sg (decide (x < 0)) ((x.natAbs : Int) % y) = x % y := by
        have hd : decide (sx < 0) = decide (x < 0) := by rw [← HSX.out]; simp only [Int.sign_neg_iff]
        rw [hd]
        unfold sg
        by_cases h : x < 0
        · have hdv : y ∣ x := by rcases hxy with h' | h'; omega; exact h'
          have e1 : (x.natAbs : Int) = -x := by omega
          have e2 : (-x) / y = -(x / y) := Int.neg_ediv_of_dvd hdv
          have e3 : (-x) % y = 0 := Int.emod_eq_zero_of_dvd ((Int.dvd_neg).2 hdv)
          have e4 : x % y = 0 := Int.emod_eq_zero_of_dvd hdv
          rw [if_pos (by simpa using h), if_pos (by simpa using h), e1, e2, e3, e4]
          omega
        · have e1 : (x.natAbs : Int) = x := by omega
          rw [if_neg (by simpa using h), if_neg (by simpa using h), e1]
          exact ⟨rfl, rfl⟩
      rw [hex.1] at hq
      have HQ := Hid.mk hq
      have HE2 := Hid.mk hex.2
      have HX6 := Hid.mk (HX5.out.trans hx6)
      have HRS6 := Hid.mk (HRS5.out.x hx6)
      clear hx6 hq hex
      go_wp2_with fail
      refine (ref_sign _ s x HS.out).mono ?_
      rintro e w7 ⟨⟨v, rfl, rfl⟩, hx7⟩
      have HX7 := Hid.mk (HX6.out.trans hx7)
      have HRS7 := Hid.mk (HRS6.out.x hx7)
      clear hx7
      go_wp2_with fail
      refine (ref_text_of _ _ _ ((x.natAbs : Int) % y) ⟨rs, C, cc, rfl, hcc, HRS7.out, HRN.out.1, HDM.out.2, by omega⟩).mono ?_
      rintro e w8 ⟨⟨v, rfl, tr, rfl, hr⟩, hx8⟩
      rw [HE2.out] at hr
      have HR8 := Hid.mk hr
      have HX8 := Hid.mk (HX2.out.trans (HX7.out.trans hx8))
      have hz : (tr.toList == [48]) = decide (x % y = 0) := by
        rw [Bool.eq_iff_iff, beq_iff_eq, decide_eq_true_iff, ← TxtL.zero hr, ByteArray.toList_eq]
      clear hx8 hr
      by_cases hm0 : x % y = 0
      · have hz' : tr.toList = [48] := by simpa [hm0] using hz
        clear hz
        go_wp2
        go_ret2
        exact ⟨⟨_, rfl, tq, tr, rfl, HQ.out, HR8.out⟩, HX8.out⟩
      · have hz' : ¬ tr.toList = [48] := by simpa [hm0] using hz
        have hb' : (tr.toList == [48]) = false := by simpa using hz'
        have hpos : 0 < x % y := by have := Int.emod_nonneg x (show y ≠ 0 by omega); omega
        have hsg : Int.sign (x % y) = 1 := Int.sign_eq_one_of_pos hpos
        have HSG := Hid.mk hsg
        clear hz hsg hpos
        go_wp2_with fail
        refine (ref_sign _ tr (x % y) HR8.out).mono ?_
        rintro e w9 ⟨⟨v, rfl, rfl⟩, hx9⟩
        rw [HSG.out]
        have HX9 := Hid.mk (HX8.out.trans hx9)
        clear hx9
        go_wp2_with fail
        refine (ref_sign _ t y HT.out).mono ?_
        rintro e w10 ⟨⟨v, rfl, rfl⟩, hx10⟩
        rw [HS1.out]
        have HX10 := Hid.mk (HX9.out.trans hx10)
        clear hx10
        go_wp2
        go_ret2
        exact ⟨⟨_, rfl, tq, tr, rfl, HQ.out, HR8.out⟩, HX10.out⟩
end Go.Proofs.YtogakaiibijjpaaGreatDoor

/- Reference 01 (decimal digits), eleventh part: Gcd, From. -/
set_option linter.unusedVariables false
set_option linter.unusedSimpArgs false
namespace Go.Proofs.YtogakaiibijjpaaGreatDoor
open Go.RowKit
open DDig

theorem Txt.size_le {s t : ByteArray} {x y : Int} (h : Txt s x) (g : Txt t y) (hxy : x.natAbs ≤ y.natAbs) : s.size ≤ t.size + 1 := by
  obtain ⟨h3, h4⟩ := TxtL.digits g
  have h5 := val_lt (by decide : (0 : Int) < 10) h3.1
  have h6 := trim_length_le (dgs t.data.toList)
  have h7 := dgs_length t.data.toList
  have h8 := TxtL.length_le (n := (trim (dgs t.data.toList)).length) h (by omega)
  simp at h7 h8
  omega

set_option maxRecDepth 100000 in
set_option maxHeartbeats 2000000 in
theorem ref_gcd (w : World) (s t : ByteArray) (x y : Int) (hs : Txt s x) (ht : Txt t y) (hn : s.size ≤ 274877906940) (hm : t.size ≤ 274877906940) :
    Calls Tryz.prog 117 #[.string s, .string t] w (Ret w fun w' v => ∃ r, v = .string r ∧ Txt r (Int.gcd x y)) := by
  have HS := Hid.mk hs
  have HT := Hid.mk ht
  clear hs ht
  go_enter Tryz.func117, Tryz.ntmps117
  go_wp2_with fail
  refine (ref_digits_of _ s x HS.out (by omega)).mono ?_
  rintro e w1 ⟨⟨v, rfl, xs, A, c, rfl, h1, h2, h3, h4, h5⟩, hx1⟩
  have HX1 := Hid.mk hx1
  have HR := Hid.mk h2
  have HN := Hid.mk h3
  have HV := Hid.mk h4
  clear hx1 h2 h3 h4
  go_wp2_with fail
  refine (ref_text_of _ _ _ x.natAbs ⟨xs, A, c, rfl, h1, HR.out, HN.out.1, HV.out, by omega⟩).mono ?_
  rintro e w2 ⟨⟨v, rfl, a, rfl, ha⟩, hx2⟩
  have HX2 := Hid.mk (HX1.out.trans hx2)
  have HA : Hid (Txt a x.natAbs) := ha
  clear hx2 ha HR HN HV
  go_wp2_with fail
  refine (ref_digits_of _ t y HT.out (by omega)).mono ?_
  rintro e w3 ⟨⟨v, rfl, ys, B, d, rfl, k1, k2, k3, k4, k5⟩, hx3⟩
  have HX3 := Hid.mk (HX2.out.trans hx3)
  have HR := Hid.mk k2
  have HN := Hid.mk k3
  have HV := Hid.mk k4
  clear hx3 k2 k3 k4
  go_wp2_with fail
  refine (ref_text_of _ _ _ y.natAbs ⟨ys, B, d, rfl, k1, HR.out, HN.out.1, HV.out, by omega⟩).mono ?_
  rintro e w4 ⟨⟨v, rfl, b, rfl, hb⟩, hx4⟩
  have HX4 := Hid.mk (HX3.out.trans hx4)
  have HB : Hid (Txt b y.natAbs) := hb
  have hsa : a.size ≤ 274877906942 := by have := HA.out.size_le HS.out (by simp); omega
  have hsb : b.size ≤ 274877906942 := by have := HB.out.size_le HT.out (by simp); omega
  clear hx4 hb HR HN HV
  go_wp2_with fail
  go_loopg [5, 6, 7, 8] (y.natAbs) (fun q t5 t6 t7 t8 wr => ∃ a' b' : ByteArray, ∃ u v : Nat, t5 = .string a' ∧ t6 = .string b' ∧ Txt a' u ∧ Txt b' v ∧ a'.size ≤ 274877906944 ∧ b'.size ≤ 274877906944 ∧ Int.gcd u v = Int.gcd x y ∧ v ≤ q ∧ v ≤ y.natAbs ∧ X w wr)
  case atStart => exact ⟨a, b, x.natAbs, y.natAbs, rfl, rfl, HA.out, HB.out, by omega, by omega, by simp [Int.gcd], Nat.le_refl _, Nat.le_refl _, HX4.out⟩
  case round =>
    obtain ⟨a', b', u, v, rfl, rfl, hu, hv, su, sv, hg, hq, hvy, hx⟩ := hrel
    have HU := Hid.mk hu
    have HV := Hid.mk hv
    have HGG := Hid.mk hg
    have HQ := Hid.mk hq
    have HX := Hid.mk hx
    have hz : (b'.toList == [48]) = decide ((v : Int) = 0) := by
      rw [Bool.eq_iff_iff, beq_iff_eq, decide_eq_true_iff, ← TxtL.zero hv, ByteArray.toList_eq]
    clear hu hv hg hq hx
    by_cases hv0 : v = 0
    · have hz' : b'.toList = [48] := by simpa [hv0] using hz
      have HF : Hid (Txt a' (Int.gcd x y)) := by
        have h := HGG.out
        rw [hv0] at h
        have h2 : Int.gcd (u : Int) ((0 : Nat) : Int) = u := by simp
        rw [← h, h2]; exact HU.out
      clear hz
      go_wp2
      go_ret
      exact ⟨⟨_, rfl, a', rfl, HF.out⟩, HX.out⟩
    · have hz' : ¬ b'.toList = [48] := by
        simpa [hv0] using hz
      have hb' : (b'.toList == [48]) = false := by simpa using hz'
      have hvp : (0 : Int) < v := by omega
      clear hz
      cases gk with
      | zero => exact absurd HQ.out (by omega)
      | succ q1 =>
        go_wp2_with fail
        refine (ref_divmod _ a' b' u v HU.out HV.out su sv hvp (Or.inl (by omega))).mono ?_
        rintro e w5 ⟨⟨vv, rfl, tq, tr, rfl, -, hr⟩, hx5⟩
        have hlt := Int.emod_lt_of_pos (u : Int) hvp
        have hge := Int.emod_nonneg (u : Int) (show (v : Int) ≠ 0 by omega)
        have hr' : Txt tr ((u % v : Nat) : Int) := by rw [Int.natCast_emod]; exact hr
        have hmlt : u % v < v := Nat.mod_lt _ (by omega)
        have HR := Hid.mk hr'
        have hst : tr.size ≤ 274877906944 := by
          have h1 := HR.out.size_le HT.out (y := y) (by
            rw [Int.natAbs_natCast]; omega)
          omega
        have HX5 := Hid.mk (HX.out.trans hx5)
        have HG3 : Hid (Int.gcd (v : Int) ((u % v : Nat) : Int) = Int.gcd x y) := by
          rw [Int.natCast_emod]; exact (gcd_step _ _).trans HGG.out
        have HK : Hid (u % v ≤ q1) := by
          show u % v ≤ q1
          have := HQ.out; omega
        clear hx5 hr hr' hlt hge
        go_wp2
        go_roundg q1
        case measure => omega
        case rel => exact ⟨b', tr, v, u % v, rfl, rfl, HV.out, HR.out, sv, hst, HG3.out, HK.out, by omega, HX5.out⟩
end Go.Proofs.YtogakaiibijjpaaGreatDoor

/- Reference 01 (decimal digits), twelfth part: From. -/
set_option linter.unusedVariables false
set_option linter.unusedSimpArgs false
namespace Go.Proofs.YtogakaiibijjpaaGreatDoor
open Go.RowKit
open DDig

theorem tparts_pos {m : Int} (h : 0 ≤ m) : m.tdiv 10 = m / 10 ∧ m.tmod 10 = m % 10 := ⟨Int.tdiv_eq_ediv_of_nonneg h, Int.tmod_eq_emod_of_nonneg h⟩
theorem tparts_neg {m : Int} (h : m < 0) : m.tdiv 10 = - ((-m) / 10) ∧ m.tmod 10 = - ((-m) % 10) := by
  have h1 : m = - (-m) := by omega
  constructor
  · conv => lhs; rw [h1, Int.neg_tdiv, Int.tdiv_eq_ediv_of_nonneg (by omega)]
  · conv => lhs; rw [h1, Int.neg_tmod, Int.tmod_eq_emod_of_nonneg (by omega)]
theorem pw_few {n : Nat} {x : Int} (h : pw 10 n ≤ x) (hx : x ≤ 9223372036854775808) : n ≤ 18 := by
  apply Nat.le_of_not_lt
  intro hlt
  have h1 := pw_mono (b := 10) (by decide) (show 19 ≤ n by omega)
  have h2 : pw 10 19 = 10000000000000000000 := by decide
  omega
theorem from_val {ds : List Int} {m d q : Int} {X : Int} (h : val 10 ds + pw 10 ds.length * m = X) (hd : m = d + 10 * q) :
    val 10 (ds ++ [d]) + pw 10 (ds ++ [d]).length * q = X := by
  rw [val_snoc, List.length_append, List.length_singleton, pw_succ, ← h, hd, Int.mul_add]
  have : 10 * pw 10 ds.length * q = pw 10 ds.length * (10 * q) := by
    rw [Int.mul_comm 10, Int.mul_assoc]
  omega

set_option maxRecDepth 100000 in
set_option maxHeartbeats 2000000 in
theorem ref_from (w : World) (x : Int) (h0 : -9223372036854775808 ≤ x) (h1 : x ≤ 9223372036854775807) :
    Calls Tryz.prog 97 #[.int .i64 x] w (Ret w fun w' v => ∃ r, v = .string r ∧ Txt r x) := by
  go_enter Tryz.func97, Tryz.ntmps97
  go_wp2_with fail
  go_loopg [3, 4] (x.natAbs) (fun q t3 t4 wr => ∃ m : Int, ∃ ds : List Int, t4 = .int .i64 m ∧ (m < 0 → x < 0) ∧ (0 < m → 0 < x) ∧ m.natAbs ≤ q ∧ m.natAbs ≤ x.natAbs ∧ ds.length ≤ 19 ∧ Dig 10 ds ∧ val 10 ds + pw 10 ds.length * m.natAbs = x.natAbs ∧ wr.ownsRow w.heap.size 3 1 t3 ds.length (nums .i64 ds) ∧ X w wr)
  case atStart => exact ⟨x, [], rfl, fun h => h, fun h => h, Nat.le_refl _, Nat.le_refl _, by simp, Dig.nil _, by simp [val, pw], World.ownsRow_nil _ _ _ _, X.refl w⟩
  case round =>
    obtain ⟨m, ds, rfl, hm0, hm1, hq, hmx, hdl, hd, hv, ho, hx⟩ := hrel
    have HO := Hid.mk ho
    have HX := Hid.mk hx
    have HD := Hid.mk hd
    have HV := Hid.mk hv
    have HQ := Hid.mk hq
    clear ho hx hd hv hq
    have hmr : -9223372036854775808 ≤ m ∧ m ≤ 9223372036854775807 := by omega
    by_cases hz : m = 0
    · subst hz
      obtain ⟨A, c, rfl, hc, hr, -⟩ := own_rd HO.out
      have HR := Hid.mk hr
      clear hr HO hmx hm0 hm1
      have hval : val 10 ds = x.natAbs := by
        have := HV.out
        simpa using this
      go_wp2_with fail
      refine (ref_text_of _ _ _ x.natAbs ⟨ds, A, c, rfl, hc, HR.out, HD.out, hval, by omega⟩).mono ?_
      rintro e w1 ⟨⟨v, rfl, r, rfl, hr⟩, hx1⟩
      have HX1 := Hid.mk (HX.out.trans hx1)
      have HT : Hid (Txt r x) := by
        have : sg (decide (x < 0)) x.natAbs = x := by
          unfold sg
          by_cases h : x < 0
          · rw [if_pos (by simpa using h)]; omega
          · rw [if_neg (by simpa using h)]; omega
        rw [← this]; exact hr
      clear hr hx1
      go_wp2
      go_ret
      exact ⟨⟨_, rfl, r, rfl, HT.out⟩, HX1.out⟩
    · have hne : (m != 0) = true := by simpa using hz
      have hl : ds.length ≤ 18 := by
        have h3 := val_nonneg (by decide : (0 : Int) < 10) HD.out
        have h4 := pw_pos (b := 10) (by decide) ds.length
        have h5 : pw 10 ds.length * 1 ≤ pw 10 ds.length * (m.natAbs : Int) := Int.mul_le_mul_of_nonneg_left (by omega) (by omega)
        have h6 := HV.out
        exact pw_few (x := x.natAbs) (by omega) (by omega)
      have hparts : (0 ≤ m ∧ m.tdiv 10 = m / 10 ∧ m.tmod 10 = m % 10) ∨ (m < 0 ∧ m.tdiv 10 = - ((-m) / 10) ∧ m.tmod 10 = - ((-m) % 10)) := by
        by_cases h : 0 ≤ m
        · exact Or.inl ⟨h, tparts_pos h⟩
        · exact Or.inr ⟨by omega, tparts_neg (by omega)⟩
      have hdb : -9223372036854775808 ≤ m.tdiv 10 ∧ m.tdiv 10 ≤ 9223372036854775807 := by omega
      have hmb : -9 ≤ m.tmod 10 ∧ m.tmod 10 ≤ 9 := by omega
      have HP := Hid.mk hparts
      clear hparts
      cases gk with
      | zero => exact absurd HQ.out (by omega)
      | succ q1 =>
        by_cases hneg : m.tmod 10 < 0
        · go_wp2_with (at_builtin; refine append_lit w _ rfl _ _ 30 rfl 3 (.int .i64 0) 1 8 Tryz.underlying30 info_int rfl (by omega) _ _ _ rfl HO.out _ _ _ rfl rfl (by simp [Value.oneCell']) (by omega) (by omega) HX.out ?_; intro v1 w1 ho1 hx1; have HO1 := Hid.mk ho1; have HX1 := Hid.mk hx1; clear ho1 hx1)
          go_roundg q1
          case measure => omega
          case rel =>
            have hp := HP.out
            have hqq := HQ.out
            refine ⟨m.tdiv 10, ds ++ [- m.tmod 10], rfl, by omega, by omega, by omega, by omega, by rw [List.length_append, List.length_singleton]; omega, HD.out.append (Dig.cons (by omega) (by omega) (Dig.nil _)), ?_, ?_, HX1.out⟩
            · exact from_val HV.out (by omega)
            · have := HO1.out
              rw [List.length_append, List.length_singleton]
              simpa [nums] using this
        · go_wp2_with (at_builtin; refine append_lit w _ rfl _ _ 30 rfl 3 (.int .i64 0) 1 8 Tryz.underlying30 info_int rfl (by omega) _ _ _ rfl HO.out _ _ _ rfl rfl (by simp [Value.oneCell']) (by omega) (by omega) HX.out ?_; intro v1 w1 ho1 hx1; have HO1 := Hid.mk ho1; have HX1 := Hid.mk hx1; clear ho1 hx1)
          go_roundg q1
          case measure => omega
          case rel =>
            have hp := HP.out
            have hqq := HQ.out
            refine ⟨m.tdiv 10, ds ++ [m.tmod 10], rfl, by omega, by omega, by omega, by omega, by rw [List.length_append, List.length_singleton]; omega, HD.out.append (Dig.cons (by omega) (by omega) (Dig.nil _)), ?_, ?_, HX1.out⟩
            · exact from_val HV.out (by omega)
            · have := HO1.out
              rw [List.length_append, List.length_singleton]
              simpa [nums] using this
end Go.Proofs.YtogakaiibijjpaaGreatDoor

/- Package integer, twelfth part: magnitudes divided by a power of 2. -/
set_option linter.unusedVariables false
set_option linter.unusedSimpArgs false
namespace Go.Proofs.YtogakaiibijjpaaGreatDoor
open Go.RowKit
open DDig

theorem emod_sum {m : List Int} {b : Nat} (hb : b ≤ 31) : val B32 m % 2 ^ b = m.getD 0 0 % 2 ^ b := by
  obtain ⟨q, hq⟩ := pow_dvd32 hb
  cases m with
  | nil => simp
  | cons d t =>
    rw [val_cons]
    unfold B32
    rw [hq, Int.mul_assoc, Int.add_mul_emod_self_left]; rfl

theorem lowered_end {m out : List Int} {b : Nat} {y : Int} (hb : b ≤ 31) (hl : out.length = m.length) (h : val B32 (out.take m.length) * 2 ^ b = val B32 (m.take m.length) - m.getD 0 0 % 2 ^ b + m.getD m.length 0 % 2 ^ b * pw B32 m.length) (hy : val B32 m = y * 2 ^ b) : val B32 out = y := by
  have ⟨h1, h2⟩ := pow_le31 hb
  rw [← hl, List.take_length, hl, List.take_length, ← emod_sum hb, hy, Int.mul_emod_left, nil_getD (by omega)] at h
  exact Int.eq_of_mul_eq_mul_right (a := 2 ^ b) (by omega) (by simpa using h)

set_option maxRecDepth 100000 in
set_option maxHeartbeats 1000000 in
theorem int_lowered (w : World) (A : Option Addr) (n c : Nat) (x y : Int) (b : Nat) (h0 : MagR w A n c x) (hn : n ≤ 1099511627776) (hb : b ≤ 31) (hxy : x = y * 2 ^ b) :
    Calls Tryz.prog 167 #[.slice A n c, .int .i64 b] w (Ret w fun w' v => ∃ A' n' c', v = .slice A' n' c' ∧ MagR w' A' n' c' y) := by
  obtain ⟨p, rfl, _, r0, i0, rfl⟩ := h0
  have hnil : A = none → p = [] := by
    intro e
    apply List.eq_nil_of_length_eq_zero
    apply Nat.eq_zero_of_not_pos
    intro h
    obtain ⟨_, _, e2, _⟩ := r0.2 h
    rw [e] at e2; cases e2
  have HP := Hid.mk r0
  have DP := Hid.mk i0.1
  have HXY := Hid.mk hxy
  have HNIL := Hid.mk hnil
  clear r0 i0 hxy hnil
  go_enter Tryz.func167, Tryz.ntmps167
  go_wp2_with fail
  refine (clone_u32 w A c p HP.out hn HNIL.out).mono ?_
  rintro e w1 ⟨⟨v1, rfl, ho⟩, hx1⟩
  have HX1 := Hid.mk hx1
  by_cases hp0 : p.length = 0
  · obtain rfl := List.eq_nil_of_length_eq_zero hp0
    have hv1 : ∃ A' c', v1 = .slice A' 0 c' ∧ 0 ≤ c' := by
      rcases ho.2 with ⟨rfl, _⟩ | ⟨g, cap, cur, rfl, _⟩
      · exact ⟨none, 0, rfl, by omega⟩
      · exact ⟨_, cap, rfl, by omega⟩
    obtain ⟨A', c', rfl, _⟩ := hv1
    have hy0 : y = 0 := by
      have h := HXY.out
      have ⟨h1, h2⟩ := pow_le31 hb
      rw [val_nil] at h
      exact Int.eq_of_mul_eq_mul_right (a := 2 ^ b) (by omega) (by rw [← h]; simp)
    have HY := Hid.mk hy0
    clear ho hx1 hp0 hy0
    go_wp2_with fail
    go_loopw [11] (fun t11 wr => t11 = .int .i64 0 ∧ wr = w1) (fun _ _ => 0)
    case atStart => exact ⟨rfl, rfl⟩
    case round =>
      obtain ⟨rfl, rfl⟩ := hrel
      go_wp2_with fail
      have P := int_trim wr A' c' [] (by simp) (Rd.nil _ _ _)
      refine P.mono ?_
      rintro e w2 ⟨⟨v, rfl, rfl⟩, hx2⟩
      have HX2 := Hid.mk (HX1.out.trans hx2)
      clear hx2
      go_wp2
      go_ret
      exact ⟨⟨_, rfl, _, _, _, rfl, [], rfl, by simp [trim], Rd.nil _ _ _, ⟨Dig.nil _, Norm.nil⟩, by rw [HY.out]; rfl⟩, HX2.out⟩
  · obtain ⟨g, cap, rest, rfl, hg, hcap, hblk⟩ := own_open ho (by omega)
    have HB1 := Hid.mk hblk
    clear ho hx1 hblk
    go_wp2_with fail
    go_loopw [11] (fun t11 wr => ∃ i : Nat, ∃ xs : List Int, i ≤ p.length ∧ t11 = .int .i64 i ∧ xs.length = p.length ∧ Dig B32 xs ∧ (∀ j, i ≤ j → j < p.length → xs.getD j 0 = p.getD j 0) ∧ val B32 (xs.take i) * 2 ^ b = val B32 (p.take i) - p.getD 0 0 % 2 ^ b + p.getD i 0 % 2 ^ b * pw B32 i ∧ Blk wr g 145 (nums .u32 xs ++ rest) ∧ X w wr) (fun i _ => p.length - (intOf i).toNat)
    case atStart => exact ⟨0, p, Nat.zero_le _, rfl, rfl, DP.out, fun j _ _ => rfl, by simp; omega, HB1.out, HX1.out⟩
    case round =>
      obtain ⟨i, xs, hi, rfl, hxl, hd, hsame, hv, hbk, hx⟩ := hrel
      have HXL := Hid.mk hxl
      have HB := Hid.mk hbk
      have HX := Hid.mk hx
      have HD := Hid.mk hd
      have HVK := Hid.mk hv
      have HS := Hid.mk hsame
      clear hxl hbk hx hd hv hsame
      by_cases hlt : i < p.length
      · obtain ⟨b0, o0, rfl, g0⟩ := HP.out.2 (by omega)
        obtain ⟨u, hu⟩ : ∃ u, u = p.getD i 0 := ⟨_, rfl⟩
        have eo := HB.out.int' (j := i) (by have := HXL.out; omega)
        rw [HS.out i (Nat.le_refl _) hlt, ← hu] at eo
        have ⟨hu0, hu1⟩ : 0 ≤ u ∧ u ≤ 4294967295 := by rw [hu]; exact dig_le DP.out i
        have HU := Hid.mk hu
        clear hu
        have ef := HB.out.frozen i
        have hi1 : (i : Int) < (p.length : Int) := by omega
        have ⟨hp1, hp0'⟩ := pow_le31 hb
        by_cases hnx : i + 1 < p.length
        · have e1 := HX.out.cell (g0 (i + 1) hnx)
          obtain ⟨v, hv⟩ : ∃ v, v = p.getD (i + 1) 0 := ⟨_, rfl⟩
          rw [← hv] at e1
          have ⟨hv0, hv1⟩ : 0 ≤ v ∧ v ≤ 4294967295 := by rw [hv]; exact dig_le DP.out (i + 1)
          have HV := Hid.mk hv
          clear hv g0
          have ⟨hl1, hl2, hl3⟩ := lower_digit hb hu0 hu1 hv0 hv1
          have HL2 := Hid.mk hl2
          clear hl2
          have hnx1 : ((i : Int) + 1) < (p.length : Int) := by omega
          go_wp2
          go_region
          go_wp2
          go_roundw
          case rel =>
            have hl : i < xs.length := by rw [HXL.out]; exact hlt
            have h4 := Int.emod_nonneg (v * 4294967296 / 2 ^ b) (show (4294967296 : Int) ≠ 0 by omega)
            have h5 : 0 ≤ u / 2 ^ b := Int.ediv_nonneg hu0 (by omega)
            refine ⟨i + 1, xs.set i (u / 2 ^ b + v * 4294967296 / 2 ^ b % 4294967296), by omega, by go_num, by rw [List.length_set]; exact HXL.out, HD.out.set _ (by omega) (by unfold B32; omega), fun j h1 h2 => ?_, lowered_step hl HVK.out (by rw [← HU.out, ← HV.out]; exact HL2.out), ?_, ((HX.out.set (p := ⟨g, i, none⟩) hg _).set (p := ⟨g, i, none⟩) hg _).drew⟩
            · rw [List.getD_eq_getElem?_getD, List.getElem?_set_ne (by omega), ← List.getD_eq_getElem?_getD]
              exact HS.out j (by omega) h2
            · have := (HB.out.set' hl (u / 2 ^ b)).set' (by rw [List.length_set]; exact hl) (u / 2 ^ b + v * 4294967296 / 2 ^ b % 4294967296)
              rw [List.set_set] at this
              exact this
          case measure => simp [intOf]; omega
        · have hv0 : p.getD (i + 1) 0 = 0 := nil_getD hnx
          have ⟨hl1, hl2, hl3⟩ := lower_digit (v := 0) hb hu0 hu1 (by omega) (by omega)
          have h5 : 0 ≤ u / 2 ^ b := Int.ediv_nonneg hu0 (by omega)
          have HL2 : Hid (u / 2 ^ b * 2 ^ b = u - u % 2 ^ b) := by
            show u / 2 ^ b * 2 ^ b = u - u % 2 ^ b
            have := Int.mul_ediv_add_emod u (2 ^ b)
            rw [Int.mul_comm]; omega
          have HV := Hid.mk hv0
          have H3 : Hid (u / 2 ^ b ≤ 4294967295) := by show u / 2 ^ b ≤ 4294967295; simpa using hl3
          have H5 := Hid.mk h5
          clear hl1 hl2 hl3 g0 hv0 h5
          have hnx1 : ¬ ((i : Int) + 1) < (p.length : Int) := by omega
          go_wp2
          go_roundw
          case rel =>
            have hl : i < xs.length := by rw [HXL.out]; exact hlt
            have h3 := H3.out
            refine ⟨i + 1, xs.set i (u / 2 ^ b), by omega, by go_num, by rw [List.length_set]; exact HXL.out, HD.out.set _ H5.out (by unfold B32; omega), fun j h1 h2 => by omega, lowered_step hl HVK.out (by rw [← HU.out, HV.out]; simpa using HL2.out), HB.out.set' hl _, HX.out.set (p := ⟨g, i, none⟩) hg _⟩
          case measure => simp [intOf]; omega
      · obtain rfl : i = p.length := by omega
        have hl := HXL.out
        have hR := Blk.rd' HB.out (by omega)
        have hval := lowered_end hb hl HVK.out HXY.out
        have P := int_trim wr (some ⟨g, 0, none⟩) cap xs (by omega) hR
        rw [hl] at P
        have HM := Hid.mk (fun (w2 : World) (hx : X wr w2) => trim_mag (c := cap) (by omega) (hR.x hx) HD.out)
        have HVAL := Hid.mk hval
        clear hR hl hval
        go_wp2_with fail
        refine P.mono ?_
        rintro e w2 ⟨⟨v, rfl, rfl⟩, hx2⟩
        have HX2 := Hid.mk (HX.out.trans hx2)
        have hM := HM.out w2 hx2
        rw [HVAL.out] at hM
        have HMM := Hid.mk hM
        clear hM hx2 P
        obtain ⟨n, hn⟩ : ∃ n, n = (trim xs).length := ⟨_, rfl⟩
        rw [← hn] at HMM ⊢
        clear hn
        go_wp2
        go_ret
        exact ⟨⟨_, rfl, _, _, _, rfl, HMM.out⟩, HX2.out⟩
end Go.Proofs.YtogakaiibijjpaaGreatDoor

/- Package integer, thirteenth part: what one digit of a long division keeps. -/
set_option linter.unusedVariables false
set_option linter.unusedSimpArgs false
namespace Go.Proofs.YtogakaiibijjpaaGreatDoor
open Go.RowKit
open DDig

/-- Only one block has turned. -/
structure Tn (g : Nat) (w w' : World) : Prop where
  os : w'.os = w.os
  tape : w'.tape = w.tape
  output : w'.output = w.output
  size : w'.heap.size = w.heap.size
  block : ∀ k, k ≠ g → w'.heap[k]? = w.heap[k]?
theorem Tn.refl (g : Nat) (w : World) : Tn g w w := ⟨rfl, rfl, rfl, rfl, fun _ _ => rfl⟩
theorem Tn.drewN {g : Nat} {a b : World} (h : Tn g a b) (n : Nat) : Tn g a (b.drewN n) := ⟨h.os, h.tape, h.output, h.size, h.block⟩
theorem Tn.drew {g : Nat} {a b : World} (h : Tn g a b) : Tn g a b.drew := ⟨h.os, h.tape, h.output, h.size, h.block⟩
theorem Tn.set {g : Nat} {a b : World} (h : Tn g a b) {p : Addr} (hp : p.block = g) (v : Value) : Tn g a (b.setCell p v) :=
  ⟨h.os, h.tape, h.output, by rw [← h.size]; simp [World.setCell], fun k hk => by rw [Below.heap_setCell _ _ _ _ (by omega)]; exact h.block k hk⟩
theorem Tn.cell {g : Nat} {a b : World} (h : Tn g a b) {p : Addr} (hp : p.block ≠ g) : b.cell? p = a.cell? p := World.cell?_of_block (h.block p.block hp)
theorem Tn.x {g : Nat} {a b c : World} (h : Tn g b c) (hx : X a b) (hg : a.heap.size ≤ g) : X a c :=
  ⟨h.os.trans hx.os, h.tape.trans hx.tape, h.output.trans hx.output, by have := h.size; have := hx.size; omega, fun k hk => (h.block k (by omega)).trans (hx.block k hk)⟩
theorem Tn.blk {g k : Nat} {a b : World} (h : Tn g a b) (hk : k ≠ g) {e : TypeId} {cs : List Value} (hb : Blk a k e cs) : Blk b k e cs := (h.block k hk).trans hb

/-- A window of digits inside a block. -/
def win (lo xs hi : List Int) : List Value := nums .u32 (lo ++ (xs ++ hi))
theorem win_get {lo xs hi : List Int} {i : Nat} (h : i < xs.length) : (win lo xs hi)[lo.length + i]? = some (.int .u32 (xs.getD i 0)) := by
  unfold win
  rw [nums_get (by simp; omega)]
  congr 2
  rw [List.getD_eq_getElem?_getD, List.getElem?_append_right (by omega), Nat.add_sub_cancel_left, List.getElem?_append_left h, ← List.getD_eq_getElem?_getD]
theorem win_set {lo xs hi : List Int} {i : Nat} (h : i < xs.length) (x : Int) : (win lo xs hi).set (lo.length + i) (.int .u32 x) = win lo (xs.set i x) hi := by
  unfold win
  rw [← nums_set, List.set_append_right _ _ (by omega), Nat.add_sub_cancel_left, List.set_append_left _ _ h]
theorem Blk.wget {w : World} {g : Nat} {e : TypeId} {lo xs hi : List Int} (h : Blk w g e (win lo xs hi)) {i : Nat} (hi' : i < xs.length) : w.cell? ⟨g, lo.length + i, none⟩ = some (.int .u32 (xs.getD i 0)) := h.cell (win_get hi')
theorem Blk.wset {w : World} {g : Nat} {e : TypeId} {lo xs hi : List Int} (h : Blk w g e (win lo xs hi)) {i : Nat} (hi' : i < xs.length) (x : Int) : Blk (w.setCell ⟨g, lo.length + i, none⟩ (.int .u32 x)) g e (win lo (xs.set i x) hi) := by
  rw [← win_set hi']; exact h.set _ _

theorem val_last2 {vs : List Int} {n : Nat} (hn : vs.length = n + 2) : val B32 vs = val B32 (vs.take n) + pw B32 n * (vs.getD n 0 + B32 * vs.getD (n + 1) 0) := by
  have h1 := val_take_succ (b := B32) (xs := vs) (i := n) (by omega)
  have h2 := val_take_succ (b := B32) (xs := vs) (i := n + 1) (by omega)
  rw [List.take_of_length_le (by omega), pw_succ] at h2
  rw [h2, h1]; grind

theorem val_last3 {us : List Int} {n : Nat} (hn : us.length = n + 3) : val B32 us = val B32 (us.take n) + pw B32 n * (us.getD n 0 + B32 * us.getD (n + 1) 0 + B32 * B32 * us.getD (n + 2) 0) := by
  have h1 := val_take_succ (b := B32) (xs := us) (i := n) (by omega)
  have h2 := val_take_succ (b := B32) (xs := us) (i := n + 1) (by omega)
  have h3 := val_take_succ (b := B32) (xs := us) (i := n + 2) (by omega)
  rw [List.take_of_length_le (by omega), pw_succ, pw_succ] at h3
  rw [pw_succ] at h2
  rw [h3, h2, h1]; grind

theorem top_of {us vs : List Int} {n : Nat} (hu : us.length = n + 3) (hv : vs.length = n + 2) (du : Dig B32 us) (dv : Dig B32 vs) (hp : 0 < vs.getD (n + 1) 0) (hlt : val B32 us < B32 * val B32 vs) :
    Top B32 (pw B32 n) (val B32 vs) (val B32 us) (vs.getD (n + 1) 0) (vs.getD n 0) (us.getD n 0) (us.getD (n + 2) 0 * B32 + us.getD (n + 1) 0) := by
  have a1 := val_lt B32_pos (dv.take n)
  have a2 := val_nonneg B32_pos (dv.take n)
  have a3 := val_lt B32_pos (du.take n)
  have a4 := val_nonneg B32_pos (du.take n)
  rw [List.length_take, Nat.min_eq_left (by omega)] at a1 a3
  have d1 := dv.getB B32_pos n
  have d2 := dv.getB B32_pos (n + 1)
  have d3 := du.getB B32_pos n
  have d4 := du.getB B32_pos (n + 1)
  have d5 := du.getB B32_pos (n + 2)
  have hP := pw_pos B32_pos n
  refine ⟨B32_gt, hP, hp, d2.2, d1, d3, ?_, ?_, ?_, ?_, ?_, hlt⟩
  · have := Int.mul_nonneg d5.1 (Int.le_of_lt B32_pos); omega
  · rw [val_last2 hv]; grind
  · rw [val_last2 hv]; grind
  · rw [val_last3 hu]; grind
  · rw [val_last3 hu]; grind

theorem msub_step {xs us vs : List Int} {i : Nat} {q cy bo bo2 c t d : Int} (hi : i < xs.length) (h : val B32 (xs.take i) = val B32 (us.take i) - q * val B32 (vs.take i) + pw B32 i * (cy + bo)) (hd : d = vs.getD i 0) (hc : c = cy + q * d) (ht : t = us.getD i 0 - bo - c % 4294967296 + 4294967296 * bo2) :
    val B32 ((xs.set i t).take (i + 1)) = val B32 (us.take (i + 1)) - q * val B32 (vs.take (i + 1)) + pw B32 (i + 1) * (c / 4294967296 + bo2) := by
  rw [val_take_set hi, val_take_next us, val_take_next vs, ← hd, pw_succ, h, ht]
  have e : c % 4294967296 = c - 4294967296 * (c / 4294967296) := by omega
  rw [e, hc]
  unfold B32
  grind

theorem msub_end {xs us vs : List Int} {n : Nat} {q cy bo : Int} (hl : xs.length = n + 1) (hu : us.length = n + 1) (hv : vs.length = n) (h : val B32 (xs.take n) = val B32 (us.take n) - q * val B32 (vs.take n) + pw B32 n * (cy + bo)) :
    val B32 us - q * val B32 vs = val B32 (xs.take n) + pw B32 n * (us.getD n 0 - bo - cy) := by
  have h1 := val_take_succ (b := B32) (xs := us) (i := n) (by omega)
  rw [List.take_of_length_le (by omega)] at h1
  rw [List.take_of_length_le (l := vs) (by omega)] at h
  rw [h1, h]; grind

end Go.Proofs.YtogakaiibijjpaaGreatDoor
