/- Lemmas for the proof, part 8: L1, P3, Q1, L4, L5, U1, U2, L2, M10, E1, L3, A1, D5, A2, A3. -/
import Derived.Test.YtogakaiibijjpaaGreatDoorW7
import Derived.Test.YtogakaiibijjpaaGreatDoorCards
import Derived.Test.YtogakaiibijjpaaGreatDoorTie
import Derived.ProofKit
import Derived.OpenShut
import Derived.Lib.SmallJoins
import Derived.Deep.SlicePairs
import Derived.Deep.DeepHandedRow
import Derived.Deep.DeepWitnessRowRef
import Derived.Lib.LaidTab
import Derived.Carry
import Derived.Lay
import Derived.MakeChecks
import Derived.Shelf.LaysM
/- The law's words: rat, list, own. -/
set_option linter.unusedVariables false
set_option linter.unusedSimpArgs false
namespace Go.Proofs.YtogakaiibijjpaaGreatDoor
open Go.RowKit
open DDig

theorem TxtL.short {l : List UInt8} {z : Int} (h : TxtL l z) {k : Nat} (hz : (z.natAbs : Int) < pw B32 k) : l.length ≤ 10 * k + 1 :=
  TxtL.length_le h (Int.lt_of_lt_of_le hz (b32_ten k))
theorem QTxt.short {s : ByteArray} {x : Rat} (h : QTxt s x) {k : Nat} (hx : RSz x k) : s.size ≤ 20 * k + 3 := by
  obtain ⟨p, q, hp, hq, hl⟩ := h
  have h1 := hp.short hx.1
  have h2 := hq.short (k := k) (by rw [Int.natAbs_natCast]; exact hx.2)
  have e : s.size = s.data.toList.length := Lib.size_eq s
  rw [e, hl]
  split
  · omega
  · simp; omega

set_option maxRecDepth 100000 in
set_option maxHeartbeats 1000000 in
theorem law_rat (w : World) (f : FV) (x : Rat) (h : FR f x) (k : Nat) (hx : RSz x k) (hk : k ≤ 19) (hg : Gl w) :
    Calls Tryz.prog 63 #[f.v] w (Ret w fun w' v => ∃ r : QV, v = r.v ∧ RatR w' r x) := by
  have H := Hid.mk h
  have HG := Hid.mk hg
  have HS := Hid.mk hx
  have hsz := h.sizes hx
  clear h hg hx
  go_enter Tryz.func63, Tryz.ntmps63
  go_upto_region 1 with (fail)
  obtain ⟨W, hW, hX, b0, b1⟩ := setup2 w #[.string f.p, .string f.q] #[.bool false, .slice none 0 0, .bool false, .slice none 0 0] 84 71
  rw [hW]
  clear hW
  have c0 := b0.cell (j := 0) rfl; have c1 := b0.cell (j := 1) rfl
  go_wp2_with fail
  refine (ref_ftext _ f x H.out (by omega)).mono ?_
  rintro e w1 ⟨⟨v1, rfl, s, rfl, hs⟩, hx1⟩
  have HX := Hid.mk (hX.trans hx1)
  have B1 := Hid.mk (b1.x hx1)
  have HT := Hid.mk hs
  have hss := hs.short HS.out
  clear hX hx1 b0 b1 hs c0 c1
  go_wp2_with fail
  refine (rat_parse _ s x HT.out (by omega) (HG.out.x HX.out)).mono ?_
  rintro e w2 ⟨⟨v2, rfl, r, rfl, hr⟩, hx2⟩
  replace HX := Hid.mk (HX.out.trans hx2)
  replace B1 := Hid.mk (B1.out.x hx2)
  have hlt := B1.out.lt
  clear hx2
  obtain ⟨W3, hW3, hX13, hX3, p3, hr3⟩ := store4 (t := 71) HX.out hr
  have p2 := B1.out.x hX13
  have hne : ¬ w.heap.size + 1 = w2.heap.size := by omega
  have c0 := p3.cell (j := 0) rfl; have c1 := p3.cell (j := 1) rfl; have c2 := p3.cell (j := 2) rfl; have c3 := p3.cell (j := 3) rfl
  have k0 := p2.cell (j := 0) rfl; have k1 := p2.cell (j := 1) rfl; have k2 := p2.cell (j := 2) rfl; have k3 := p2.cell (j := 3) rfl; have f0 := p2.frozen 0; have f1 := p2.frozen 1; have f2 := p2.frozen 2; have f3 := p2.frozen 3
  have K := four_cells p2 (.bool r.s) (.slice r.A r.n r.c) (.bool r.t) (.slice r.B r.m r.d)
  have HR := Hid.mk (hr3.put4 p2 r)
  have HXF := Hid.mk (hX3.put4 (g := w.heap.size + 1) (by omega) r)
  clear hr3 hX3 hX13 p2 p3 hr B1 HX
  go_wp2_with fail
  exact bodyPost_ret (v := r.v) (by simp [results, Tryz.results63, go_sem, K.1, K.2.1, K.2.2.1, K.2.2.2]) rfl ⟨⟨_, rfl, r, rfl, HR.out⟩, HXF.out⟩

/-- Cells without whole numbers. -/
def NI (u : Value) : Prop := ∀ k x, u ≠ .int k x
theorem nni (k : IntKind) (x : Int) : ¬ NI (.int k x) := fun h => h k x rfl
theorem ni_qvc (a : QV) : ∀ u ∈ qvc a, NI u := fun u hu k x => by
  have := noint_qvc a u hu k x
  exact this
theorem ni_zero : ∀ u ∈ (Value.agg #[.bool false, .slice none 0 0, .bool false, .slice none 0 0]).cells.toList, NI u := by
  intro u hu k x
  have h2 : (Value.agg #[.bool false, .slice none 0 0, .bool false, .slice none 0 0]).cells.toList = [.bool false, .slice none 0 0, .bool false, .slice none 0 0] := by rfl
  rw [h2] at hu
  simp at hu
  rcases hu with rfl | rfl | rfl | rfl <;> simp

set_option maxRecDepth 100000 in
set_option maxHeartbeats 2000000 in
theorem law_list (w : World) (v : Value) (n : Nat) (f : Nat → Rat) (h : SlF w v n f) (hn : n ≤ 1000000) (k : Nat) (hs : ∀ j, j < n → RSz (f j) k) (hk : k ≤ 19) (hg : Gl w) :
    Calls Tryz.prog 24 #[v] w (Ret w fun w' v' => SlQ w' v' n f) := by
  obtain ⟨A, c, rfl, h1, h2, h3⟩ := h
  have HA := Hid.mk h3
  have HG := Hid.mk hg
  have HS := Hid.mk hs
  clear h1 h2 h3 hg hs
  go_enter Tryz.func24, Tryz.ntmps24
  go_wp2_with fail
  go_loopw [3, 4] (fun t3 t4 wr => ∃ (i : Nat) (qs : List QV), i ≤ n ∧ t4 = .int .i64 i ∧ OwnC NI wr w.heap.size 71 4 t3 i (qcs qs) ∧ qs.length = i ∧ (∀ j a, qs[j]? = some a → RatR wr a (f j)) ∧ X w wr) (fun _ t _ => n - (intOf t).toNat)
  case atStart => exact ⟨0, [], Nat.zero_le _, rfl, OwnC.nil _ _ _ _ _, rfl, by simp, X.refl _⟩
  case round =>
    obtain ⟨i, qs, hi, rfl, ho, hl, hq, hx⟩ := hrel
    have HO := Hid.mk ho
    have HQ := Hid.mk hq
    have HX := Hid.mk hx
    clear ho hq hx
    by_cases hin : i < n
    · have hin' : (i : Int) < (n : Int) := by omega
      obtain ⟨b, o, rfl, gg⟩ := HA.out (by omega)
      obtain ⟨a, c0, c1, ha⟩ := gg i hin
      replace c0 := HX.out.cell c0
      replace c1 := HX.out.cell c1
      have HF := Hid.mk ha
      clear gg ha
      go_wp2_with fail
      refine (law_rat _ a (f i) HF.out k (HS.out i hin) hk (HG.out.x HX.out)).mono ?_
      rintro e w1 ⟨⟨v1, rfl, r, rfl, hr⟩, hx1⟩
      replace HX := Hid.mk (HX.out.trans hx1)
      replace HO := Hid.mk (HO.out.x hx1)
      replace HQ := Hid.mk (fun j a hj => (HQ.out j a hj).x hx1)
      have HR := Hid.mk hr
      have hib : (i + 1) * 64 ≤ 140737488355328 := by omega
      clear hx1 hr c0 c1
      go_wp2_with (at_builtin; refine append_oneC NI w _ rfl _ _ 49 rfl 71 (.agg #[.bool false, .slice none 0 0, .bool false, .slice none 0 0]) 4 64 Tryz.underlying49 info_Q rfl (by omega) ni_zero _ _ _ rfl HO.out _ _ _ rfl rfl (by simp [Value.oneCell']) (ni_qvc r) (by omega) (by omega) HX.out ?_; intro v2 w2 ho2 hx2 hk2; have HO2 := Hid.mk ho2; have HX2 := Hid.mk hx2; have hkp := HO.out.kp hk2; have HQ2 := Hid.mk (fun j a hj => (HQ.out j a hj).kp hkp (fun x => nni _ x)); have HR2 := Hid.mk (HR.out.kp hkp (fun x => nni _ x)); clear ho2 hx2 hk2 hkp)
      go_roundw
      case rel =>
        refine ⟨i + 1, qs ++ [r], by omega, by go_num, by rw [qcs_snoc]; exact HO2.out, by simp [hl], fun j a hj => ?_, HX2.out⟩
        by_cases e : j = i
        · subst e
          rw [List.getElem?_append_right (by omega), hl] at hj
          simp at hj
          subst hj
          exact HR2.out
        · have hil : j < qs.length := by
            have := (List.getElem?_eq_some_iff.1 hj).1
            simp at this
            omega
          rw [List.getElem?_append_left hil] at hj
          exact HQ2.out j a hj
      case measure => simp [intOf]; omega
    · obtain rfl : i = n := by omega
      have HF := Hid.mk (SlQ.own HO.out.1 hl HQ.out)
      have hin' : ¬ (i : Int) < (i : Int) := by omega
      clear hin hi
      go_wp2_with fail
      go_ret
      exact ⟨⟨_, rfl, HF.out⟩, HX.out⟩

set_option maxRecDepth 100000 in
set_option maxHeartbeats 2000000 in
theorem law_own (w : World) (v : Value) (m n : Nat) (M : Nat → Nat → Rat) (h : MatF w v m n M) (hm : m ≤ 1000000) (hn : n ≤ 1000000) (k : Nat) (hs : TSz M m n k) (hk : k ≤ 19) (hg : Gl w) :
    Calls Tryz.prog 15 #[v] w (Ret w fun w' v' => MatQ w' v' m n M) := by
  obtain ⟨A, c, rfl, h1, h2, h3⟩ := h
  have HA := Hid.mk h3
  have HG := Hid.mk hg
  have HS := Hid.mk hs
  clear h1 h2 h3 hg hs
  go_enter Tryz.func15, Tryz.ntmps15
  go_wp2_with fail
  go_loopw [3, 4] (fun t3 t4 wr => ∃ (i : Nat) (us : List Value), i ≤ m ∧ t4 = .int .i64 i ∧ OwnC IsSl wr w.heap.size 49 1 t3 i us ∧ us.length = i ∧ (∀ j u, us[j]? = some u → SlQ wr u n (M j)) ∧ X w wr) (fun _ t _ => m - (intOf t).toNat)
  case atStart => exact ⟨0, [], Nat.zero_le _, rfl, OwnC.nil _ _ _ _ _, rfl, by simp, X.refl _⟩
  case round =>
    obtain ⟨i, us, hi, rfl, ho, hl, hq, hx⟩ := hrel
    have HO := Hid.mk ho
    have HQ := Hid.mk hq
    have HX := Hid.mk hx
    clear ho hq hx
    by_cases him : i < m
    · have him' : (i : Int) < (m : Int) := by omega
      obtain ⟨b, o, rfl, gg⟩ := HA.out (by omega)
      obtain ⟨u, c0, hu⟩ := gg i him
      obtain ⟨A1, d1, rfl, p1, p2, p3⟩ := id hu
      replace c0 := HX.out.cell c0
      have HU := Hid.mk (hu.x HX.out)
      clear gg hu p1 p2 p3
      go_wp2_with fail
      refine (law_list _ _ n (M i) HU.out hn k (HS.out i him) hk (HG.out.x HX.out)).mono ?_
      rintro e w1 ⟨⟨v1, rfl, hr⟩, hx1⟩
      obtain ⟨A5, d5, rfl, p1, p2, p3⟩ := id hr
      replace HX := Hid.mk (HX.out.trans hx1)
      replace HO := Hid.mk (HO.out.x hx1)
      replace HQ := Hid.mk (fun j a hj => (HQ.out j a hj).x hx1)
      have HR := Hid.mk hr
      have hib : (i + 1) * 24 ≤ 140737488355328 := by omega
      clear hx1 hr c0 p1 p2 p3
      go_wp2_with (at_builtin; refine append_oneC IsSl w _ rfl _ _ 29 rfl 49 (.slice none 0 0) 1 24 Tryz.underlying29 info_sQ rfl (by omega) (fun u hu => ⟨none, 0, 0, by simpa [Value.cells] using hu⟩) _ _ _ rfl HO.out _ _ _ rfl rfl (by simp [Value.oneCell']) (fun u hu => ⟨A5, n, d5, by simpa using hu⟩) (by omega) (by omega) HX.out ?_; intro v2 w2 ho2 hx2 hk2; have HO2 := Hid.mk ho2; have HX2 := Hid.mk hx2; have HQ2 := Hid.mk (fun j a hj => (HQ.out j a hj).kApp HO.out hk2); have HR2 := Hid.mk (HR.out.kApp HO.out hk2); clear ho2 hx2 hk2)
      go_roundw
      case rel =>
        refine ⟨i + 1, us ++ [.slice A5 n d5], by omega, by go_num, HO2.out, by simp [hl], fun j a hj => ?_, HX2.out⟩
        by_cases e : j = i
        · subst e
          rw [List.getElem?_append_right (by omega), hl] at hj
          simp at hj
          subst hj
          exact HR2.out
        · have hil : j < us.length := by
            have := (List.getElem?_eq_some_iff.1 hj).1
            simp at this
            omega
          rw [List.getElem?_append_left hil] at hj
          exact HQ2.out j a hj
      case measure => simp [intOf]; omega
    · obtain rfl : i = m := by omega
      have HF := Hid.mk (SlM.own (S := SlQ) (M := M) (c := n) HO.out.1 hl HQ.out)
      have him' : ¬ (i : Int) < (i : Int) := by omega
      clear him hi
      go_wp2_with fail
      go_ret
      exact ⟨⟨_, rfl, HF.out⟩, HX.out⟩
end Go.Proofs.YtogakaiibijjpaaGreatDoor

/- Package rational: Number. -/
set_option linter.unusedVariables false
set_option linter.unusedSimpArgs false
namespace Go.Proofs.YtogakaiibijjpaaGreatDoor
open Go.RowKit
open DDig

theorem RatR.den_iv {w : World} {a : QV} {q : Rat} (h : RatR w a q) (hd : q.den ≠ 1) : IntR w ⟨a.t, a.B, a.m, a.d⟩ q.den := by
  obtain ⟨e, h1, h2, h3⟩ := h
  rcases h3 with h3 | ⟨_, h3⟩
  · rw [← h3]; exact h2
  · exact absurd h3 hd

set_option maxRecDepth 100000 in
set_option maxHeartbeats 2000000 in
theorem rat_number (w : World) (a : QV) (x : Rat) (ha : RatR w a x) (hn : a.n ≤ 1000000000) (hm : a.m ≤ 1000000000) (ht : Tab w) :
    Calls Tryz.prog 40 #[a.v] w (Ret w fun w' v => ∃ r, v = .string r ∧ QTxt r x) := by
  have HA := Hid.mk ha
  have HT := Hid.mk ht
  clear ha ht
  go_enter Tryz.func40, Tryz.ntmps40
  go_wp2_with fail
  obtain ⟨W, hW, hX, b0, hWs⟩ := setup1 w #[.bool a.s, .slice a.A a.n a.c, .bool a.t, .slice a.B a.m a.d] 71
  rw [hW]
  clear hW
  have HC := Hid.mk (fun w' (h : X W w') => (⟨(b0.x h).cell (j := 0) rfl, (b0.x h).cell (j := 1) rfl, (b0.x h).cell (j := 2) rfl, (b0.x h).cell (j := 3) rfl⟩ : w'.cell? ⟨w.heap.size, 0, none⟩ = some (.bool a.s) ∧ w'.cell? ⟨w.heap.size, 1, none⟩ = some (.slice a.A a.n a.c) ∧ w'.cell? ⟨w.heap.size, 2, none⟩ = some (.bool a.t) ∧ w'.cell? ⟨w.heap.size, 3, none⟩ = some (.slice a.B a.m a.d)))
  have HX := Hid.mk hX
  by_cases hd : x.den = 1
  · refine (rat_whole_at _ a x true (HA.out.x hX) (by simpa using hd)).mono ?_
    rintro e w1 ⟨⟨v, rfl, rfl⟩, hx1⟩
    have hS := HC.out w1 hx1
    have hX1 := HX.out.trans hx1
    replace HX := Hid.mk hX1
    clear b0
    go_wp2_with fail
    refine (int_text _ ⟨a.s, a.A, a.n, a.c⟩ x.num (HA.out.x hX1).num hn (HT.out.x hX1)).mono ?_
    rintro e w2 ⟨⟨v, rfl, r, rfl, hr, hrs⟩, hx2⟩
    have hX2 := Hid.mk (hX1.trans hx2)
    obtain ⟨n, xs, h1, h2, h3, h4⟩ : TxtL r.data.toList x.num := hr
    have HF : Hid (QTxt r x) := ⟨_, [49], ⟨n, xs, h1, h2, h3, h4⟩, by rw [hd]; exact txt_one, by rw [if_pos hd]⟩
    clear hx2 hx1 hX hX1 HC hS h1 h2 h3 h4
    go_wp2
    go_ret
    exact ⟨⟨_, rfl, r, rfl, HF.out⟩, hX2.out⟩
  · refine (rat_whole_at _ a x false (HA.out.x hX) (by simpa using hd)).mono ?_
    rintro e W1 ⟨⟨v, rfl, rfl⟩, hy1⟩
    have b1 := b0.x hy1
    have hY1 := HX.out.trans hy1
    have HC1 := Hid.mk (fun w' (h : X W1 w') => HC.out w' (hy1.trans h))
    clear b0 hX HC hy1
    go_wp2_with fail
    have hz0 : X W1 W1.drew := ⟨rfl, rfl, rfl, Nat.le_refl _, fun _ _ => rfl⟩
    have hS0 := HC1.out W1 (X.refl _)
    go_region_held3 (fun w' => w'.cell? ⟨w.heap.size, 0, none⟩ = some (.bool a.s) ∧ w'.cell? ⟨w.heap.size, 1, none⟩ = some (.slice a.A a.n a.c) ∧ w'.cell? ⟨w.heap.size, 2, none⟩ = some (.bool a.t) ∧ w'.cell? ⟨w.heap.size, 3, none⟩ = some (.slice a.B a.m a.d))
      (go_keep)
      (first
        | (have hguard := hz1; go_at_call 81; refine (int_text _ ⟨a.t, a.B, a.m, a.d⟩ x.den (by exact (HA.out.x (hY1.trans hz1)).den_iv hd) hm (by exact HT.out.x (hY1.trans hz1))).mono ?_; rintro e w2 ⟨⟨v2, rfl, q2, rfl, hq2, hs2⟩, hx2⟩; have hz2 : X W1 w2 := hz1.trans hx2; have hS2 := HC1.out w2 hz2; have e3 : ¬ 9223372036854775807 < q1.size + 1 + q2.size := by omega)
        | (have hguard := hz0; go_at_call 81; refine (int_text _ ⟨a.s, a.A, a.n, a.c⟩ x.num (by exact (HA.out.x (hY1.trans hz0)).num) hn (by exact HT.out.x (hY1.trans hz0))).mono ?_; rintro e w1 ⟨⟨v1, rfl, q1, rfl, hq1, hs1⟩, hx1⟩; have hz1 : X W1 w1 := hz0.trans hx1; have hS1 := HC1.out w1 hz1; have e1 : (⟨#[47]⟩ : ByteArray).size = 1 := rfl; have e2 : ¬ 9223372036854775807 < q1.size + 1 := by omega))
    have hF : QTxt (q1 ++ ⟨#[47]⟩ ++ q2) x := ⟨q1.data.toList, q2.data.toList, hq1, hq2, by rw [if_neg hd]; simp⟩
    have HF := Hid.mk hF
    have HX2 := Hid.mk (hY1.trans hz2)
    clear hF hq1 hq2 hz0 hz1 hz2 hx1 hx2 HC1 b1 hY1 hS0 hS1 hS2
    go_wp2
    go_ret
    exact ⟨⟨_, rfl, _, rfl, HF.out⟩, HX2.out⟩
end Go.Proofs.YtogakaiibijjpaaGreatDoor

/- The law's words: equal, is: rows and tables of the same numbers. -/
set_option linter.unusedVariables false
set_option linter.unusedSimpArgs false
namespace Go.Proofs.YtogakaiibijjpaaGreatDoor
open Go.RowKit
open DDig DLin

theorem RatR.sizes {w : World} {a : QV} {x : Rat} (h : RatR w a x) {k : Nat} (hx : RSz x k) : a.n ≤ k ∧ a.m ≤ k := by
  refine ⟨by have := h.num.size (k := k) hx.1; simpa using this, ?_⟩
  obtain ⟨e, -, h2, h3⟩ := h
  have he : (e.natAbs : Int) < pw B32 k := by
    rcases h3 with h3 | ⟨h3, -⟩
    · rw [h3]; simpa using hx.2
    · rw [h3]
      have := hx.2
      have : (0 : Int) ≤ x.den := by omega
      simp; omega
  have := h2.size he
  simpa using this

set_option maxRecDepth 100000 in
set_option maxHeartbeats 4000000 in
theorem law_equal (w : World) (u v : Value) (n : Nat) (f : Nat → Rat) (hu : SlQ w u n f) (hv : SlF w v n f) (hn : n ≤ 1000000) (k : Nat) (hs : ∀ j, j < n → RSz (f j) k) (hk : k ≤ 10000000000 / 10) (hg : Gl w) :
    Calls Tryz.prog 35 #[u, v] w (Ret w fun _ r => r = .bool true) := by
  obtain ⟨A, c, rfl, h1, h2, h3⟩ := hu
  obtain ⟨B, d, rfl, h1', h2', h3'⟩ := hv
  have HA := Hid.mk h3
  have HB := Hid.mk h3'
  have HS := Hid.mk hs
  have HG := Hid.mk hg
  have hnb : ((n : Int) != (n : Int)) = false := by simp
  clear h1 h2 h3 h1' h2' h3' hs hg
  go_enter Tryz.func35, Tryz.ntmps35
  go_wp2_with fail
  go_loopw [5] (fun t5 wr => ∃ i : Nat, i ≤ n ∧ t5 = .int .i64 i ∧ X w wr) (fun t _ => n - (intOf t).toNat)
  case atStart => exact ⟨0, Nat.zero_le _, rfl, X.refl _⟩
  case round =>
    obtain ⟨i, hi, rfl, hx⟩ := hrel
    have HX := Hid.mk hx
    clear hx
    by_cases hin : i < n
    · have hin' : (i : Int) < (n : Int) := by omega
      obtain ⟨b0, o0, rfl, g0⟩ := (HA.out.x HX.out) (by omega)
      obtain ⟨a, c0, c1, c2, c3, ha⟩ := g0 i hin
      obtain ⟨b1, o1, rfl, g1⟩ := (HB.out.x HX.out) (by omega)
      obtain ⟨q, d0, d1, hq⟩ := g1 i hin
      have HRA := Hid.mk ha
      have HRB := Hid.mk hq
      have hsz := HS.out i hin
      have hs1 := (ha.sizes hsz).1
      have hs2 := (ha.sizes hsz).2
      have hs3 := (hq.sizes hsz).1
      have hs4 := (hq.sizes hsz).2
      obtain ⟨x, hxx⟩ : ∃ x, x = f i := ⟨_, rfl⟩
      rw [← hxx] at HRA HRB
      have HC := Hid.mk (fun w' (h : X wr w') => (⟨h.cell c0, h.cell c1, h.cell c2, h.cell c3, h.cell d0, h.cell d1⟩ : w'.cell? ⟨b0, o0 + i * 4, none⟩ = some (.bool a.s) ∧ w'.cell? ⟨b0, o0 + i * 4 + 1, none⟩ = some (.slice a.A a.n a.c) ∧ w'.cell? ⟨b0, o0 + i * 4 + 2, none⟩ = some (.bool a.t) ∧ w'.cell? ⟨b0, o0 + i * 4 + 3, none⟩ = some (.slice a.B a.m a.d) ∧ w'.cell? ⟨b1, o1 + i * 2, none⟩ = some (.string q.p) ∧ w'.cell? ⟨b1, o1 + i * 2 + 1, none⟩ = some (.string q.q)))
      clear ha hq g0 g1 hxx c0 c1 c2 c3 d0 d1 hsz
      go_wp2_with fail
      have hz0 : X wr wr.drew := ⟨rfl, rfl, rfl, Nat.le_refl _, fun _ _ => rfl⟩
      have hS0 := HC.out wr (X.refl _)
      go_region_held3 (fun w' => w'.cell? ⟨b0, o0 + i * 4, none⟩ = some (.bool a.s) ∧ w'.cell? ⟨b0, o0 + i * 4 + 1, none⟩ = some (.slice a.A a.n a.c) ∧ w'.cell? ⟨b0, o0 + i * 4 + 2, none⟩ = some (.bool a.t) ∧ w'.cell? ⟨b0, o0 + i * 4 + 3, none⟩ = some (.slice a.B a.m a.d) ∧ w'.cell? ⟨b1, o1 + i * 2, none⟩ = some (.string q.p) ∧ w'.cell? ⟨b1, o1 + i * 2 + 1, none⟩ = some (.string q.q))
        (go_keep)
        (first
          | (have hguard := hz1; go_at_call 41; refine (ref_ftext _ q x HRB.out (by omega)).mono ?_; rintro e w2 ⟨⟨v2, rfl, s2, rfl, hq2⟩, hx2⟩; have hz2 : X wr w2 := hz1.trans hx2; have hS2 := HC.out w2 hz2; have hss := QTxt.same hq1 hq2; subst hss)
          | (have hguard := hz0; go_at_call 40; refine (rat_number _ a x (HRA.out.x hz0) (by omega) (by omega) (HG.out.x (HX.out.trans hz0)).1).mono ?_; rintro e w1 ⟨⟨v1, rfl, s1, rfl, hq1⟩, hx1⟩; have hz1 : X wr w1 := hz0.trans hx1; have hS1 := HC.out w1 hz1))
      have HX2 := Hid.mk (HX.out.trans hz2)
      clear hz0 hz1 hz2 hx1 hx2 hS0 hS1 hS2 HC hq1 hq2
      go_wp2
      go_roundw
      case rel => exact ⟨i + 1, by omega, by go_num, HX2.out⟩
      case measure => simp [intOf]; omega
    · have hin' : ¬ (i : Int) < (n : Int) := by omega
      go_wp2
      go_ret
      exact ⟨⟨_, rfl, rfl⟩, HX.out⟩

set_option maxRecDepth 100000 in
set_option maxHeartbeats 4000000 in
theorem law_is (w : World) (u v : Value) (m n : Nat) (M : Nat → Nat → Rat) (hu : MatQ w u m n M) (hv : MatF w v m n M) (hm : m ≤ 1000000) (hn : n ≤ 1000000) (k : Nat) (hs : TSz M m n k) (hk : k ≤ 10000000000 / 10) (hg : Gl w) :
    Calls Tryz.prog 18 #[u, v] w (Ret w fun _ r => r = .bool true) := by
  obtain ⟨A, c, rfl, h1, h2, h3⟩ := hu
  obtain ⟨B, d, rfl, h1', h2', h3'⟩ := hv
  have HA := Hid.mk h3
  have HB := Hid.mk h3'
  have HS := Hid.mk hs
  have HG := Hid.mk hg
  have hnb : ((m : Int) != (m : Int)) = false := by simp
  clear h1 h2 h3 h1' h2' h3' hs hg
  go_enter Tryz.func18, Tryz.ntmps18
  go_wp2_with fail
  go_loopw [5] (fun t5 wr => ∃ i : Nat, i ≤ m ∧ t5 = .int .i64 i ∧ X w wr) (fun t _ => m - (intOf t).toNat)
  case atStart => exact ⟨0, Nat.zero_le _, rfl, X.refl _⟩
  case round =>
    obtain ⟨i, hi, rfl, hx⟩ := hrel
    have HX := Hid.mk hx
    clear hx
    by_cases hin : i < m
    · have hin' : (i : Int) < (m : Int) := by omega
      obtain ⟨b0, o0, rfl, g0⟩ := HA.out (by omega)
      obtain ⟨u0, c0, ha⟩ := g0 i hin
      obtain ⟨b1, o1, rfl, g1⟩ := HB.out (by omega)
      obtain ⟨u1, d0, hq⟩ := g1 i hin
      obtain ⟨A1, e1, rfl, -, -, -⟩ := id ha
      obtain ⟨B1, e2, rfl, -, -, -⟩ := id hq
      have HRA := Hid.mk (ha.x HX.out)
      have HRB := Hid.mk (hq.x HX.out)
      have HC := Hid.mk (fun w' (h : X wr w') => (⟨(HX.out.trans h).cell c0, (HX.out.trans h).cell d0⟩ : w'.cell? ⟨b0, o0 + i, none⟩ = some (.slice A1 n e1) ∧ w'.cell? ⟨b1, o1 + i, none⟩ = some (.slice B1 n e2)))
      have hsz := HS.out i hin
      clear ha hq g0 g1 c0 d0
      go_wp2_with fail
      have hz0 : X wr wr.drew := ⟨rfl, rfl, rfl, Nat.le_refl _, fun _ _ => rfl⟩
      have hS0 := HC.out wr (X.refl _)
      go_region_held3 (fun w' => w'.cell? ⟨b0, o0 + i, none⟩ = some (.slice A1 n e1) ∧ w'.cell? ⟨b1, o1 + i, none⟩ = some (.slice B1 n e2))
        (go_keep)
        (first
          | (have hguard := hz0; go_at_call 35; refine (law_equal _ _ _ n (M i) (by exact HRA.out.x hz0) (by exact HRB.out.x hz0) hn k hsz hk (by exact HG.out.x (HX.out.trans hz0))).mono ?_; rintro e w1 ⟨⟨v1, rfl, rfl⟩, hx1⟩; have hz1 : X wr w1 := hz0.trans hx1; have hS1 := HC.out w1 hz1))
      have HX2 := Hid.mk (HX.out.trans hz1)
      clear hz0 hz1 hx1 hS0 hS1 HC
      go_wp2
      go_roundw
      case rel => exact ⟨i + 1, by omega, by go_num, HX2.out⟩
      case measure => simp [intOf]; omega
    · have hin' : ¬ (i : Int) < (m : Int) := by omega
      go_wp2
      go_ret
      exact ⟨⟨_, rfl, rfl⟩, HX.out⟩
end Go.Proofs.YtogakaiibijjpaaGreatDoor

/- The law's words: line, rows. -/
set_option linter.unusedVariables false
set_option linter.unusedSimpArgs false
namespace Go.Proofs.YtogakaiibijjpaaGreatDoor
open Go.RowKit
open DDig

/-- Entries that are read: two numbers each. -/
def EntR (w : World) (A : Option Addr) (n : Nat) (N D : Nat → Int) : Prop :=
  (∀ j, j < n → -128 ≤ N j ∧ N j ≤ 127 ∧ 0 ≤ D j ∧ D j ≤ 255) ∧ (0 < n → ∃ b o, A = some ⟨b, o, none⟩ ∧ ∀ j, j < n → w.cell? ⟨b, o + j * 2, none⟩ = some (.int .i8 (N j)) ∧ w.cell? ⟨b, o + j * 2 + 1, none⟩ = some (.int .u8 (D j)))
theorem EntR.x {w w' : World} {A : Option Addr} {n : Nat} {N D : Nat → Int} (h : EntR w A n N D) (hx : X w w') : EntR w' A n N D :=
  ⟨h.1, fun h0 => by obtain ⟨b, o, e, g⟩ := h.2 h0; exact ⟨b, o, e, fun j hj => ⟨hx.cell (g j hj).1, hx.cell (g j hj).2⟩⟩⟩
/-- The numbers of a row of entries. -/
def entv (n : Nat) (N D : Nat → Int) (k : Nat) : Rat := if k < n then Rat.divInt (N k) (1 + D k % 6) else 0
theorem entv_size (w : World) {A : Option Addr} {n : Nat} {N D : Nat → Int} (h : EntR w A n N D) (k : Nat) : RSz (entv n N D k) 1 := by
  have e : pw B32 1 = 4294967296 := by decide
  unfold entv
  split
  · rename_i hk
    obtain ⟨h1, h2, h3, h4⟩ := h.1 k hk
    have hp : 0 < 1 + D k % 6 := by omega
    obtain ⟨p1, p2⟩ := divInt_parts (x := N k) hp
    have hg : 0 < (Int.gcd (N k) (1 + D k % 6) : Int) := by
      have : 0 < Int.gcd (N k) (1 + D k % 6) := Int.gcd_pos_of_ne_zero_right _ (by omega)
      omega
    constructor
    · rw [p1, e]
      have := Int.natAbs_ediv_le_natAbs (N k) (Int.gcd (N k) (1 + D k % 6) : Int)
      omega
    · rw [p2, e]
      have h5 := Int.natAbs_ediv_le_natAbs (1 + D k % 6) (Int.gcd (N k) (1 + D k % 6) : Int)
      have h6 : 0 ≤ (1 + D k % 6) / (Int.gcd (N k) (1 + D k % 6) : Int) := Int.ediv_nonneg (by omega) (by omega)
      omega
  · exact RSz.zero (by omega)

theorem fzero_divInt : Rat.divInt 0 1 = 0 := by decide +kernel
theorem fvc_one (a : FV) : ∀ u ∈ (#[Value.string a.p, .string a.q] : Array Value).toList, u.oneCell' = true := by
  intro u hu
  simp at hu
  rcases hu with rfl | rfl <;> rfl

set_option maxRecDepth 100000 in
set_option maxHeartbeats 4000000 in
theorem law_line (w : World) (A : Option Addr) (l c n : Nat) (N D : Nat → Int) (h : EntR w A l N D) (hn : n ≤ 1000000) (hl : l ≤ 9223372036854775807) :
    Calls Tryz.prog 25 #[.slice A l c, .int .i64 n] w (Ret w fun w' v' => SlF w' v' n (entv l N D)) := by
  have HA := Hid.mk h
  clear h
  go_enter Tryz.func25, Tryz.ntmps25
  go_wp2_with fail
  go_loopw [5, 6] (fun t5 t6 wr => ∃ (k : Nat) (fs : List FV), k ≤ n ∧ t6 = .int .i64 k ∧ wr.ownsRow w.heap.size 84 2 t5 k (fcs fs) ∧ fs.length = k ∧ (∀ j a, fs[j]? = some a → FR a (entv l N D j)) ∧ X w wr) (fun _ t _ => n - (intOf t).toNat)
  case atStart => exact ⟨0, [], Nat.zero_le _, rfl, World.ownsRow_nil _ _ _ _, rfl, by simp, X.refl _⟩
  case round =>
    obtain ⟨k, fs, hk, rfl, ho, hlf, hq, hx⟩ := hrel
    have HO := Hid.mk ho
    have HQ := Hid.mk hq
    have HX := Hid.mk hx
    clear ho hq hx
    by_cases hkn : k < n
    · have hkn' : (k : Int) < (n : Int) := by omega
      have hkb : (k + 1) * 32 ≤ 140737488355328 := by omega
      go_wp2_with fail
      refine (ref_of _ 0 1 (by omega) (by omega) (by omega) (by omega)).mono ?_
      rintro e w1 ⟨⟨v1, rfl, z, rfl, hz⟩, hx1⟩
      rw [fzero_divInt] at hz
      replace HX := Hid.mk (HX.out.trans hx1)
      replace HO := Hid.mk (own_x HO.out hx1)
      clear hx1
      go_upto_region 6 with (fail)
      obtain ⟨W2, hW2, hX2, b2, hWs2⟩ := setup1 w1 #[.string z.p, .string z.q] 84
      rw [hW2]
      clear hW2
      obtain ⟨gx, hgx⟩ : ∃ gx, gx = w1.heap.size := ⟨_, rfl⟩
      rw [← hgx] at b2
      simp only [← hgx]
      have hgw : w.heap.size ≤ gx := by have := HX.out.size; omega
      have HOX : Hid (∀ w', X w1 w' → w'.ownsRow w.heap.size 84 2 u5 k (fcs fs)) := fun w' h => own_x HO.out h
      have HXX : Hid (∀ w', X w1 w' → X w w') := fun w' h => HX.out.trans h
      have HG := Hid.mk hgx
      have HX12 := Hid.mk hX2
      have B2 := Hid.mk b2
      have HZ := Hid.mk hz
      clear hX2 b2 hgx HO HX hWs2 hz
      go_upto_if 17 with (fail)
      go_cut [] (fun wc => ∃ f : FV, Blk wc gx 84 (fvc f) ∧ FR f (entv l N D k) ∧ X w1 wc)
      case first =>
        by_cases hkl : k < l
        · have hkl' : (k : Int) < (l : Int) := by omega
          obtain ⟨h1, h2, h3, h4⟩ := HA.out.1 k hkl
          have hXW := (HXX.out _ HX12.out)
          obtain ⟨b, o, rfl, gg⟩ := (HA.out.x hXW).2 (by omega)
          obtain ⟨c0, c1⟩ := gg k hkl
          have HEV : Hid (entv l N D k = Rat.divInt (N k) (1 + D k % 6)) := by show entv l N D k = _; unfold entv; rw [if_pos hkl]
          obtain ⟨x, hx⟩ : ∃ x, x = N k := ⟨_, rfl⟩
          obtain ⟨y, hy⟩ : ∃ y, y = D k := ⟨_, rfl⟩
          rw [← hx, ← hy] at HEV
          rw [← hx] at c0 h1 h2
          rw [← hy] at c1 h3 h4
          have hm0 : 0 ≤ y % 6 ∧ y % 6 ≤ 5 := by omega
          have hb2 := B2.out
          have hk0 : (0 : Int) ≤ (k : Int) := by omega
          have hw1 : IntKind.i64.wrap (1 + y % 6) = 1 + y % 6 := by rw [IntKind.wrap_i64]; omega
          have hw2 : IntKind.i64.wrap (y % 6) = y % 6 := by rw [IntKind.wrap_i64]; omega
          have hw3 : IntKind.i64.wrap x = x := by rw [IntKind.wrap_i64]; omega
          have ht1 : y.tmod 6 = y % 6 := Int.tmod_eq_emod_of_nonneg (by omega)
          have hne : ¬ gx = b := by
            obtain ⟨b', o', e', g'⟩ := HA.out.2 (by omega)
            injection e' with e'; injection e' with e1 e2
            subst e1
            have : b < w.heap.size := World.block_lt_of_cell? _ _ (g' k hkl).1
            omega
          have HC := Hid.mk (fun w' (h : X W2 w') => (⟨h.cell c0, h.cell c1⟩ : w'.cell? ⟨b, o + k * 2, none⟩ = some (.int .i8 x) ∧ w'.cell? ⟨b, o + k * 2 + 1, none⟩ = some (.int .u8 y)))
          clear gg hx hy hXW c0 c1
          go_wp2_with fail
          have hz0 : X W2 W2.drew := ⟨rfl, rfl, rfl, Nat.le_refl _, fun _ _ => rfl⟩
          have hS0 := HC.out W2 (X.refl _)
          go_region_held3 (fun w' => w'.cell? ⟨b, o + k * 2, none⟩ = some (.int .i8 x) ∧ w'.cell? ⟨b, o + k * 2 + 1, none⟩ = some (.int .u8 y))
            (go_keep)
            (first
              | (have hguard := hz0; go_at_call 64; refine (ref_of _ x (1 + y % 6) (by omega) (by omega) (by omega) (by omega)).mono ?_; rintro e w1 ⟨⟨v1, rfl, f3, rfl, hq3⟩, hx1⟩; have hz1 : X W2 w1 := hz0.trans hx1; have hS1 := HC.out w1 hz1; have hb3 := hb2.x hz1; have k0 := hb3.cell (j := 0) rfl; have k1 := hb3.cell (j := 1) rfl; have f0 := hb3.frozen 0; have f1 := hb3.frozen 1))
          have hB := Hid.mk ((hb3.set 0 (.string f3.p)).set 1 (.string f3.q))
          have hF : Hid (FR f3 (entv l N D k)) := by (show FR f3 (entv l N D k); rw [HEV.out]; exact hq3)
          have hXX := Hid.mk ((((HX12.out.trans hz1).set (p := ⟨gx, 0, none⟩) (by rw [HG.out]; exact Nat.le_refl _) (.string f3.p)).set (p := ⟨gx, 1, none⟩) (by rw [HG.out]; exact Nat.le_refl _) (.string f3.q)))
          clear hb3 k0 k1 f0 f1 hx1 hq3 hz1 hz0 hb2 hS0 hS1 HC
          go_wp2_with fail
          go_meet
          exact ⟨f3, hB.out, hF.out, hXX.out⟩
        · have hkl' : ¬ (k : Int) < (l : Int) := by omega
          have HEV : Hid (entv l N D k = 0) := by show entv l N D k = _; unfold entv; rw [if_neg hkl]
          go_wp2_with fail
          go_meet
          exact ⟨z, B2.out, by rw [HEV.out]; exact HZ.out, HX12.out⟩
      case rest =>
        obtain ⟨f, hb, hf, hx⟩ := hcut
        have HF := Hid.mk hf
        have HO3 := Hid.mk (HOX.out _ hx)
        have HX3 := Hid.mk (HXX.out _ hx)
        have c0 := hb.cell (j := 0) rfl; have c1 := hb.cell (j := 1) rfl
        clear hb hf hx
        go_wp2_with (at_builtin; refine append_lit w _ rfl _ _ 51 rfl 84 (.agg #[.string ⟨#[]⟩, .string ⟨#[]⟩]) 2 32 Tryz.underlying51 info_F rfl (by omega) _ _ _ rfl HO3.out _ _ _ rfl rfl (fvc_one f) (by omega) (by omega) HX3.out ?_; intro v2 w2 ho2 hx2; have HO4 := Hid.mk ho2; have HX4 := Hid.mk hx2; clear ho2 hx2)
        go_roundw
        case rel =>
          refine ⟨k + 1, fs ++ [f], by omega, by go_num, by rw [fcs_snoc]; exact HO4.out, by simp [hlf], fun j a hj => ?_, HX4.out⟩
          by_cases e : j = k
          · subst e
            rw [List.getElem?_append_right (by omega), hlf] at hj
            simp at hj
            subst hj
            exact HF.out
          · have hil : j < fs.length := by
              have := (List.getElem?_eq_some_iff.1 hj).1
              simp at this
              omega
            rw [List.getElem?_append_left hil] at hj
            exact HQ.out j a hj
        case measure => simp [intOf]; omega
    · obtain rfl : k = n := by omega
      have HF := Hid.mk (SlF.own HO.out hlf HQ.out)
      have hkn' : ¬ (k : Int) < (k : Int) := by omega
      clear hkn hk
      go_wp2_with fail
      go_ret
      exact ⟨⟨_, rfl, HF.out⟩, HX.out⟩
end Go.Proofs.YtogakaiibijjpaaGreatDoor

/- The law's words: rows of a table. -/
set_option linter.unusedVariables false
set_option linter.unusedSimpArgs false
namespace Go.Proofs.YtogakaiibijjpaaGreatDoor
open Go.RowKit
open DDig

/-- Rows of entries that are read. -/
def RowsR (w : World) (A : Option Addr) (n : Nat) (L : Nat → Nat) (N D : Nat → Nat → Int) : Prop :=
  0 < n → ∃ b o, A = some ⟨b, o, none⟩ ∧ ∀ i, i < n → ∃ B d, w.cell? ⟨b, o + i, none⟩ = some (.slice B (L i) d) ∧ EntR w B (L i) (N i) (D i) ∧ L i ≤ 9223372036854775807
theorem RowsR.x {w w' : World} {A : Option Addr} {n : Nat} {L : Nat → Nat} {N D : Nat → Nat → Int} (h : RowsR w A n L N D) (hx : X w w') : RowsR w' A n L N D := fun h0 => by
  obtain ⟨b, o, e, g⟩ := h h0
  refine ⟨b, o, e, fun i hi => ?_⟩
  obtain ⟨B, d, c0, h1, h2⟩ := g i hi
  exact ⟨B, d, hx.cell c0, h1.x hx, h2⟩
/-- The numbers of a table. -/
def tabv (L : Nat → Nat) (N D : Nat → Nat → Int) (i : Nat) : Nat → Rat := entv (L i) (N i) (D i)

set_option maxRecDepth 100000 in
set_option maxHeartbeats 2000000 in
theorem law_rows (w : World) (C : Int) (A : Option Addr) (n c : Nat) (L : Nat → Nat) (N D : Nat → Nat → Int) (h : RowsR w A n L N D) (hC : 0 ≤ C ∧ C ≤ 255) (hn : n ≤ 9223372036854775807) :
    Calls Tryz.prog 13 #[.agg #[.int .u8 C, .slice A n c]] w (Ret w fun w' v' => MatF w' v' (min n 5) (C % 7).toNat (tabv L N D)) := by
  have HA := Hid.mk h
  clear h
  go_enter Tryz.func13, Tryz.ntmps13
  go_upto_region 1 with (fail)
  obtain ⟨W, hW, hX, b0, hWs⟩ := setup1 w #[.int .u8 C, .slice A n c] 24
  rw [hW]
  clear hW
  have B0 := Hid.mk b0
  have HXW := Hid.mk hX
  clear b0 hX
  go_wp2_with fail
  go_loopw [3, 4] (fun t3 t4 wr => ∃ (i : Nat) (us : List Value), i ≤ min n 5 ∧ t4 = .int .i64 i ∧ OwnC IsSl wr W.heap.size 51 1 t3 i us ∧ us.length = i ∧ (∀ j u, us[j]? = some u → SlF wr u (C % 7).toNat (tabv L N D j)) ∧ X W wr) (fun _ t _ => 5 - (intOf t).toNat)
  case atStart => exact ⟨0, [], Nat.zero_le _, rfl, OwnC.nil _ _ _ _ _, rfl, by simp, X.refl _⟩
  case round =>
    obtain ⟨i, us, hi, rfl, ho, hl, hq, hx⟩ := hrel
    have HO := Hid.mk ho
    have HQ := Hid.mk hq
    have HX := Hid.mk hx
    have hb0 := B0.out.x hx
    have c0 := hb0.cell (j := 0) rfl; have c1 := hb0.cell (j := 1) rfl
    clear ho hq hx
    have hin0 : (0 : Int) ≤ (i : Int) := by omega
    by_cases hin : i < n ∧ i < 5
    · obtain ⟨h1, h2⟩ := hin
      have h1' : (i : Int) < (n : Int) := by omega
      have h2' : (i : Int) < 5 := by omega
      obtain ⟨b, o, rfl, gg⟩ := (HA.out.x HXW.out) (by omega)
      obtain ⟨B, d, e0, he, hL⟩ := gg i h1
      have HE := Hid.mk (he.x HX.out)
      have hbW := B0.out
      have q0 := hbW.cell (j := 0) rfl; have q1 := hbW.cell (j := 1) rfl
      have hm1 : C.tmod 7 = C % 7 := Int.tmod_eq_emod_of_nonneg hC.1
      have hm2 : 0 ≤ C % 7 ∧ C % 7 ≤ 6 := by omega
      have hw2 : IntKind.i64.wrap (C % 7) = C % 7 := by rw [IntKind.wrap_i64]; omega
      obtain ⟨cN, hcN⟩ : ∃ cN : Nat, (cN : Int) = C % 7 := ⟨(C % 7).toNat, by omega⟩
      have hcT : (C % 7).toNat = cN := by omega
      rw [hcT] at HQ
      have HC := Hid.mk (fun w' (h : X W w') => (⟨h.cell q0, h.cell q1, h.cell e0⟩ : w'.cell? ⟨w.heap.size, 0, none⟩ = some (.int .u8 C) ∧ w'.cell? ⟨w.heap.size, 1, none⟩ = some (.slice (some ⟨b, o, none⟩) n c) ∧ w'.cell? ⟨b, o + i, none⟩ = some (.slice B (L i) d)))
      have hib : (i + 1) * 24 ≤ 140737488355328 := by omega
      have hCE : Hid (C % 7 = (cN : Int)) := hcN.symm
      clear gg he hb0 hbW q0 q1 e0
      go_wp2_with fail
      have hz0 : X wr wr.drew := ⟨rfl, rfl, rfl, Nat.le_refl _, fun _ _ => rfl⟩
      have hS0 := HC.out wr HX.out
      go_region_held3 (fun w' => w'.cell? ⟨w.heap.size, 0, none⟩ = some (.int .u8 C) ∧ w'.cell? ⟨w.heap.size, 1, none⟩ = some (.slice (some ⟨b, o, none⟩) n c) ∧ w'.cell? ⟨b, o + i, none⟩ = some (.slice B (L i) d))
        (go_keep)
        (first
          | (refine step_append_oneC IsSl W _ rfl (.tmp 16) (.tmp 27) 26 rfl 51 (.slice none 0 0) 1 24 Tryz.underlying26 info_sF rfl (by omega) (fun u hu => ⟨none, 0, 0, by simpa [Value.cells] using hu⟩) _ _ _ rfl hO1 _ _ _ rfl rfl (by simp [Value.oneCell']) (fun u hu => ⟨A5, cN, d5, by simpa using hu⟩) (by omega) (by omega) (HX.out.trans hz1) ?_; intro v2 w2 ho2 hx2 hk2; have hS2 := HC.out w2 hx2; have HO2 := Hid.mk ho2; have HX2 := Hid.mk hx2; have HU2 := Hid.mk (fun j u hj => ((HQ.out j u hj).x hz1).kApp hO1 hk2); have HR2 := Hid.mk (hv1.kApp hO1 hk2); clear ho2 hx2 hk2)
          | (have hguard := hz0; go_at_call 25; rw [hCE.out]; refine (law_line _ B (L i) d cN (N i) (D i) (HE.out.x hz0) (by omega) hL).mono ?_; rintro e w1 ⟨⟨v1, rfl, hv1⟩, hx1⟩; have hz1 := hz0.trans hx1; have hS1 := HC.out w1 (HX.out.trans hz1); obtain ⟨A5, d5, rfl, p1, p2, p3⟩ := id hv1; have hO1 := HO.out.x hz1))
      clear hz1 hx1 hO1 hv1 p1 p2 p3 hS0 hS1 hS2 hz0 HC
      go_wp2_with fail
      go_roundw
      case rel =>
        refine ⟨i + 1, us ++ [.slice A5 cN d5], by omega, by go_num, HO2.out, by simp [hl], fun j u hj => ?_, HX2.out⟩
        rw [hcT]
        by_cases e : j = i
        · subst e
          rw [List.getElem?_append_right (by omega), hl] at hj
          simp at hj
          subst hj
          exact HR2.out
        · have hil : j < us.length := by
            have := (List.getElem?_eq_some_iff.1 hj).1
            simp at this
            omega
          rw [List.getElem?_append_left hil] at hj
          exact HU2.out j u hj
      case measure => simp [intOf]; omega
    · have hmin : i = min n 5 := by omega
      have HF : Hid (MatF wr u3 (min n 5) (C % 7).toNat (tabv L N D)) := by
        rw [← hmin]
        exact SlM.own (S := SlF) HO.out.1 hl HQ.out
      have HXF := Hid.mk (HXW.out.trans HX.out)
      clear hb0
      by_cases h1 : i < n
      · have h1' : (i : Int) < (n : Int) := by omega
        have h2' : ¬ (i : Int) < 5 := by omega
        clear hin h1 hmin hi hl
        go_wp2_with fail
        go_ret
        exact ⟨⟨_, rfl, HF.out⟩, HXF.out⟩
      · have h1' : ¬ (i : Int) < (n : Int) := by omega
        clear hin h1 hmin hi hl
        go_wp2_with fail
        go_ret
        exact ⟨⟨_, rfl, HF.out⟩, HXF.out⟩
end Go.Proofs.YtogakaiibijjpaaGreatDoor

/- The arguments of the laws of layer 5, as the walks want them; the variables that the laws read. -/
set_option linter.unusedVariables false
set_option linter.unusedSimpArgs false
namespace Go.Proofs.YtogakaiibijjpaaGreatDoor
open Go.ChangeShapes Go.WideShapes Go.ChangeAt Go.RowKit Go.Deep Go.Joins

theorem own : ownKnob Tryz.prog.godebug = none := by kernel_rfl
theorem laidOut : laidOutB Tryz.prog = true := by kernel_rfl
theorem gPow : Tryz.prog.globalNamed "internal/strconv.uint64pow10" = some 1 := by kernel_rfl
theorem cellsEntry : Tryz.prog.cellsOf 114 = 2 := by kernel_rfl
theorem cellsEntries : Tryz.prog.cellsOf 45 = 1 := by kernel_rfl
theorem cellsTable : Tryz.prog.cellsOf 24 = 2 := by kernel_rfl

section
variable {H : Type} {enc : TypeId × Value → H} {W : World}

theorem max_shape (h : W.ShapedOpen Tryz.prog) : ∃ m : Int, W.cell? ⟨0, 0, none⟩ = some (.int .i64 m) :=
  cell_of_shapedOpen_int (zero := #[.int .i64 0]) (t := 3) h (of_decide_eq_true (by kernel_rfl)) (by kernel_rfl) rfl (by kernel_rfl) (by kernel_rfl) Tryz.underlying3

theorem plain_addr {a : Addr} {v : Value} (h : W.cell? (a.add 0) = some v) : ∃ b o, a = ⟨b, o, none⟩ := by
  obtain ⟨b, o, s⟩ := a
  have hs : s = none := by simpa [Addr.add] using World.cell?_spot h
  exact ⟨b, o, by rw [hs]⟩

theorem wf_i8 {n : Int} (h : (Lit.int .i8 n).wf = true) : -128 ≤ n ∧ n ≤ 127 := by simpa [Lit.wf, IntKind.min, IntKind.max, IntKind.signed, IntKind.bits] using h
theorem wf_u8 {n : Int} (h : (Lit.int .u8 n).wf = true) : 0 ≤ n ∧ n ≤ 255 := by simpa [Lit.wf, IntKind.min, IntKind.max, IntKind.signed, IntKind.bits] using h
theorem wf_i64 {n : Int} (h : (Lit.int .i64 n).wf = true) : -9223372036854775808 ≤ n ∧ n ≤ 9223372036854775807 := by simpa [Lit.wf, IntKind.min, IntKind.max, IntKind.signed, IntKind.bits] using h

/-- A list of entries. -/
theorem open_entries {fuel : Nat} {cs : List Value} {x : DataW H × List MemPlace} (h : DataW.trod enc Tryz.prog W 0 (fun _ => true) true fuel 45 cs = some x) :
    ∃ (A : Option Addr) (n c : Nat) (N D : Nat → Int), cs = [.slice A n c] ∧ n ≤ 9223372036854775807 ∧ EntR W A n N D := by
  rcases open_slice_pairs Tryz.underlying45 Tryz.underlying114 cellsEntry rfl rfl (by kernel_rfl) (by kernel_rfl) h with ⟨rfl, -⟩ | ⟨a, len, cap, m, n, V0, V1, D0, D1, P0, P1, rfl, -, h1, h2, h3, -, hf⟩
  · exact ⟨none, 0, 0, fun _ => 0, fun _ => 0, rfl, by omega, fun j hj => by omega, fun h => by omega⟩
  · simp only [if_true] at h3
    subst h3
    unfold maxLen at h2
    refine ⟨some a, len, m, fun j => intOf (V0 j), fun j => intOf (V1 j), rfl, by omega, fun j hj => ?_, fun h0 => ?_⟩
    · obtain ⟨-, -, g0, g1⟩ := hf j (by omega)
      obtain ⟨z0, e0, -, w0⟩ := DataW.trod_int Tryz.underlying112 g0
      obtain ⟨z1, e1, -, w1⟩ := DataW.trod_int Tryz.underlying5 g1
      injection e0 with e0
      injection e1 with e1
      show -128 ≤ intOf (V0 j) ∧ intOf (V0 j) ≤ 127 ∧ 0 ≤ intOf (V1 j) ∧ intOf (V1 j) ≤ 255
      rw [e0, e1]
      have q0 := wf_i8 w0
      have q1 := wf_u8 w1
      exact ⟨q0.1, q0.2, q1.1, q1.2⟩
    · obtain ⟨b, o, rfl⟩ := plain_addr (hf 0 (by omega)).1
      refine ⟨b, o, rfl, fun j hj => ?_⟩
      obtain ⟨c0, c1, g0, g1⟩ := hf j (by omega)
      obtain ⟨z0, e0, -, w0⟩ := DataW.trod_int Tryz.underlying112 g0
      obtain ⟨z1, e1, -, w1⟩ := DataW.trod_int Tryz.underlying5 g1
      injection e0 with e0
      injection e1 with e1
      rw [add_plain] at c0 c1
      show W.cell? _ = some (.int .i8 (intOf (V0 j))) ∧ W.cell? _ = some (.int .u8 (intOf (V1 j)))
      rw [e0] at c0 ⊢
      rw [e1] at c1 ⊢
      exact ⟨c0, c1⟩

set_option maxRecDepth 100000 in
/-- A table. -/
theorem open_table {r : Reach} {b0 : Nat} {v : Value} {d : DataW H} {p : List MemPlace} (hv : Value.okWide Tryz.prog W r b0 24 v) (h : DataW.Trod enc Tryz.prog W 0 (fun _ => true) true 24 v d p) :
    ∃ (C : Int) (A : Option Addr) (n c : Nat) (L : Nat → Nat) (N D : Nat → Nat → Int), v = .agg #[.int .u8 C, .slice A n c] ∧ (0 ≤ C ∧ C ≤ 255) ∧ n ≤ 9223372036854775807 ∧ RowsR W A n L N D := by
  obtain ⟨v0, v1, y0, y1, fuel, rfl, -, -, h0, h1⟩ := open_agg2 Tryz.underlying24 (by kernel_rfl) cellsTable hv h
  obtain ⟨C, e0, -, wC⟩ := DataW.trod_int Tryz.underlying5 h0
  injection e0 with e0
  subst e0
  rcases open_slice1 Tryz.underlying22 cellsEntries h1 with ⟨e1, -⟩ | ⟨a, len, cap, m, n, V, D0, Pl, e1, -, k1, k2, k3, -, hf⟩
  · injection e1 with e1
    subst e1
    exact ⟨C, none, 0, 0, fun _ => 0, fun _ _ => 0, fun _ _ => 0, rfl, wf_u8 wC, by omega, fun h => by omega⟩
  · injection e1 with e1
    subst e1
    simp only [if_true] at k3
    subst k3
    unfold maxLen at k2
    have hrow : ∀ i, ∃ x : Nat × (Nat → Int) × (Nat → Int), i < m → ∃ B d, V i = .slice B x.1 d ∧ EntR W B x.1 x.2.1 x.2.2 ∧ x.1 ≤ 9223372036854775807 := fun i => by
      by_cases hi : i < m
      · obtain ⟨A, n', c', N, D, e, hn, hE⟩ := open_entries (hf i hi).2
        injection e with e
        exact ⟨⟨n', N, D⟩, fun _ => ⟨A, c', e, hE, hn⟩⟩
      · exact ⟨⟨0, fun _ => 0, fun _ => 0⟩, fun h => absurd h hi⟩
    obtain ⟨F, hF⟩ := Classical.axiomOfChoice hrow
    refine ⟨C, some a, len, m, fun i => (F i).1, fun i => (F i).2.1, fun i => (F i).2.2, rfl, wf_u8 wC, by omega, fun h0 => ?_⟩
    obtain ⟨b, o, rfl⟩ := plain_addr (hf 0 (by omega)).1
    refine ⟨b, o, rfl, fun i hi => ?_⟩
    have c0 := (hf i (by omega)).1
    obtain ⟨B, d, e, hE, hn⟩ := hF i (by omega)
    rw [add_plain, e] at c0
    exact ⟨B, d, c0, hE, hn⟩
end
end Go.Proofs.YtogakaiibijjpaaGreatDoor

/- Further arguments of the laws of layer 5; the table of powers of ten. -/
set_option linter.unusedVariables false
set_option linter.unusedSimpArgs false
namespace Go.Proofs.YtogakaiibijjpaaGreatDoor
open Go.ChangeShapes Go.WideShapes Go.ChangeAt Go.RowKit Go.Deep Go.Joins

theorem pow_tab {W : World} (h : laidMetH Tryz.prog [("internal/strconv.uint64pow10", Rows.laid_internal_strconv_uint64pow10)] W) : Tab W :=
  Lib.tabIs_of_head (rest := []) gPow (by kernel_rfl) Tryz.underlying236 Tryz.underlying152 (by kernel_rfl) (by kernel_rfl) (by rw [MakeChecks.laidMetH_plain _ _ _ (by kernel_rfl)] at h; exact h)

section
variable {H : Type} {enc : TypeId × Value → H} {W : World}
set_option maxRecDepth 100000 in
theorem open_entry_arg {r : Reach} {b0 : Nat} {v : Value} {d : DataW H} {p : List MemPlace} (hv : Value.okWide Tryz.prog W r b0 45 v) (h : DataW.Trod enc Tryz.prog W 0 (fun _ => true) true 45 v d p) :
    ∃ (A : Option Addr) (n c : Nat) (N D : Nat → Int), v = .slice A n c ∧ n ≤ 9223372036854775807 ∧ EntR W A n N D := by
  obtain ⟨a0, l, c, rfl⟩ := okWide_slice Tryz.underlying45 hv
  obtain ⟨fuel, hf⟩ := h
  obtain ⟨A, n, c', N, D, e, hn, hE⟩ := open_entries hf
  have e2 : Value.slice a0 l c = .slice A n c' := by simpa [Value.cells] using e
  exact ⟨A, n, c', N, D, e2, hn, hE⟩
end
end Go.Proofs.YtogakaiibijjpaaGreatDoor

/- The law's words: numbers; tables of whole numbers. -/
set_option linter.unusedVariables false
set_option linter.unusedSimpArgs false
namespace Go.Proofs.YtogakaiibijjpaaGreatDoor
open Go.RowKit
open DDig

/-- A row of whole numbers. -/
def SlI (w : World) (v : Value) (n : Nat) (f : Nat → Rat) : Prop := ∃ A c, v = .slice A n c ∧ (0 < n → ∃ b o, A = some ⟨b, o, none⟩ ∧ ∀ j, j < n → ∃ z : Int, w.cell? ⟨b, o + j, none⟩ = some (.int .i64 z) ∧ -9223372036854775808 ≤ z ∧ z ≤ 9223372036854775807 ∧ f j = (z : Rat))
theorem SlI.x {w w' : World} {v : Value} {n : Nat} {f : Nat → Rat} (h : SlI w v n f) (hx : X w w') : SlI w' v n f := by
  obtain ⟨A, c, h1, h2⟩ := h
  refine ⟨A, c, h1, fun h0 => ?_⟩
  obtain ⟨b, o, e, g⟩ := h2 h0
  refine ⟨b, o, e, fun j hj => ?_⟩
  obtain ⟨z, hz, r⟩ := g j hj
  exact ⟨z, hx.cell hz, r⟩
abbrev MatI := SlM SlI
theorem MatI.x {w w' : World} {v : Value} {m c : Nat} {M : Nat → Nat → Rat} (h : MatI w v m c M) (hx : X w w') : MatI w' v m c M := SlM.x (S := SlI) (fun h x => h.x x) h hx

/-- A table as it is written out. -/
def tab (L : List (List Int)) (i j : Nat) : Rat := ((L.getD i []).getD j 0 : Int)
theorem SlI.lit {w : World} {g : Nat} {e : TypeId} {xs : List Int} {n : Nat} {f : Nat → Rat} (h : Blk w g e (nums .i64 xs)) (hn : xs.length = n) (hr : ∀ z ∈ xs, -9223372036854775808 ≤ z ∧ z ≤ 9223372036854775807) (hf : ∀ j, j < n → f j = ((xs.getD j 0 : Int) : Rat)) : SlI w (.slice (some ⟨g, 0, none⟩) n n) n f := by
  refine ⟨_, n, rfl, fun _ => ⟨g, 0, rfl, fun j hj => ⟨xs.getD j 0, ?_, ?_⟩⟩⟩
  · rw [Nat.zero_add]; exact h.int (by omega)
  · have hm : xs.getD j 0 ∈ xs := by
      rw [List.getD_eq_getElem?_getD, List.getElem?_eq_getElem (by omega)]
      exact List.getElem_mem _
    exact ⟨(hr _ hm).1, (hr _ hm).2, hf j hj⟩

set_option maxRecDepth 100000 in
set_option maxHeartbeats 4000000 in
theorem law_numbers (w : World) (v : Value) (m n : Nat) (M : Nat → Nat → Rat) (h : MatI w v m n M) (hm : m ≤ 1000000) (hn : n ≤ 1000000) :
    Calls Tryz.prog 50 #[v] w (Ret w fun w' v' => MatQ w' v' m n M) := by
  obtain ⟨A, c, rfl, h1, h2, h3⟩ := h
  have HA := Hid.mk h3
  clear h1 h2 h3
  go_enter Tryz.func50, Tryz.ntmps50
  go_wp2_with fail
  go_loopw [3, 4] (fun t3 t4 wr => ∃ (i : Nat) (us : List Value), i ≤ m ∧ t4 = .int .i64 i ∧ OwnC IsSl wr w.heap.size 49 1 t3 i us ∧ us.length = i ∧ (∀ j u, us[j]? = some u → SlQ wr u n (M j)) ∧ X w wr) (fun _ t _ => m - (intOf t).toNat)
  case atStart => exact ⟨0, [], Nat.zero_le _, rfl, OwnC.nil _ _ _ _ _, rfl, by simp, X.refl _⟩
  case round =>
    obtain ⟨i, us, hi, rfl, ho, hl, hq, hx⟩ := hrel
    have HO := Hid.mk ho
    have HQ := Hid.mk hq
    have HX := Hid.mk hx
    clear ho hq hx
    by_cases him : i < m
    · have him' : (i : Int) < (m : Int) := by omega
      obtain ⟨b, o, rfl, gg⟩ := HA.out (by omega)
      obtain ⟨u, c0, hu⟩ := gg i him
      obtain ⟨A1, d1, rfl, hrow⟩ := hu
      replace c0 := HX.out.cell c0
      have HROW := Hid.mk hrow
      have hib : (i + 1) * 24 ≤ 140737488355328 := by omega
      clear gg hrow
      obtain ⟨wo, rfl⟩ : ∃ wo : World, wo = wr := ⟨_, rfl⟩
      go_wp2_with fail
      go_loopw [5, 6] (fun t5 t6 wr => ∃ (j : Nat) (qs : List QV), j ≤ n ∧ t6 = .int .i64 j ∧ OwnC NI wr wo.heap.size 71 4 t5 j (qcs qs) ∧ qs.length = j ∧ (∀ t a, qs[t]? = some a → RatR wr a (M i t)) ∧ X wo wr) (fun _ t _ => n - (intOf t).toNat)
      case atStart => exact ⟨0, [], Nat.zero_le _, rfl, OwnC.nil _ _ _ _ _, rfl, by simp, X.refl _⟩
      case round =>
        obtain ⟨j, qs, hj, rfl, ho, hlq, hqq, hx⟩ := hrel
        have HO2 := Hid.mk ho
        have HQ2 := Hid.mk hqq
        have HX2 := Hid.mk hx
        replace c0 := hx.cell c0
        clear ho hqq hx
        by_cases hjn : j < n
        · have hjn' : (j : Int) < (n : Int) := by omega
          obtain ⟨b1, o1, rfl, g1⟩ := HROW.out (by omega)
          obtain ⟨z, e0, hz1, hz2, hz3⟩ := g1 j hjn
          replace e0 := HX2.out.cell (HX.out.cell e0)
          have HZ3 := Hid.mk hz3
          have hjb : (j + 1) * 64 ≤ 140737488355328 := by omega
          clear g1 hz3
          go_wp2_with fail
          refine (rat_from _ z hz1 hz2).mono ?_
          rintro e w1 ⟨⟨v1, rfl, r, rfl, hr⟩, hx1⟩
          rw [← HZ3.out] at hr
          replace HX2 := Hid.mk (HX2.out.trans hx1)
          replace HO2 := Hid.mk (HO2.out.x hx1)
          replace HQ2 := Hid.mk (fun j a hj => (HQ2.out j a hj).x hx1)
          have HR := Hid.mk hr
          clear hx1 hr c0 e0
          go_wp2_with (at_builtin; refine append_oneC NI wo _ rfl _ _ 49 rfl 71 (.agg #[.bool false, .slice none 0 0, .bool false, .slice none 0 0]) 4 64 Tryz.underlying49 info_Q rfl (by omega) ni_zero _ _ _ rfl HO2.out _ _ _ rfl rfl (by simp [Value.oneCell']) (ni_qvc r) (by omega) (by omega) HX2.out ?_; intro v2 w2 ho2 hx2 hk2; have HO3 := Hid.mk ho2; have HX3 := Hid.mk hx2; have hkp := HO2.out.kp hk2; have HQ3 := Hid.mk (fun j a hj => (HQ2.out j a hj).kp hkp (fun x => nni _ x)); have HR3 := Hid.mk (HR.out.kp hkp (fun x => nni _ x)); clear ho2 hx2 hk2 hkp)
          go_roundw
          case rel =>
            refine ⟨j + 1, qs ++ [r], by omega, by go_num, by rw [qcs_snoc]; exact HO3.out, by simp [hlq], fun t a ht => ?_, HX3.out⟩
            by_cases e : t = j
            · subst e
              rw [List.getElem?_append_right (by omega), hlq] at ht
              simp at ht
              subst ht
              exact HR3.out
            · have hil : t < qs.length := by
                have := (List.getElem?_eq_some_iff.1 ht).1
                simp at this
                omega
              rw [List.getElem?_append_left hil] at ht
              exact HQ3.out t a ht
          case measure => simp [intOf]; omega
        · obtain rfl : j = n := by omega
          have hsq : SlQ wr u5 j (M i) := SlQ.own HO2.out.1 hlq HQ2.out
          obtain ⟨A5, d5, rfl, p1, p2, p3⟩ := id hsq
          have HR := Hid.mk hsq
          replace HX := Hid.mk (HX.out.trans HX2.out)
          replace HO := Hid.mk (HO.out.x HX2.out)
          replace HQ := Hid.mk (fun j a hj => (HQ.out j a hj).x HX2.out)
          have hjn' : ¬ (j : Int) < (j : Int) := by omega
          clear hjn hj p1 p2 p3 hsq HO2 HQ2
          go_wp2_with (at_builtin; refine append_oneC IsSl w _ rfl _ _ 29 rfl 49 (.slice none 0 0) 1 24 Tryz.underlying29 info_sQ rfl (by omega) (fun u hu => ⟨none, 0, 0, by simpa [Value.cells] using hu⟩) _ _ _ rfl HO.out _ _ _ rfl rfl (by simp [Value.oneCell']) (fun u hu => ⟨A5, j, d5, by simpa using hu⟩) (by omega) (by omega) HX.out ?_; intro v2 w2 ho2 hx2 hk2; have HO3 := Hid.mk ho2; have HX3 := Hid.mk hx2; have HQ3 := Hid.mk (fun j a hj => (HQ.out j a hj).kApp HO.out hk2); have HR3 := Hid.mk (HR.out.kApp HO.out hk2); clear ho2 hx2 hk2)
          go_roundw
          case rel =>
            refine ⟨i + 1, us ++ [.slice A5 j d5], by omega, by go_num, HO3.out, by simp [hl], fun t a ht => ?_, HX3.out⟩
            by_cases e : t = i
            · subst e
              rw [List.getElem?_append_right (by omega), hl] at ht
              simp at ht
              subst ht
              exact HR3.out
            · have hil : t < us.length := by
                have := (List.getElem?_eq_some_iff.1 ht).1
                simp at this
                omega
              rw [List.getElem?_append_left hil] at ht
              exact HQ3.out t a ht
          case measure => simp [intOf]; omega
    · obtain rfl : i = m := by omega
      have HF := Hid.mk (SlM.own (S := SlQ) (M := M) (c := n) HO.out.1 hl HQ.out)
      have him' : ¬ (i : Int) < (i : Int) := by omega
      clear him hi
      go_wp2_with fail
      go_ret
      exact ⟨⟨_, rfl, HF.out⟩, HX.out⟩
end Go.Proofs.YtogakaiibijjpaaGreatDoor

/- Package matrix, tenth part: Kernel of another number of columns; square, Determinant. -/
set_option linter.unusedVariables false
set_option linter.unusedSimpArgs false
namespace Go.Proofs.YtogakaiibijjpaaGreatDoor
open Go.RowKit
open DDig DLin

theorem mat_kernel_size (w : World) (v : Value) (m c : Nat) (M : Mat) (h : MatQ w v m c M) (hm : m ≤ 256) (hc : c ≤ 96) (h0 : 0 < m) (k : Int) (hk : k ≠ c) :
    Calls Tryz.prog 19 #[v, .int .i64 k] w (Ret w fun w' v' => v' = .tuple #[.slice none 0 0, .int .i64 13]) := by
  have H := Hid.mk h
  obtain ⟨A0, c0, rfl, p1, p2, p3⟩ := id h
  clear h p1 p2 p3
  have h0' : (0 : Int) < (m : Int) := by omega
  have hnn : ((c : Int) != k) = true := by rw [bne_iff_ne]; omega
  go_enter Tryz.func19, Tryz.ntmps19
  go_wp2_with fail
  refine (mat_size _ _ m c M H.out hm hc).mono ?_
  rintro e w1 ⟨⟨v1, rfl, rfl⟩, hx1⟩
  have HX := Hid.mk hx1
  clear hx1
  go_wp2_with fail
  refine (mat_columns _ _ m c M (H.out.x HX.out) (by omega) c (by rw [if_neg (by omega)])).mono ?_
  rintro e w2 ⟨⟨v2, rfl, rfl⟩, hx2⟩
  have HX2 := Hid.mk (HX.out.trans hx2)
  clear hx2
  go_wp2_with fail
  go_ret2
  exact ⟨⟨_, rfl, rfl⟩, HX2.out⟩

theorem mat_kernel_range (w : World) (v : Value) (c : Nat) (M : Mat) (h : MatQ w v 0 c M) (k : Int) (hk : k < 0 ∨ 96 < k) :
    Calls Tryz.prog 19 #[v, .int .i64 k] w (Ret w fun w' v' => v' = .tuple #[.slice none 0 0, .int .i64 2]) := by
  have H : Hid (MatQ w v 0 0 M) := by
    obtain ⟨A0, c0, e, p1, p2, p3⟩ := h
    exact ⟨A0, c0, e, p1, p2, fun h => absurd h (by omega)⟩
  obtain ⟨A0, c0, rfl, p1, p2, p3⟩ := id h
  clear h p1 p2 p3
  by_cases hk1 : k < 0
  · go_enter Tryz.func19, Tryz.ntmps19
    go_wp2_with fail
    refine (mat_size _ _ 0 0 M H.out (by omega) (by omega)).mono ?_
    rintro e w1 ⟨⟨v1, rfl, rfl⟩, hx1⟩
    have HX := Hid.mk hx1
    clear hx1
    go_wp2_with fail
    go_ret2
    exact ⟨⟨_, rfl, rfl⟩, HX.out⟩
  · have hk2 : (96 : Int) < k := by omega
    have hk3 : ¬ k < 0 := hk1
    clear hk hk1
    go_enter Tryz.func19, Tryz.ntmps19
    go_wp2_with fail
    refine (mat_size _ _ 0 0 M H.out (by omega) (by omega)).mono ?_
    rintro e w1 ⟨⟨v1, rfl, rfl⟩, hx1⟩
    have HX := Hid.mk hx1
    clear hx1
    go_wp2_with fail
    go_ret2
    exact ⟨⟨_, rfl, rfl⟩, HX.out⟩

theorem mat_square (w : World) (v : Value) (n : Nat) (M : Mat) (h : MatQ w v n n M) (hn : n ≤ 96) :
    Calls Tryz.prog 78 #[v] w (Ret w fun w' v' => v' = .int .i64 0) := by
  have H := Hid.mk h
  obtain ⟨A0, c0, rfl, p1, p2, p3⟩ := id h
  clear h p1 p2 p3
  by_cases h0 : 0 < n
  · have h0' : (0 : Int) < (n : Int) := by omega
    have hnn : ((n : Int) != (n : Int)) = false := by simp
    go_enter Tryz.func78, Tryz.ntmps78
    go_wp2_with fail
    refine (mat_size _ _ n n M H.out (by omega) hn).mono ?_
    rintro e w1 ⟨⟨v1, rfl, rfl⟩, hx1⟩
    have HX := Hid.mk hx1
    clear hx1
    go_wp2_with fail
    refine (mat_columns _ _ n n M (H.out.x HX.out) (by omega) n (by rw [if_neg (by omega)])).mono ?_
    rintro e w2 ⟨⟨v2, rfl, rfl⟩, hx2⟩
    have HX2 := Hid.mk (HX.out.trans hx2)
    clear hx2
    go_wp2_with fail
    go_ret
    exact ⟨⟨_, rfl, rfl⟩, HX2.out⟩
  · have h0' : ¬ (0 : Int) < (n : Int) := by omega
    go_enter Tryz.func78, Tryz.ntmps78
    go_wp2_with fail
    refine (mat_size _ _ n n M H.out (by omega) hn).mono ?_
    rintro e w1 ⟨⟨v1, rfl, rfl⟩, hx1⟩
    have HX := Hid.mk hx1
    clear hx1
    go_wp2_with fail
    go_ret
    exact ⟨⟨_, rfl, rfl⟩, HX.out⟩

set_option maxRecDepth 100000 in
set_option maxHeartbeats 4000000 in
theorem mat_det (w : World) (v : Value) (n : Nat) (M : Mat) (h : MatQ w v n n M) (hn : n ≤ 96) (b : Nat) (hb : 0 < b) (hs : TSz M n n b) (hsz : 5 ^ (n + 1) * b ≤ 100000000000) :
    Calls Tryz.prog 38 #[v] w (Ret w fun w' v' => ∃ r : QV, v' = .tuple #[r.v, .int .i64 0] ∧ RatR w' r (det n M)) := by
  have H := Hid.mk h
  have HS := Hid.mk hs
  obtain ⟨A0, c0, rfl, p1, p2, p3⟩ := id h
  clear h hs p1 p2 p3
  go_enter Tryz.func38, Tryz.ntmps38
  go_wp2_with fail
  obtain ⟨W, hW, hX, b0, hWs⟩ := setup1 w #[.bool false, .slice none 0 0, .bool false, .slice none 0 0] 71
  rw [hW]
  clear hW
  have B0 := Hid.mk b0
  have HX := Hid.mk hX
  clear b0 hX
  refine (mat_square _ _ n M (H.out.x HX.out) hn).mono ?_
  rintro e w1 ⟨⟨v1, rfl, rfl⟩, hx1⟩
  replace HX := Hid.mk (HX.out.trans hx1)
  replace B0 := Hid.mk (B0.out.x hx1)
  clear hx1
  go_wp2_with fail
  refine (mat_reduced _ _ n n n M (H.out.x HX.out) (by omega) (by omega) (Nat.le_refl _) b hb HS.out hsz).mono ?_
  rintro e w3 ⟨⟨v3, rfl, R, P, d, rfl, hR, hP, hd⟩, hx3⟩
  obtain ⟨A, pc, rfl, h1, h2, h3⟩ := PivR.own hP
  replace HX := Hid.mk (HX.out.trans hx3)
  replace B0 := Hid.mk (B0.out.x hx3)
  obtain ⟨s, hs⟩ : ∃ s, s = steps n M n := ⟨_, rfl⟩
  have hdet := det_steps (n := n) M
  rw [← hs] at hdet hd ⊢
  have HDT := Hid.mk hdet
  have hq6 : w.heap.size < w3.heap.size := B0.out.lt
  clear hs hx3 hR hP h2 h3 h1 hdet
  obtain ⟨W4, hW4, hX34, hX4, b4, hd4⟩ := store4 (t := 71) HX.out hd
  replace HX := Hid.mk hX4
  replace B0 := Hid.mk (B0.out.x hX34)
  have hb0 := B0.out
  have k0 := hb0.cell (j := 0) rfl; have k1 := hb0.cell (j := 1) rfl; have k2 := hb0.cell (j := 2) rfl; have k3 := hb0.cell (j := 3) rfl; have f0 := hb0.frozen 0; have f1 := hb0.frozen 1; have f2 := hb0.frozen 2; have f3 := hb0.frozen 3
  have c0 := b4.cell (j := 0) rfl; have c1 := b4.cell (j := 1) rfl; have c2 := b4.cell (j := 2) rfl; have c3 := b4.cell (j := 3) rfl
  have hne : ¬ w.heap.size = w3.heap.size := by omega
  by_cases hl : s.piv.length < n
  · have hl' : (s.piv.length : Int) < (n : Int) := by omega
    have K := four_cells hb0 (.bool false) (.slice none 0 0) (.bool false) (.slice none 0 0)
    have HR : Hid (RatR (put4 W4 w.heap.size ⟨false, none, 0, 0, false, none, 0, 0⟩) ⟨false, none, 0, 0, false, none, 0, 0⟩ (det n M)) := by
      rw [HDT.out, if_pos hl]
      exact (RatR.whole (IntR.zero W4)).put4 hb0 _
    have HXF := Hid.mk (HX.out.put4 (Nat.le_refl _) ⟨false, none, 0, 0, false, none, 0, 0⟩)
    clear b4 hb0 hd hd4 hX34 hX4
    go_wp2_with fail
    exact bodyPost_ret (v := .tuple #[.agg #[.bool false, .slice none 0 0, .bool false, .slice none 0 0], .int .i64 0]) (by simp [results, Tryz.results38, go_sem, K.1, K.2.1, K.2.2.1, K.2.2.2]) rfl ⟨⟨_, rfl, ⟨false, none, 0, 0, false, none, 0, 0⟩, rfl, HR.out⟩, HXF.out⟩
  · have hl' : ¬ (s.piv.length : Int) < (n : Int) := by omega
    have K := four_cells hb0 (.bool d.s) (.slice d.A d.n d.c) (.bool d.t) (.slice d.B d.m d.d)
    have HR : Hid (RatR (put4 W4 w.heap.size d) d (det n M)) := by
      rw [HDT.out, if_neg hl]
      exact hd4.put4 hb0 _
    have HXF := Hid.mk (HX.out.put4 (Nat.le_refl _) d)
    clear b4 hb0 hd hd4 hX34 hX4
    go_wp2_with fail
    exact bodyPost_ret (v := .tuple #[d.v, .int .i64 0]) (by simp [results, Tryz.results38, go_sem, K.1, K.2.1, K.2.2.1, K.2.2.2]) rfl ⟨⟨_, rfl, d, rfl, HR.out⟩, HXF.out⟩
end Go.Proofs.YtogakaiibijjpaaGreatDoor

/- Package matrix: Equal of tables with the same numbers. -/
set_option linter.unusedVariables false
set_option linter.unusedSimpArgs false
namespace Go.Proofs.YtogakaiibijjpaaGreatDoor
open Go.RowKit
open DDig

theorem rcmp_self (x : Rat) : rcmp x x = 0 := rcmp_eq.2 rfl

theorem eq_num (w : World) (a b : QV) (x : Rat) (ha : RatR w a x) (hb : RatR w b x) (k : Nat) (hx : RSz x k) (hk : k + k + 1 ≤ 549755813888) :
    Calls Tryz.prog 69 #[a.v, b.v] w (Ret w fun w' v => v = .bool true) := by
  have HA := Hid.mk ha
  have HB := Hid.mk hb
  have HS := Hid.mk hx
  clear ha hb hx
  go_enter Tryz.func69, Tryz.ntmps69
  go_upto_region 1 with (fail)
  obtain ⟨W, hW, hX, b0, b1⟩ := setup2 w #[.bool a.s, .slice a.A a.n a.c, .bool a.t, .slice a.B a.m a.d] #[.bool b.s, .slice b.A b.n b.c, .bool b.t, .slice b.B b.m b.d] 71 71
  rw [hW]
  clear hW
  have c0 := b0.cell (j := 0) rfl; have c1 := b0.cell (j := 1) rfl; have c2 := b0.cell (j := 2) rfl; have c3 := b0.cell (j := 3) rfl
  have d0 := b1.cell (j := 0) rfl; have d1 := b1.cell (j := 1) rfl; have d2 := b1.cell (j := 2) rfl; have d3 := b1.cell (j := 3) rfl
  go_wp2_with fail
  refine (rat_compare _ a b x x (HA.out.x hX) (HB.out.x hX) k k HS.out HS.out hk).mono ?_
  rintro e w1 ⟨⟨v, rfl, rfl⟩, hx1⟩
  rw [rcmp_self]
  have HX := Hid.mk (hX.trans hx1)
  clear hX hx1 b0 b1 c0 c1 c2 c3 d0 d1 d2 d3
  go_wp2
  go_ret
  exact ⟨⟨_, rfl, rfl⟩, HX.out⟩

set_option maxRecDepth 100000 in
set_option maxHeartbeats 2000000 in
theorem eq_row (w : World) (u v : Value) (n : Nat) (f : Nat → Rat) (hu : SlQ w u n f) (hv : SlQ w v n f) (hn : n ≤ 1000000) (k : Nat) (hs : ∀ j, j < n → RSz (f j) k) (hk : k + k + 1 ≤ 549755813888) :
    Calls Tryz.prog 68 #[u, v, .func (.func 69) #[] #[]] w (Ret w fun w' v => v = .bool true) := by
  obtain ⟨A, c, rfl, h1, h2, h3⟩ := hu
  obtain ⟨B, d, rfl, h1', h2', h3'⟩ := hv
  have HA := Hid.mk h3
  have HB := Hid.mk h3'
  have HS := Hid.mk hs
  have hnb : ((n : Int) != (n : Int)) = false := by simp
  clear h1 h2 h3 h1' h2' h3' hs
  go_enter Tryz.func68, Tryz.ntmps68
  go_wp2_with fail
  go_loopw [17] (fun t17 wr => ∃ i : Nat, i ≤ n ∧ t17 = .int .i64 i ∧ X w wr) (fun t _ => n - (intOf t).toNat)
  case atStart => exact ⟨0, Nat.zero_le _, rfl, X.refl _⟩
  case round =>
    obtain ⟨i, hi, rfl, hx⟩ := hrel
    have HX := Hid.mk hx
    clear hx
    by_cases hin : i < n
    · have hin' : (i : Int) < (n : Int) := by omega
      obtain ⟨b0, o0, rfl, g0⟩ := (HA.out.x HX.out) (by omega)
      obtain ⟨a, c0, c1, c2, c3, ha⟩ := g0 i hin
      obtain ⟨b1, o1, rfl, g1⟩ := (HB.out.x HX.out) (by omega)
      obtain ⟨a', d0, d1, d2, d3, ha'⟩ := g1 i hin
      have HRA := Hid.mk ha
      have HRB := Hid.mk ha'
      have hl0 : b0 < wr.heap.size := World.block_lt_of_cell? _ _ c0
      have hl1 : b1 < wr.heap.size := World.block_lt_of_cell? _ _ d0
      have hsz := HS.out i hin
      obtain ⟨x, hxx⟩ : ∃ x, x = f i := ⟨_, rfl⟩
      rw [← hxx] at HRA HRB hsz
      clear ha ha' g0 g1 hxx
      go_upto_region 6 with (fail)
      obtain ⟨W, hW, hXW, q0, hWs⟩ := setup1 wr #[.bool a.s, .slice a.A a.n a.c, .bool a.t, .slice a.B a.m a.d] 71
      rw [hW]
      clear hW c0 c1 c2 c3
      replace d0 := hXW.cell d0
      replace d1 := hXW.cell d1
      replace d2 := hXW.cell d2
      replace d3 := hXW.cell d3
      replace HRA := Hid.mk (HRA.out.x hXW)
      replace HRB := Hid.mk (HRB.out.x hXW)
      replace HX := Hid.mk (HX.out.trans hXW)
      go_upto_region 7 with (fail)
      obtain ⟨W2, hW2, hXW2, q1, hWs2⟩ := setup1 W #[.bool a'.s, .slice a'.A a'.n a'.c, .bool a'.t, .slice a'.B a'.m a'.d] 71
      rw [hW2]
      rw [hWs] at q1
      replace q0 := q0.x hXW2
      replace HRA := Hid.mk (HRA.out.x hXW2)
      replace HRB := Hid.mk (HRB.out.x hXW2)
      replace HX := Hid.mk (HX.out.trans hXW2)
      clear hW2 d0 d1 d2 d3
      have c0 := q0.cell (j := 0) rfl; have c1 := q0.cell (j := 1) rfl; have c2 := q0.cell (j := 2) rfl; have c3 := q0.cell (j := 3) rfl
      have d0 := q1.cell (j := 0) rfl; have d1 := q1.cell (j := 1) rfl; have d2 := q1.cell (j := 2) rfl; have d3 := q1.cell (j := 3) rfl
      clear q0 q1 hXW hXW2
      go_wp2_with (go_at_call 69; refine (eq_num _ a a' x HRA.out HRB.out k hsz hk).mono ?_; rintro e w3 ⟨⟨v3, rfl, rfl⟩, hx3⟩; have HX3 := Hid.mk (HX.out.trans hx3); clear hx3)
      go_roundw
      case rel => exact ⟨i + 1, by omega, by go_num, HX3.out⟩
      case measure => simp [intOf]; omega
    · go_wp2
      go_ret
      exact ⟨⟨_, rfl, rfl⟩, HX.out⟩

theorem eq_rows (w : World) (u v : Value) (n : Nat) (f : Nat → Rat) (hu : SlQ w u n f) (hv : SlQ w v n f) (hn : n ≤ 1000000) (k : Nat) (hs : ∀ j, j < n → RSz (f j) k) (hk : k + k + 1 ≤ 549755813888) :
    Calls Tryz.prog 67 #[u, v] w (Ret w fun w' v => v = .bool true) := by
  have HE := Hid.mk (eq_row w u v n f hu hv hn k hs hk)
  clear hu hv hs
  go_enter Tryz.func67, Tryz.ntmps67
  go_wp2_with fail
  refine HE.out.mono ?_
  rintro e w1 ⟨⟨v, rfl, rfl⟩, hx1⟩
  have HX := Hid.mk hx1
  clear hx1
  go_wp2
  go_ret
  exact ⟨⟨_, rfl, rfl⟩, HX.out⟩

set_option maxRecDepth 100000 in
set_option maxHeartbeats 2000000 in
theorem eq_tab (w : World) (u v : Value) (m c : Nat) (M : Nat → Nat → Rat) (hu : MatQ w u m c M) (hv : MatQ w v m c M) (hm : m ≤ 1000000) (hn : c ≤ 1000000) (k : Nat) (hs : TSz M m c k) (hk : k + k + 1 ≤ 549755813888) :
    Calls Tryz.prog 66 #[u, v, .func (.func 67) #[] #[]] w (Ret w fun w' v => v = .bool true) := by
  obtain ⟨A, c1, rfl, h1, h2, h3⟩ := hu
  obtain ⟨B, d1, rfl, h1', h2', h3'⟩ := hv
  have HA := Hid.mk h3
  have HB := Hid.mk h3'
  have HS := Hid.mk hs
  have hnb : ((m : Int) != (m : Int)) = false := by simp
  clear h1 h2 h3 h1' h2' h3' hs
  go_enter Tryz.func66, Tryz.ntmps66
  go_wp2_with fail
  go_loopw [17] (fun t17 wr => ∃ i : Nat, i ≤ m ∧ t17 = .int .i64 i ∧ X w wr) (fun t _ => m - (intOf t).toNat)
  case atStart => exact ⟨0, Nat.zero_le _, rfl, X.refl _⟩
  case round =>
    obtain ⟨i, hi, rfl, hx⟩ := hrel
    have HX := Hid.mk hx
    clear hx
    by_cases hin : i < m
    · have hin' : (i : Int) < (m : Int) := by omega
      obtain ⟨b0, o0, rfl, g0⟩ := HA.out (by omega)
      obtain ⟨x0, c0, hs0⟩ := g0 i hin
      obtain ⟨b1, o1, rfl, g1⟩ := HB.out (by omega)
      obtain ⟨x1, d0, hs1⟩ := g1 i hin
      obtain ⟨A0, k0, rfl, p0, p1, p2⟩ := id hs0
      obtain ⟨A1, k1, rfl, p0', p1', p2'⟩ := id hs1
      replace c0 := HX.out.cell c0
      replace d0 := HX.out.cell d0
      have H0 := Hid.mk (hs0.x HX.out)
      have H1 := Hid.mk (hs1.x HX.out)
      have hsz := Hid.mk (HS.out i hin)
      clear hs0 hs1 g0 g1 p0 p1 p2 p0' p1' p2'
      go_wp2_with (go_at_call 67; refine (eq_rows _ _ _ c (M i) H0.out H1.out hn k hsz.out hk).mono ?_; rintro e w3 ⟨⟨v3, rfl, rfl⟩, hx3⟩; have HX3 := Hid.mk (HX.out.trans hx3); clear hx3)
      go_roundw
      case rel => exact ⟨i + 1, by omega, by go_num, HX3.out⟩
      case measure => simp [intOf]; omega
    · go_wp2
      go_ret
      exact ⟨⟨_, rfl, rfl⟩, HX.out⟩

theorem mat_equal (w : World) (u v : Value) (m c : Nat) (M : Nat → Nat → Rat) (hu : MatQ w u m c M) (hv : MatQ w v m c M) (hm : m ≤ 1000000) (hn : c ≤ 1000000) (k : Nat) (hs : TSz M m c k) (hk : k + k + 1 ≤ 549755813888) :
    Calls Tryz.prog 27 #[u, v] w (Ret w fun w' v => v = .bool true) := by
  have HE := Hid.mk (eq_tab w u v m c M hu hv hm hn k hs hk)
  clear hu hv hs
  go_enter Tryz.func27, Tryz.ntmps27
  go_wp2_with fail
  refine HE.out.mono ?_
  rintro e w1 ⟨⟨v, rfl, rfl⟩, hx1⟩
  have HX := Hid.mk hx1
  clear hx1
  go_wp2
  go_ret
  exact ⟨⟨_, rfl, rfl⟩, HX.out⟩
end Go.Proofs.YtogakaiibijjpaaGreatDoor

/- The law's words: known. -/
set_option linter.unusedVariables false
set_option linter.unusedSimpArgs false
namespace Go.Proofs.YtogakaiibijjpaaGreatDoor
open Go.RowKit
open DDig DLin

def T1 : Nat → Nat → Rat := tab [[2, 4, 6], [1, 2, 4]]
def T2 : Nat → Nat → Rat := tab [[1, 2, 0], [0, 0, 1]]
def T3 : Nat → Nat → Rat := tab [[1, 2], [3, 4]]
def T4 : Nat → Nat → Rat := tab [[-2, 1, 0]]
theorem known1 : (steps 2 T1 3).piv = [0, 2] := by decide +kernel
theorem known2 : ∀ i, i < 2 → ∀ j, j < 3 → (steps 2 T1 3).M i j = T2 i j := by decide +kernel
theorem known3 : det 2 T3 = -2 := by decide +kernel
theorem known4 : ∀ j, j < 3 → kerv (steps 2 T1 3) 1 j = T4 0 j := by decide +kernel
theorem known5 : frees [0, 2] 3 = [1] := by decide +kernel

theorem tab_size {L : List (List Int)} (h : ∀ l ∈ L, ∀ z ∈ l, z.natAbs < 4294967296) (m c : Nat) : TSz (tab L) m c 1 := by
  intro i hi j hj
  have e : pw B32 1 = 4294967296 := by decide
  have hz : ((L.getD i []).getD j 0).natAbs < 4294967296 := by
    have key : ∀ l : List Int, (∀ z ∈ l, z.natAbs < 4294967296) → (l.getD j 0).natAbs < 4294967296 := by
      intro l hl
      by_cases h2 : j < l.length
      · refine hl _ ?_
        rw [List.getD_eq_getElem?_getD, List.getElem?_eq_getElem h2]; exact List.getElem_mem _
      · rw [List.getD_eq_getElem?_getD, List.getElem?_eq_none (by omega)]
        show (0 : Int).natAbs < _
        decide
    refine key _ ?_
    by_cases h1 : i < L.length
    · refine h (L.getD i []) ?_
      rw [List.getD_eq_getElem?_getD, List.getElem?_eq_getElem h1]; exact List.getElem_mem _
    · have : L.getD i [] = [] := by
        rw [List.getD_eq_getElem?_getD, List.getElem?_eq_none (by omega)]; rfl
      rw [this]; simp
  unfold tab
  constructor
  · rw [e]; show (((L.getD i []).getD j 0).natAbs : Int) < _; omega
  · rw [e]; show ((1 : Nat) : Int) < _; omega

theorem lit2 (w : World) (xs ys : List Int) (n : Nat) (t0 t1 t2 : TypeId) (hx : xs.length = n) (hy : ys.length = n) (rx : ∀ z ∈ xs, -9223372036854775808 ≤ z ∧ z ≤ 9223372036854775807) (ry : ∀ z ∈ ys, -9223372036854775808 ≤ z ∧ z ≤ 9223372036854775807) :
    ∃ W, ((w.alloc (.cells (nums .i64 xs).toArray t0)).alloc (.cells (nums .i64 ys).toArray t1)).alloc (.cells #[.slice (some ⟨w.heap.size, 0, none⟩) n n, .slice (some ⟨w.heap.size + 1, 0, none⟩) n n] t2) = W ∧ X w W ∧ MatI W (.slice (some ⟨w.heap.size + 1 + 1, 0, none⟩) 2 2) 2 n (tab [xs, ys]) := by
  obtain ⟨W, hW, hX, b0, b1, b2⟩ := setup3 w (nums .i64 xs).toArray (nums .i64 ys).toArray #[.slice (some ⟨w.heap.size, 0, none⟩) n n, .slice (some ⟨w.heap.size + 1, 0, none⟩) n n] t0 t1 t2
  refine ⟨W, hW, hX, _, 2, rfl, Nat.le_refl _, by simp, fun _ => ⟨_, 0, rfl, fun i hi => ?_⟩⟩
  rw [Nat.zero_add]
  match i, hi with
  | 0, _ => exact ⟨_, b2.cell rfl, SlI.lit (by simpa using b0) hx rx (fun j hj => rfl)⟩
  | 1, _ => exact ⟨_, b2.cell rfl, SlI.lit (by simpa using b1) hy ry (fun j hj => rfl)⟩
theorem lit1 (w : World) (xs : List Int) (n : Nat) (t0 t2 : TypeId) (hx : xs.length = n) (rx : ∀ z ∈ xs, -9223372036854775808 ≤ z ∧ z ≤ 9223372036854775807) :
    ∃ W, (w.alloc (.cells (nums .i64 xs).toArray t0)).alloc (.cells #[.slice (some ⟨w.heap.size, 0, none⟩) n n] t2) = W ∧ X w W ∧ MatI W (.slice (some ⟨w.heap.size + 1, 0, none⟩) 1 1) 1 n (tab [xs]) := by
  obtain ⟨W, hW, hX, b0, b2⟩ := setup2 w (nums .i64 xs).toArray #[.slice (some ⟨w.heap.size, 0, none⟩) n n] t0 t2
  refine ⟨W, hW, hX, _, 1, rfl, Nat.le_refl _, by simp, fun _ => ⟨_, 0, rfl, fun i hi => ?_⟩⟩
  rw [Nat.zero_add]
  match i, hi with
  | 0, _ => exact ⟨_, b2.cell rfl, SlI.lit (by simpa using b0) hx rx (fun j hj => rfl)⟩

theorem minus_two : QTxt ⟨#[45, 50]⟩ (-2) := ⟨[45, 50], [49], ⟨true, [2], ⟨Dig.cons (by decide) (by decide) (Dig.nil _), by simp [Norm]⟩, by simp, rfl, rfl⟩, txt_one, rfl⟩
theorem two_size : RSz (-2) 1 := by
  have e : pw B32 1 = 4294967296 := by decide
  constructor
  · rw [e]; decide
  · rw [e]; decide

set_option maxRecDepth 100000 in
set_option maxHeartbeats 4000000 in
theorem law_known (w : World) (hg : Gl w) :
    Calls Tryz.prog 12 #[] w (Ret w fun w' v => v = .bool true) := by
  have HG := Hid.mk hg
  clear hg
  have HS1 : Hid (TSz T1 2 3 1) := tab_size (by decide) 2 3
  have HS2 : Hid (TSz T2 2 3 1) := tab_size (by decide) 2 3
  have HS3 : Hid (TSz T3 2 2 1) := tab_size (by decide) 2 2
  have HS4 : Hid (TSz T4 1 3 1) := tab_size (by decide) 1 3
  go_enter Tryz.func12, Tryz.ntmps12
  go_wp2_with fail
  obtain ⟨W, hW, hX, hI⟩ := lit2 w [2, 4, 6] [1, 2, 4] 3 3 3 30 rfl rfl (by decide) (by decide)
  simp only [nums, List.map_cons, List.map_nil] at hW
  rw [hW]
  clear hW
  refine (law_numbers _ _ 2 3 _ hI (by omega) (by omega)).mono ?_
  rintro e w1 ⟨⟨v1, rfl, hm1⟩, hx1⟩
  have HX := Hid.mk (hX.trans hx1)
  have HM := Hid.mk hm1
  clear hX hx1 hI hm1
  go_wp2_with fail
  refine (mat_reduce _ _ 2 3 T1 HM.out (by omega) (by omega) (by omega) 1 (by omega) HS1.out (by decide)).mono ?_
  rintro e w2 ⟨⟨v2, rfl, R, P, rfl, hR, hP⟩, hx2⟩
  rw [known1] at hR hP
  replace hR : MatQ w2 R 2 3 T2 := MatQ.congr hR known2
  replace HX := Hid.mk (HX.out.trans hx2)
  have HR := Hid.mk hR
  have HP := Hid.mk hP
  clear hx2 hR hP HM
  go_wp2_with fail
  obtain ⟨W2, hW, hX, hI⟩ := lit2 w2 [2, 4, 6] [1, 2, 4] 3 3 3 30 rfl rfl (by decide) (by decide)
  simp only [nums, List.map_cons, List.map_nil] at hW
  rw [hW]
  clear hW
  refine (law_numbers _ _ 2 3 _ hI (by omega) (by omega)).mono ?_
  rintro e w3 ⟨⟨v3, rfl, hm1⟩, hx1⟩
  have hX3 := hX.trans hx1
  replace HX := Hid.mk (HX.out.trans hX3)
  replace HR := Hid.mk (HR.out.x hX3)
  replace HP := Hid.mk (HP.out.x hX3)
  have HM := Hid.mk hm1
  clear hX hx1 hI hm1 hX3
  go_wp2_with fail
  refine (mat_kernel _ _ 2 3 T1 HM.out (by omega) (by omega) 1 (by omega) HS1.out (by decide)).mono ?_
  rintro e w4 ⟨⟨v4, rfl, K, rfl, hK⟩, hx4⟩
  rw [known1, known5] at hK
  replace hK : MatQ w4 K 1 3 T4 := MatQ.congr hK (fun i hi j hj => by
    have : i = 0 := by omega
    subst this
    exact known4 j hj)
  replace HX := Hid.mk (HX.out.trans hx4)
  replace HR := Hid.mk (HR.out.x hx4)
  replace HP := Hid.mk (HP.out.x hx4)
  have HK := Hid.mk hK
  clear hx4 hK HM
  go_wp2_with fail
  obtain ⟨W4, hW, hX, hI⟩ := lit2 w4 [1, 2] [3, 4] 2 3 3 30 rfl rfl (by decide) (by decide)
  simp only [nums, List.map_cons, List.map_nil] at hW
  rw [hW]
  clear hW
  refine (law_numbers _ _ 2 2 _ hI (by omega) (by omega)).mono ?_
  rintro e w5 ⟨⟨v5, rfl, hm1⟩, hx1⟩
  have hX5 := hX.trans hx1
  replace HX := Hid.mk (HX.out.trans hX5)
  replace HR := Hid.mk (HR.out.x hX5)
  replace HP := Hid.mk (HP.out.x hX5)
  replace HK := Hid.mk (HK.out.x hX5)
  have HM := Hid.mk hm1
  clear hX hx1 hI hm1 hX5
  go_wp2_with fail
  refine (mat_det _ _ 2 T3 HM.out (by omega) 1 (by omega) HS3.out (by decide)).mono ?_
  rintro e w6 ⟨⟨v6, rfl, d, rfl, hd⟩, hx6⟩
  rw [known3] at hd
  replace HX := Hid.mk (HX.out.trans hx6)
  replace HR := Hid.mk (HR.out.x hx6)
  replace HP := Hid.mk (HP.out.x hx6)
  replace HK := Hid.mk (HK.out.x hx6)
  clear hx6 HM
  go_upto_region 4 with (fail)
  obtain ⟨W7, hW7, hX67, hX7, b7, hd7⟩ := store4 (t := 71) HX.out hd
  rw [hW7]
  clear hW7
  replace HX := Hid.mk hX7
  replace HR := Hid.mk (HR.out.x hX67)
  replace HP := Hid.mk (HP.out.x hX67)
  replace HK := Hid.mk (HK.out.x hX67)
  have HD := Hid.mk hd7
  obtain ⟨g7, hg7⟩ : ∃ g7, g7 = w6.heap.size := ⟨_, rfl⟩
  rw [← hg7] at b7
  simp only [← hg7]
  have B7 := Hid.mk b7
  clear hX67 hX7 hd7 hd b7
  obtain ⟨PA, pc, rfl, -, -, -⟩ := id HP.out
  obtain ⟨bp, op, rfl, cp0⟩ := HP.out.cell (i := 0) (by decide)
  obtain ⟨bp', op', e, cp1⟩ := HP.out.cell (i := 1) (by decide)
  injection e with e; injection e with e1 e2
  subst e1 e2
  clear cp0 cp1 hg7
  go_wp2_with fail
  obtain ⟨W8, hW, hX, hI⟩ := lit2 W7 [1, 2, 0] [0, 0, 1] 3 3 3 30 rfl rfl (by decide) (by decide)
  simp only [nums, List.map_cons, List.map_nil] at hW
  rw [hW]
  clear hW
  refine (law_numbers _ _ 2 3 _ hI (by omega) (by omega)).mono ?_
  rintro e w8 ⟨⟨v8, rfl, hm1⟩, hx1⟩
  have hX8 := hX.trans hx1
  replace HX := Hid.mk (HX.out.trans hX8)
  replace HR := Hid.mk (HR.out.x hX8)
  replace HP := Hid.mk (HP.out.x hX8)
  replace HK := Hid.mk (HK.out.x hX8)
  replace HD := Hid.mk (HD.out.x hX8)
  replace B7 := Hid.mk (B7.out.x hX8)
  have HM := Hid.mk hm1
  clear hX hx1 hI hm1 hX8
  go_wp2_with fail
  refine (mat_equal _ _ _ 2 3 T2 HR.out HM.out (by omega) (by omega) 1 HS2.out (by omega)).mono ?_
  rintro e w9 ⟨⟨v9, rfl, rfl⟩, hx9⟩
  replace HX := Hid.mk (HX.out.trans hx9)
  replace HP := Hid.mk (HP.out.x hx9)
  replace HK := Hid.mk (HK.out.x hx9)
  replace HD := Hid.mk (HD.out.x hx9)
  replace B7 := Hid.mk (B7.out.x hx9)
  clear hx9 HM HR
  obtain ⟨bq, oq, e, cp0⟩ := HP.out.cell (i := 0) (by decide)
  injection e with e; injection e with e1 e2
  subst e1 e2
  obtain ⟨bq, oq, e, cp1⟩ := HP.out.cell (i := 1) (by decide)
  injection e with e; injection e with e1 e2
  subst e1 e2
  replace cp0 : w9.cell? ⟨bp, op, none⟩ = some (.int .i64 0) := cp0
  replace cp1 : w9.cell? ⟨bp, op + 1, none⟩ = some (.int .i64 2) := cp1
  go_wp2_with fail
  obtain ⟨Wa, hW, hX, hI⟩ := lit1 w9 [-2, 1, 0] 3 3 30 rfl (by decide)
  simp only [nums, List.map_cons, List.map_nil] at hW
  rw [hW]
  clear hW
  refine (law_numbers _ _ 1 3 _ hI (by omega) (by omega)).mono ?_
  rintro e wa ⟨⟨va, rfl, hm1⟩, hx1⟩
  have hXa := hX.trans hx1
  replace HX := Hid.mk (HX.out.trans hXa)
  replace HK := Hid.mk (HK.out.x hXa)
  replace HD := Hid.mk (HD.out.x hXa)
  replace B7 := Hid.mk (B7.out.x hXa)
  have HM := Hid.mk hm1
  clear hX hx1 hI hm1 hXa cp0 cp1
  go_wp2_with fail
  refine (mat_equal _ _ _ 1 3 T4 HK.out HM.out (by omega) (by omega) 1 HS4.out (by omega)).mono ?_
  rintro e wb ⟨⟨vb, rfl, rfl⟩, hxb⟩
  replace HX := Hid.mk (HX.out.trans hxb)
  replace HD := Hid.mk (HD.out.x hxb)
  replace B7 := Hid.mk (B7.out.x hxb)
  clear hxb HM HK
  have hb7 := B7.out
  have c0 := hb7.cell (j := 0) rfl; have c1 := hb7.cell (j := 1) rfl; have c2 := hb7.cell (j := 2) rfl; have c3 := hb7.cell (j := 3) rfl
  clear hb7
  go_wp2_with fail
  have hnn : d.n ≤ 1000000000 := by have := HD.out.num.size (k := 1) two_size.1; simp at this; omega
  have hmm : d.m ≤ 1000000000 := by
    obtain ⟨e, -, h2, h3⟩ := HD.out
    have he : (e.natAbs : Int) < pw B32 1 := by
      have e1 : pw B32 1 = 4294967296 := by decide
      rw [e1]
      have hd1 : ((-2 : Rat).den : Int) = 1 := by decide
      rcases h3 with h3 | ⟨h3, -⟩ <;> omega
    have := h2.size he
    simp at this; omega
  refine (rat_number _ d (-2) HD.out hnn hmm (HG.out.x HX.out).1).mono ?_
  rintro e wc ⟨⟨vc, rfl, r, rfl, hr⟩, hxc⟩
  obtain rfl := QTxt.same hr minus_two
  replace HX := Hid.mk (HX.out.trans hxc)
  clear hxc hr
  go_wp2_with fail
  go_ret
  exact ⟨⟨_, rfl, rfl⟩, HX.out⟩
end Go.Proofs.YtogakaiibijjpaaGreatDoor

/- Package matrix: dot. -/
set_option linter.unusedVariables false
set_option linter.unusedSimpArgs false
namespace Go.Proofs.YtogakaiibijjpaaGreatDoor
open Go.RowKit
open DDig DLin

theorem dot_size {n k l : Nat} {f e : Nat → Rat} (hs : ∀ i, i < n → RSz (f i) k) (hs' : ∀ i, i < n → RSz (e i) l) : ∀ i, i ≤ n → RSz (sm i fun j => f j * e j) (i * (k + l + 1) + 1)
  | 0, _ => by rw [sm_zero]; exact RSz.zero (by omega)
  | i + 1, h => by
    rw [sm_succ]
    have h1 := (dot_size hs hs' i (by omega)).add ((hs i (by omega)).mul (hs' i (by omega)))
    rw [Nat.succ_mul]
    exact h1.mono (by omega)

set_option maxRecDepth 100000 in
set_option maxHeartbeats 8000000 in
theorem mat_dot (w : World) (v u : Value) (n m : Nat) (f e : Nat → Rat) (h : SlQ w v n f) (h' : SlQ w u m e) (hnm : n ≤ m) (k l : Nat) (hs : ∀ i, i < n → RSz (f i) k) (hs' : ∀ i, i < n → RSz (e i) l) (hsz : n * (k + l + 1) + 1 ≤ 549755813888) :
    Calls Tryz.prog 65 #[v, u] w (Ret w fun w' v' => ∃ r : QV, v' = r.v ∧ RatR w' r (sm n fun i => f i * e i)) := by
  have HSS : Hid (∀ i, i < n → RSz (sm i fun j => f j * e j) (i * (k + l + 1) + 1) ∧ i * (k + l + 1) + 1 + (k + l) + 1 ≤ 549755813888) := fun i hi => by
    refine ⟨dot_size hs hs' i (by omega), ?_⟩
    have h1 : (i + 1) * (k + l + 1) ≤ n * (k + l + 1) := Nat.mul_le_mul_right _ hi
    rw [Nat.succ_mul] at h1
    omega
  have hnb : n ≤ 549755813888 := by
    have : n * 1 ≤ n * (k + l + 1) := Nat.mul_le_mul_left _ (by omega)
    omega
  have HM : Hid (∀ i, i < n → RSz (f i) k ∧ RSz (e i) l ∧ k + l ≤ 549755813888) := fun i hi => by
    have := (HSS.out i hi).2
    exact ⟨hs i hi, hs' i hi, by omega⟩
  obtain ⟨A, c, rfl, h1, h2, h3⟩ := h
  obtain ⟨B, d, rfl, h1', h2', h3'⟩ := h'
  have HA := Hid.mk h3
  have HB := Hid.mk h3'
  clear h1 h2 h3 hs h1' h2' h3' hs' hsz
  go_enter Tryz.func65, Tryz.ntmps65
  go_upto_region 2 with (fail)
  obtain ⟨W, hW, hX, b0, b1⟩ := setup2 w #[.bool false, .slice none 0 0, .bool false, .slice none 0 0] #[.bool false, .slice none 0 0, .bool false, .slice none 0 0] 71 71
  rw [hW]
  clear hW
  have B0 := Hid.mk b0
  have B1 := Hid.mk b1
  have HXW := Hid.mk hX
  clear b0 b1 hX
  go_wp2_with fail
  go_loopw [6, 9] (fun t6 t9 wr => ∃ (i : Nat) (r : QV), i ≤ n ∧ t9 = .int .i64 i ∧ Blk wr w.heap.size 71 [.bool false, .slice none 0 0, .bool false, .slice none 0 0] ∧ Blk wr (w.heap.size + 1) 71 (qvc r) ∧ RatR wr r (sm i fun j => f j * e j) ∧ X w wr) (fun _ t _ => n - (intOf t).toNat)
  case atStart => exact ⟨0, ⟨false, none, 0, 0, false, none, 0, 0⟩, Nat.zero_le _, rfl, B0.out, B1.out, RatR.whole (IntR.zero W), HXW.out⟩
  case round =>
    clear B0 B1 HXW
    obtain ⟨i, r, hi, rfl, hb0, hb1, hr, hx⟩ := hrel
    have HR := Hid.mk hr
    have HX := Hid.mk hx
    have B0 := Hid.mk hb0
    have B1 := Hid.mk hb1
    clear hr hx
    by_cases hin : i < n
    · have hin' : (i : Int) < (n : Int) := by omega
      have him' : (i : Int) < (m : Int) := by omega
      obtain ⟨bA, oA, rfl, gg⟩ := HA.out (by omega)
      obtain ⟨a, c0, c1, c2, c3, ha⟩ := gg i hin
      obtain ⟨bB, oB, rfl, gg'⟩ := HB.out (by omega)
      obtain ⟨b, d0, d1, d2, d3, hb⟩ := gg' i (by omega)
      have hs3 := HSS.out i hin
      have hm3 := HM.out i hin
      obtain ⟨x, hxx⟩ : ∃ x, x = f i := ⟨_, rfl⟩
      obtain ⟨y, hyy⟩ : ∃ y, y = e i := ⟨_, rfl⟩
      obtain ⟨s, hss⟩ : ∃ s, s = sm i fun j => f j * e j := ⟨_, rfl⟩
      obtain ⟨q, hq⟩ : ∃ q, q = i * (k + l + 1) + 1 := ⟨_, rfl⟩
      rw [← hxx] at ha hm3
      rw [← hyy] at hb hm3
      rw [← hss] at HR hs3
      rw [← hq] at hs3
      have HNEXT : Hid (s + x * y = sm (i + 1) fun j => f j * e j) := by rw [sm_succ, hss, hxx, hyy]; exact Hid.mk rfl
      have HS3 := Hid.mk hs3
      have HM3 := Hid.mk hm3
      have HRA := Hid.mk ha
      have HRB := Hid.mk hb
      have HC := Hid.mk (fun w' (h : X w w') => (⟨h.cell c0, h.cell c1, h.cell c2, h.cell c3, h.cell d0, h.cell d1, h.cell d2, h.cell d3⟩ : w'.cell? ⟨bA, oA + i * 4, none⟩ = some (.bool a.s) ∧ w'.cell? ⟨bA, oA + i * 4 + 1, none⟩ = some (.slice a.A a.n a.c) ∧ w'.cell? ⟨bA, oA + i * 4 + 2, none⟩ = some (.bool a.t) ∧ w'.cell? ⟨bA, oA + i * 4 + 3, none⟩ = some (.slice a.B a.m a.d) ∧ w'.cell? ⟨bB, oB + i * 4, none⟩ = some (.bool b.s) ∧ w'.cell? ⟨bB, oB + i * 4 + 1, none⟩ = some (.slice b.A b.n b.c) ∧ w'.cell? ⟨bB, oB + i * 4 + 2, none⟩ = some (.bool b.t) ∧ w'.cell? ⟨bB, oB + i * 4 + 3, none⟩ = some (.slice b.B b.m b.d)))
      have hS := HC.out wr HX.out
      obtain ⟨sa, hsa⟩ : ∃ s, Int.sign x.num = s := ⟨_, rfl⟩
      obtain ⟨sb, hsb⟩ : ∃ s, Int.sign y.num = s := ⟨_, rfl⟩
      clear gg gg' ha hb hxx hyy hss hq hs3 hm3 c0 c1 c2 c3 d0 d1 d2 d3 hb0 hb1
      by_cases hx0 : x = 0
      · obtain rfl : sa = 0 := by rw [← hsa, hx0]; rfl
        have HSA := Hid.mk hsa
        clear hsa hsb
        go_wp2_with fail
        refine (rat_sign_at _ a x 0 (HRA.out.x HX.out) HSA.out).mono ?_
        rintro e1 w1 ⟨⟨v1, rfl, rfl⟩, hx1⟩
        have HX1 := Hid.mk (HX.out.trans hx1)
        have B01 := Hid.mk (B0.out.x hx1)
        have B11 := Hid.mk (B1.out.x hx1)
        have HR1 := Hid.mk (HR.out.x hx1)
        clear hx1
        go_wp2_with fail
        go_roundw
        case rel => exact ⟨i + 1, r, by omega, by go_num, B01.out, B11.out, by rw [← HNEXT.out, hx0, Rat.zero_mul, Rat.add_zero]; exact HR1.out, HX1.out⟩
        case measure => simp [intOf]; omega
      · have hsn : ¬ sa = 0 := by
          rw [← hsa, Int.sign_eq_zero_iff_zero]; exact fun h => hx0 (rat_num_zero.1 h)
        have hsnb : (sa != 0) = true := by rw [bne_iff_ne]; exact hsn
        clear hsn
        have HSA := Hid.mk hsa
        clear hsa
        by_cases hy0 : y = 0
        · obtain rfl : sb = 0 := by rw [← hsb, hy0]; rfl
          have HSB := Hid.mk hsb
          clear hsb
          go_wp2_with fail
          refine (rat_sign_at _ a x sa (HRA.out.x HX.out) HSA.out).mono ?_
          rintro e1 w1 ⟨⟨v1, rfl, rfl⟩, hx1⟩
          have HX1 := Hid.mk (HX.out.trans hx1)
          have hS1 := HC.out w1 HX1.out
          have B01 := Hid.mk (B0.out.x hx1)
          have B11 := Hid.mk (B1.out.x hx1)
          have HR1 := Hid.mk (HR.out.x hx1)
          clear hx1
          go_wp2_with fail
          refine (rat_sign_at _ b y 0 (HRB.out.x HX1.out) HSB.out).mono ?_
          rintro e2 w2 ⟨⟨v2, rfl, rfl⟩, hx2⟩
          have HX2 := Hid.mk (HX1.out.trans hx2)
          have B02 := Hid.mk (B01.out.x hx2)
          have B12 := Hid.mk (B11.out.x hx2)
          have HR2 := Hid.mk (HR1.out.x hx2)
          clear hx2
          go_wp2_with fail
          go_roundw
          case rel => exact ⟨i + 1, r, by omega, by go_num, B02.out, B12.out, by rw [← HNEXT.out, hy0, Rat.mul_zero, Rat.add_zero]; exact HR2.out, HX2.out⟩
          case measure => simp [intOf]; omega
        · have hsn2 : ¬ sb = 0 := by
            rw [← hsb, Int.sign_eq_zero_iff_zero]; exact fun h => hy0 (rat_num_zero.1 h)
          have hsnb2 : (sb != 0) = true := by rw [bne_iff_ne]; exact hsn2
          clear hsn2
          have HSB := Hid.mk hsb
          clear hsb
          go_wp2_with fail
          refine (rat_sign_at _ a x sa (HRA.out.x HX.out) HSA.out).mono ?_
          rintro e1 w1 ⟨⟨v1, rfl, rfl⟩, hx1⟩
          have HX1 := Hid.mk (HX.out.trans hx1)
          have hS1 := HC.out w1 HX1.out
          have B01 := Hid.mk (B0.out.x hx1)
          have B11 := Hid.mk (B1.out.x hx1)
          have HR1 := Hid.mk (HR.out.x hx1)
          clear hx1
          go_wp2_with fail
          refine (rat_sign_at _ b y sb (HRB.out.x HX1.out) HSB.out).mono ?_
          rintro e2 w2 ⟨⟨v2, rfl, rfl⟩, hx2⟩
          have HX2 := Hid.mk (HX1.out.trans hx2)
          have B02 := Hid.mk (B01.out.x hx2)
          have B12 := Hid.mk (B11.out.x hx2)
          have HR2 := Hid.mk (HR1.out.x hx2)
          clear hx2 hS hS1
          go_wp2_with fail
          have hXd : X w w2.drew := HX2.out.trans ⟨rfl, rfl, rfl, Nat.le_refl _, fun _ _ => rfl⟩
          have hb := B12.out.x (⟨rfl, rfl, rfl, Nat.le_refl _, fun _ _ => rfl⟩ : X w2 w2.drew)
          have hS0 : (fun w' : World => w'.cell? ⟨w.heap.size + 1, 0, none⟩ = some (.bool r.s) ∧ w'.cell? ⟨w.heap.size + 1, 1, none⟩ = some (.slice r.A r.n r.c) ∧ w'.cell? ⟨w.heap.size + 1, 2, none⟩ = some (.bool r.t) ∧ w'.cell? ⟨w.heap.size + 1, 3, none⟩ = some (.slice r.B r.m r.d) ∧ w'.cell? ⟨bA, oA + i * 4, none⟩ = some (.bool a.s) ∧ w'.cell? ⟨bA, oA + i * 4 + 1, none⟩ = some (.slice a.A a.n a.c) ∧ w'.cell? ⟨bA, oA + i * 4 + 2, none⟩ = some (.bool a.t) ∧ w'.cell? ⟨bA, oA + i * 4 + 3, none⟩ = some (.slice a.B a.m a.d) ∧ w'.cell? ⟨bB, oB + i * 4, none⟩ = some (.bool b.s) ∧ w'.cell? ⟨bB, oB + i * 4 + 1, none⟩ = some (.slice b.A b.n b.c) ∧ w'.cell? ⟨bB, oB + i * 4 + 2, none⟩ = some (.bool b.t) ∧ w'.cell? ⟨bB, oB + i * 4 + 3, none⟩ = some (.slice b.B b.m b.d)) w2.drew := ⟨hb.cell (j := 0) rfl, hb.cell (j := 1) rfl, hb.cell (j := 2) rfl, hb.cell (j := 3) rfl, HC.out _ hXd⟩
          refine AnyE.start (S := fun w' : World => w'.cell? ⟨w.heap.size + 1, 0, none⟩ = some (.bool r.s) ∧ w'.cell? ⟨w.heap.size + 1, 1, none⟩ = some (.slice r.A r.n r.c) ∧ w'.cell? ⟨w.heap.size + 1, 2, none⟩ = some (.bool r.t) ∧ w'.cell? ⟨w.heap.size + 1, 3, none⟩ = some (.slice r.B r.m r.d) ∧ w'.cell? ⟨bA, oA + i * 4, none⟩ = some (.bool a.s) ∧ w'.cell? ⟨bA, oA + i * 4 + 1, none⟩ = some (.slice a.A a.n a.c) ∧ w'.cell? ⟨bA, oA + i * 4 + 2, none⟩ = some (.bool a.t) ∧ w'.cell? ⟨bA, oA + i * 4 + 3, none⟩ = some (.slice a.B a.m a.d) ∧ w'.cell? ⟨bB, oB + i * 4, none⟩ = some (.bool b.s) ∧ w'.cell? ⟨bB, oB + i * 4 + 1, none⟩ = some (.slice b.A b.n b.c) ∧ w'.cell? ⟨bB, oB + i * 4 + 2, none⟩ = some (.bool b.t) ∧ w'.cell? ⟨bB, oB + i * 4 + 3, none⟩ = some (.slice b.B b.m b.d)) 11 (by kernel_rfl) ?_
          refine AnyE.take (i := 0) (v := ?_) rfl (by kernel_rfl) (by kernel_rfl) (fun _ _ _ h => h) (Or.inl ⟨by rfl, ?_⟩) hS0 ?_
          rotate_left
          · (intro w' hSw; (try dsimp only at hSw); go_simp; try with_reducible rfl)
          try simp only [Act.put, List.setIfInBounds_toArray, List.set_cons_zero, List.set_cons_succ]
          refine AnyE.take (i := 1) (v := ?_) rfl (by kernel_rfl) (by kernel_rfl) (fun _ _ _ h => h) (Or.inl ⟨by rfl, ?_⟩) hS0 ?_
          rotate_left
          · (intro w' hSw; (try dsimp only at hSw); go_simp; try with_reducible rfl)
          try simp only [Act.put, List.setIfInBounds_toArray, List.set_cons_zero, List.set_cons_succ]
          refine AnyE.take (i := 2) (v := ?_) rfl (by kernel_rfl) (by kernel_rfl) (fun _ _ _ h => h) (Or.inl ⟨by rfl, ?_⟩) hS0 ?_
          rotate_left
          · (intro w' hSw; (try dsimp only at hSw); go_simp; try with_reducible rfl)
          try simp only [Act.put, List.setIfInBounds_toArray, List.set_cons_zero, List.set_cons_succ]
          refine AnyE.take (i := 3) (v := ?_) rfl (by kernel_rfl) (by kernel_rfl) (fun _ _ _ h => h) (Or.inl ⟨by rfl, ?_⟩) hS0 ?_
          rotate_left
          · (intro w' hSw; (try dsimp only at hSw); go_simp; try with_reducible rfl)
          try simp only [Act.put, List.setIfInBounds_toArray, List.set_cons_zero, List.set_cons_succ]
          refine AnyE.take (i := 4) (v := ?_) rfl (by kernel_rfl) (by kernel_rfl) (fun _ _ _ h => h) (Or.inl ⟨by rfl, ?_⟩) hS0 ?_
          rotate_left
          · (intro w' hSw; (try dsimp only at hSw); go_simp; try with_reducible rfl)
          try simp only [Act.put, List.setIfInBounds_toArray, List.set_cons_zero, List.set_cons_succ]
          refine AnyE.take (i := 5) (v := ?_) rfl (by kernel_rfl) (by kernel_rfl) (fun _ _ _ h => h) (Or.inl ⟨by rfl, ?_⟩) hS0 ?_
          rotate_left
          · (intro w' hSw; (try dsimp only at hSw); go_simp; try with_reducible rfl)
          try simp only [Act.put, List.setIfInBounds_toArray, List.set_cons_zero, List.set_cons_succ]
          refine AnyE.take (i := 6) (v := ?_) rfl (by kernel_rfl) (by kernel_rfl) (fun _ _ _ h => h) (Or.inl ⟨by rfl, ?_⟩) hS0 ?_
          rotate_left
          · (intro w' hSw; (try dsimp only at hSw); go_simp; try with_reducible rfl)
          try simp only [Act.put, List.setIfInBounds_toArray, List.set_cons_zero, List.set_cons_succ]
          refine AnyE.take (i := 7) (v := ?_) rfl (by kernel_rfl) (by kernel_rfl) (fun _ _ _ h => h) (Or.inl ⟨by rfl, ?_⟩) hS0 ?_
          rotate_left
          · (intro w' hSw; (try dsimp only at hSw); go_simp; try with_reducible rfl)
          try simp only [Act.put, List.setIfInBounds_toArray, List.set_cons_zero, List.set_cons_succ]
          refine AnyE.take (i := 8) (v := ?_) rfl (by kernel_rfl) (by kernel_rfl) (fun _ _ _ h => h) (Or.inl ⟨by rfl, ?_⟩) hS0 ?_
          rotate_left
          · (intro w' hSw; (try dsimp only at hSw); go_simp; try with_reducible rfl)
          try simp only [Act.put, List.setIfInBounds_toArray, List.set_cons_zero, List.set_cons_succ]
          refine AnyE.one (i := 9) rfl (by kernel_rfl) fun K' hK => ?_
          go_simp
          go_at_call 48
          refine (rat_mul _ a b x y (HRA.out.x hXd) (HRB.out.x hXd) k l HM3.out.1 HM3.out.2.1 HM3.out.2.2).mono ?_
          rintro e3 w3 ⟨⟨v3, rfl, r3, rfl, hr3⟩, hx3⟩
          have hX3 := hXd.trans hx3
          have hb3 := hb.x hx3
          have hS1 : (fun w' : World => w'.cell? ⟨w.heap.size + 1, 0, none⟩ = some (.bool r.s) ∧ w'.cell? ⟨w.heap.size + 1, 1, none⟩ = some (.slice r.A r.n r.c) ∧ w'.cell? ⟨w.heap.size + 1, 2, none⟩ = some (.bool r.t) ∧ w'.cell? ⟨w.heap.size + 1, 3, none⟩ = some (.slice r.B r.m r.d) ∧ w'.cell? ⟨bA, oA + i * 4, none⟩ = some (.bool a.s) ∧ w'.cell? ⟨bA, oA + i * 4 + 1, none⟩ = some (.slice a.A a.n a.c) ∧ w'.cell? ⟨bA, oA + i * 4 + 2, none⟩ = some (.bool a.t) ∧ w'.cell? ⟨bA, oA + i * 4 + 3, none⟩ = some (.slice a.B a.m a.d) ∧ w'.cell? ⟨bB, oB + i * 4, none⟩ = some (.bool b.s) ∧ w'.cell? ⟨bB, oB + i * 4 + 1, none⟩ = some (.slice b.A b.n b.c) ∧ w'.cell? ⟨bB, oB + i * 4 + 2, none⟩ = some (.bool b.t) ∧ w'.cell? ⟨bB, oB + i * 4 + 3, none⟩ = some (.slice b.B b.m b.d)) w3 := ⟨hb3.cell (j := 0) rfl, hb3.cell (j := 1) rfl, hb3.cell (j := 2) rfl, hb3.cell (j := 3) rfl, HC.out _ hX3⟩
          refine hK.out _ _ (Or.inr hS1) ?_
          try simp only [Act.put, List.setIfInBounds_toArray, List.set_cons_zero, List.set_cons_succ]
          clear hK hS0
          refine AnyE.one (i := 10) rfl (by kernel_rfl) fun K' hK => ?_
          go_simp
          go_at_call 98
          refine (rat_add _ r r3 s (x * y) ((HR2.out.x (⟨rfl, rfl, rfl, Nat.le_refl _, fun _ _ => rfl⟩ : X w2 w2.drew)).x hx3) hr3 q (k + l) HS3.out.1 (HM3.out.1.mul HM3.out.2.1) HS3.out.2).mono ?_
          rintro e4 w4 ⟨⟨v4, rfl, r4, rfl, hr4⟩, hx4⟩
          have hX4 := hX3.trans hx4
          have hb4 := hb3.x hx4
          have hS2 : (fun w' : World => w'.cell? ⟨w.heap.size + 1, 0, none⟩ = some (.bool r.s) ∧ w'.cell? ⟨w.heap.size + 1, 1, none⟩ = some (.slice r.A r.n r.c) ∧ w'.cell? ⟨w.heap.size + 1, 2, none⟩ = some (.bool r.t) ∧ w'.cell? ⟨w.heap.size + 1, 3, none⟩ = some (.slice r.B r.m r.d) ∧ w'.cell? ⟨bA, oA + i * 4, none⟩ = some (.bool a.s) ∧ w'.cell? ⟨bA, oA + i * 4 + 1, none⟩ = some (.slice a.A a.n a.c) ∧ w'.cell? ⟨bA, oA + i * 4 + 2, none⟩ = some (.bool a.t) ∧ w'.cell? ⟨bA, oA + i * 4 + 3, none⟩ = some (.slice a.B a.m a.d) ∧ w'.cell? ⟨bB, oB + i * 4, none⟩ = some (.bool b.s) ∧ w'.cell? ⟨bB, oB + i * 4 + 1, none⟩ = some (.slice b.A b.n b.c) ∧ w'.cell? ⟨bB, oB + i * 4 + 2, none⟩ = some (.bool b.t) ∧ w'.cell? ⟨bB, oB + i * 4 + 3, none⟩ = some (.slice b.B b.m b.d)) w4 := ⟨hb4.cell (j := 0) rfl, hb4.cell (j := 1) rfl, hb4.cell (j := 2) rfl, hb4.cell (j := 3) rfl, HC.out _ hX4⟩
          refine hK.out _ _ (Or.inr hS2) ?_
          try simp only [Act.put, List.setIfInBounds_toArray, List.set_cons_zero, List.set_cons_succ]
          clear hK hS1
          have k0 := hb4.cell (j := 0) rfl; have k1 := hb4.cell (j := 1) rfl; have k2 := hb4.cell (j := 2) rfl; have k3 := hb4.cell (j := 3) rfl; have f0 := hb4.frozen 0; have f1 := hb4.frozen 1; have f2 := hb4.frozen 2; have f3 := hb4.frozen 3
          have hb0 := ((B02.out.x (⟨rfl, rfl, rfl, Nat.le_refl _, fun _ _ => rfl⟩ : X w2 w2.drew)).x hx3).x hx4
          have HB0 := Hid.mk (hb0.q4o (k := w.heap.size + 1) (by omega) r4)
          have HB1 := Hid.mk (hb4.put4 r4)
          have HR4 := Hid.mk (hr4.put4 hb4 r4)
          have HX4 := Hid.mk (hX4.put4 (g := w.heap.size + 1) (by omega) r4)
          clear hb hb3 hb4 hb0 hr3 hr4 hx3 hx4 hX3 hX4 hXd hS2 B02 B12 HR2 HX2 HC HR B0 B1
          refine AnyE.one (i := 11) rfl (by kernel_rfl) fun K'' hK2 => ?_
          go_simp
          refine hK2.out _ _ (Or.inl (Nat.le_refl _)) (AnyE.done (by kernel_rfl) ?_ _)
          try simp only [Act.put, List.setIfInBounds_toArray, List.set_cons_zero, List.set_cons_succ]
          clear hK2
          go_wp2_with fail
          go_roundw
          case rel => exact ⟨i + 1, r4, by omega, by go_num, HB0.out, HB1.out, by rw [← HNEXT.out]; exact HR4.out, HX4.out⟩
          case measure => simp [intOf]; omega
    · obtain rfl : i = n := by omega
      have hin' : ¬ (i : Int) < (i : Int) := by omega
      have p2 := B0.out
      have p3 := B1.out
      have c0 := p3.cell (j := 0) rfl; have c1 := p3.cell (j := 1) rfl; have c2 := p3.cell (j := 2) rfl; have c3 := p3.cell (j := 3) rfl
      have k0 := p2.cell (j := 0) rfl; have k1 := p2.cell (j := 1) rfl; have k2 := p2.cell (j := 2) rfl; have k3 := p2.cell (j := 3) rfl; have f0 := p2.frozen 0; have f1 := p2.frozen 1; have f2 := p2.frozen 2; have f3 := p2.frozen 3
      have K := four_cells p2 (.bool r.s) (.slice r.A r.n r.c) (.bool r.t) (.slice r.B r.m r.d)
      have HRF := Hid.mk (HR.out.put4 p2 r)
      have HXF := Hid.mk (HX.out.put4 (g := w.heap.size) (Nat.le_refl _) r)
      clear hb0 hb1 p2 p3 hin hi
      go_wp2_with fail
      exact bodyPost_ret (v := r.v) (by simp [results, Tryz.results65, go_sem, K.1, K.2.1, K.2.2.1, K.2.2.2]) rfl ⟨⟨_, rfl, r, rfl, HRF.out⟩, HXF.out⟩
end Go.Proofs.YtogakaiibijjpaaGreatDoor

/- Plain laws of elimination, further: identity, one column more, twice as many columns. -/
set_option linter.unusedVariables false
set_option linter.unusedSimpArgs false
namespace Go.Proofs.YtogakaiibijjpaaGreatDoor
open DLin

theorem ap_one {n : Nat} (v : Nat → Rat) {i : Nat} (hi : i < n) : ap n one v i = v i := by
  unfold ap
  rw [sm_one (k := i) hi (fun j hj hne => by
    have : ¬ i = j := fun h => hne h.symm
    simp [one, this])]
  simp [one]

/-- One column more. -/
theorem next_none {m n : Nat} {W : Mat} (h : ∀ i, (steps m W n).piv.length ≤ i → i < m → (steps m W n).M i n = 0) : steps m W (n + 1) = steps m W n := by
  have hf := findRow_none_of (M := (steps m W n).M) (k := n) (d := m - (steps m W n).piv.length) (i := (steps m W n).piv.length) (fun t h1 h2 => h t h1 (by omega))
  exact step_none hf
theorem next_some {m n : Nat} {W : Mat} (h : ¬ ∀ i, (steps m W n).piv.length ≤ i → i < m → (steps m W n).M i n = 0) : n ∈ (steps m W (n + 1)).piv := by
  show n ∈ (DLin.step m (steps m W n) n).piv
  cases hf : findRow (steps m W n).M n (m - (steps m W n).piv.length) (steps m W n).piv.length with
  | none =>
    have h2 := (inv_steps m W n).len
    exact absurd (fun i h1 h3 => findRow_none hf i h1 (by omega)) h
  | some i =>
    rw [step_some hf]
    simp
theorem piv_lt {m n : Nat} {W : Mat} : ∀ x ∈ (steps m W n).piv, x < n := fun x hx => by
  obtain ⟨t, ht, e⟩ := mem_iff_getD.1 hx
  rw [← e]; exact (inv_steps m W n).lt t ht

/-- More columns: the pivots go on. -/
theorem piv_more {m : Nat} {W : Mat} (n : Nat) : ∀ d : Nat, ∃ L : List Nat, (steps m W (n + d)).piv = (steps m W n).piv ++ L ∧ ∀ x ∈ L, n ≤ x
  | 0 => ⟨[], by simp, by simp⟩
  | d + 1 => by
    obtain ⟨L, h1, h2⟩ := piv_more n d
    show ∃ L, (DLin.step m (steps m W (n + d)) (n + d)).piv = _ ∧ ∀ x ∈ L, n ≤ x
    cases hf : findRow (steps m W (n + d)).M (n + d) (m - (steps m W (n + d)).piv.length) (steps m W (n + d)).piv.length with
    | none => rw [step_none hf]; exact ⟨L, h1, h2⟩
    | some i =>
      rw [step_some hf]
      refine ⟨L ++ [n + d], by show (steps m W (n + d)).piv ++ [n + d] = _; rw [h1, List.append_assoc], fun x hx => ?_⟩
      rw [List.mem_append] at hx
      rcases hx with hx | hx
      · exact h2 x hx
      · simp at hx; omega

theorem inverse_no {n d : Nat} {W : Mat} (h : (steps n W n).piv.length < n) : ¬ ∀ i, i < n → i < (steps n W (n + d)).piv.length ∧ (steps n W (n + d)).piv.getD i 0 = i := fun hh => by
  obtain ⟨L, h1, h2⟩ := piv_more (m := n) (W := W) n d
  obtain ⟨h3, h4⟩ := hh (steps n W n).piv.length h
  rw [h1] at h3 h4
  rw [List.length_append] at h3
  have hl : 0 < L.length := by omega
  have h5 : L.getD 0 0 ∈ L := by
    rw [List.getD_eq_getElem?_getD, List.getElem?_eq_getElem hl]
    exact List.getElem_mem hl
  have h6 := h2 _ h5
  have h7 : ((steps n W n).piv ++ L).getD (steps n W n).piv.length 0 = L.getD 0 0 := by
    rw [List.getD_eq_getElem?_getD, List.getElem?_append_right (Nat.le_refl _), Nat.sub_self, List.getD_eq_getElem?_getD]
  rw [h7] at h4
  omega
theorem inverse_yes {n d : Nat} {W : Mat} (h : (steps n W n).piv.length = n) : steps n W (n + d) = steps n W n ∧ ∀ i, i < n → (steps n W n).piv.getD i 0 = i :=
  ⟨steps_full h d, fun i hi => by
    have hI := inv_steps n W n
    exact piv_full h (fun t ht => hI.lt t ht) (fun t u h1 h2 => hI.inc t u h1 h2) i hi⟩
end Go.Proofs.YtogakaiibijjpaaGreatDoor

/- Package matrix: Size, Identity, Apply. -/
set_option linter.unusedVariables false
set_option linter.unusedSimpArgs false
namespace Go.Proofs.YtogakaiibijjpaaGreatDoor
open Go.RowKit
open DDig DLin

set_option maxRecDepth 100000 in
set_option maxHeartbeats 2000000 in
theorem mat_Size (w : World) (v : Value) (m c : Nat) (M : Mat) (h : MatQ w v m c M) (hm : m ≤ 256) (hc : c ≤ 96) (k : Nat) (hk : k = if m = 0 then 0 else c) :
    Calls Tryz.prog 23 #[v] w (Ret w fun _ v' => v' = .tuple #[.int .i64 m, .int .i64 k, .int .i64 0]) := by
  have H := Hid.mk h
  obtain ⟨A0, c0, rfl, p1, p2, p3⟩ := id h
  have HK := Hid.mk hk
  clear h p1 p2 p3 hk
  go_enter Tryz.func23, Tryz.ntmps23
  go_wp2_with fail
  refine (mat_size _ _ m c M H.out hm hc).mono ?_
  rintro e w1 ⟨⟨v1, rfl, rfl⟩, hx1⟩
  have HX := Hid.mk hx1
  clear hx1
  go_wp2_with fail
  refine (mat_columns _ _ m c M (H.out.x HX.out) (by omega) k HK.out).mono ?_
  rintro e w2 ⟨⟨v2, rfl, rfl⟩, hx2⟩
  have HX2 := Hid.mk (HX.out.trans hx2)
  clear hx2
  go_wp2_with fail
  refine bodyPost_ret (v := .tuple #[.int .i64 m, .int .i64 k, .int .i64 0]) (by simp [results, Tryz.results23, go_sem]) rfl ⟨⟨_, rfl, rfl⟩, HX2.out⟩

theorem one_row (n f j : Nat) : (if j = f then (1 : Rat) else 0) = one f j := by
  unfold one
  by_cases h : j = f
  · rw [if_pos h, if_pos h.symm]
  · rw [if_neg h, if_neg (fun e => h e.symm)]

set_option maxRecDepth 100000 in
set_option maxHeartbeats 4000000 in
theorem mat_identity (w : World) (n : Nat) (hn : n ≤ 96) :
    Calls Tryz.prog 22 #[.int .i64 n] w (Ret w fun w' v' => ∃ R, v' = .tuple #[R, .int .i64 0] ∧ MatQ w' R n n one) := by
  have hn1 : ¬ (n : Int) < 0 := by omega
  have hn2 : ¬ (96 : Int) < (n : Int) := by omega
  go_enter Tryz.func22, Tryz.ntmps22
  go_wp2_with fail
  go_loopw [4, 14] (fun tO tI wr => ∃ (f : Nat) (us : List Value), f ≤ n ∧ tI = .int .i64 f ∧ OwnC IsSl wr w.heap.size 49 1 tO f us ∧ us.length = f ∧ (∀ i u, us[i]? = some u → SlQ wr u n (one i)) ∧ X w wr) (fun _ t _ => n - (intOf t).toNat)
  case atStart => exact ⟨0, [], Nat.zero_le _, rfl, OwnC.nil _ _ _ _ _, rfl, by simp, X.refl _⟩
  case round =>
    obtain ⟨f, us, hf, rfl, ho, hl, hu, hx⟩ := hrel
    have HO := Hid.mk ho
    have HU := Hid.mk hu
    have HX4 := Hid.mk hx
    clear ho hu hx
    by_cases hfn : f < n
    · have hfn' : (f : Int) < (n : Int) := by omega
      go_wp2_with (at_make; refine make_blkz _ rfl _ _ 49 rfl 71 (.agg #[.bool false, .slice none 0 0, .bool false, .slice none 0 0]) 4 64 Tryz.underlying49 info_Q rfl .i64 .i64 _ _ n rfl rfl rfl rfl (by omega) (by omega) ?_; intro w6 cs hb1 hb2 hb3 hb4 hx6; have HF := Hid.mk (Fil.zero hb1 hb2 hb3 hb4); have HX6 := Hid.mk hx6; clear hb1 hb2 hb3 hb4 hx6)
      refine (rat_from _ 1 (by omega) (by omega)).mono ?_
      rintro e w7 ⟨⟨v7, rfl, r, rfl, hr⟩, hx7⟩
      have F1 := HF.out.x hx7
      replace HX6 := Hid.mk (HX6.out.trans hx7)
      obtain ⟨v0, v1', v2, v3, k0, k1, k2, k3, f0, f1, f2, f3⟩ := F1.cells hfn
      have HRow : Hid (SlQ (put4at w7 wr.heap.size (f * 4) r) (.slice (some ⟨wr.heap.size, 0, none⟩) n n) n (one f)) := ⟨_, n, rfl, Nat.le_refl _, by simp, ((F1.upd hfn hr).congr (fun j hj => one_row n f j)).row⟩
      have hx8 := HX6.out.put4at (g := wr.heap.size) (Nat.le_refl _) (f * 4) r
      have HO2 : Hid (OwnC IsSl (put4at w7 wr.heap.size (f * 4) r) w.heap.size 49 1 u4 f us) := HO.out.x hx8
      have HU2 : Hid (∀ i u, us[i]? = some u → SlQ (put4at w7 wr.heap.size (f * 4) r) u n (one i)) := fun i u hi => (HU.out i u hi).x hx8
      have HX8 : Hid (X w (put4at w7 wr.heap.size (f * 4) r)) := HX4.out.trans hx8
      obtain ⟨g, hg⟩ : ∃ g, g = wr.heap.size := ⟨_, rfl⟩
      rw [← hg] at HRow HO2 HU2 HX8 k0 k1 k2 k3 f0 f1 f2 f3 ⊢
      have hlb : (f + 1) * 24 ≤ 140737488355328 := by omega
      clear F1 hr hx7 HF hg hx8 HX6
      go_upto_region 9 with (fail)
      obtain ⟨W, hW⟩ : ∃ W, W = put4at w7 g (f * 4) r := ⟨_, rfl⟩
      rw [← hW] at HRow HO2 HU2 HX8
      unfold put4at at hW
      rw [← hW]
      clear hW k0 k1 k2 k3 f0 f1 f2 f3
      go_wp2_with (at_builtin; refine append_oneC IsSl w _ rfl _ _ 29 rfl 49 (.slice none 0 0) 1 24 Tryz.underlying29 info_sQ rfl (by omega) (fun u hu => ⟨none, 0, 0, by simpa [Value.cells] using hu⟩) _ _ _ rfl HO2.out _ _ _ rfl rfl (by simp [Value.oneCell']) (fun u hu => ⟨_, _, _, by simpa using hu⟩) (by omega) (by omega) HX8.out ?_; intro v9 w9 ho9 hx9 hk9; have HO9 := Hid.mk ho9; have HXa := Hid.mk hx9; have HU9 := Hid.mk (fun i u hi => (HU2.out i u hi).kApp HO2.out hk9); have HR9 := Hid.mk (HRow.out.kApp HO2.out hk9); clear ho9 hx9 hk9)
      go_roundw
      case rel =>
        refine ⟨f + 1, us ++ [.slice (some ⟨g, 0, none⟩) n n], by omega, by go_num, HO9.out, by simp [hl], fun j a hj => ?_, HXa.out⟩
        by_cases e : j = f
        · subst e
          rw [List.getElem?_append_right (by omega), hl] at hj
          simp at hj
          subst hj
          exact HR9.out
        · have hil : j < us.length := by
            have := (List.getElem?_eq_some_iff.1 hj).1
            simp at this
            omega
          rw [List.getElem?_append_left hil] at hj
          exact HU9.out j a hj
      case measure => simp [intOf]; omega
    · obtain rfl : f = n := by omega
      have HF := Hid.mk (SlM.own (S := SlQ) (M := one) (c := f) HO.out.1 hl HU.out)
      have hfn' : ¬ (f : Int) < (f : Int) := by omega
      clear hfn hf
      go_wp2_with fail
      refine bodyPost_ret (v := .tuple #[u4, .int .i64 0]) (by simp [results, Tryz.results22, go_sem]) rfl ⟨⟨_, rfl, u4, rfl, HF.out⟩, HX4.out⟩

set_option maxRecDepth 100000 in
set_option maxHeartbeats 2000000 in
theorem mat_identity_range (w : World) (n : Int) (hn : n < 0 ∨ 96 < n) :
    Calls Tryz.prog 22 #[.int .i64 n] w (Ret w fun w' v' => v' = .tuple #[.slice none 0 0, .int .i64 2]) := by
  rcases hn with hn | hn
  · go_enter Tryz.func22, Tryz.ntmps22
    go_wp2_with fail
    go_ret2
    exact ⟨⟨_, rfl, rfl⟩, X.refl _⟩
  · have hn2 : ¬ n < 0 := by omega
    go_enter Tryz.func22, Tryz.ntmps22
    go_wp2_with fail
    go_ret2
    exact ⟨⟨_, rfl, rfl⟩, X.refl _⟩

set_option maxRecDepth 100000 in
set_option maxHeartbeats 4000000 in
theorem mat_apply (w : World) (v u : Value) (m c l : Nat) (M : Mat) (f : Nat → Rat) (h : MatQ w v m c M) (h' : SlQ w u l f) (hm : m ≤ 256) (hc : c ≤ 96) (hl : m = 0 ∨ c = l) (hl2 : l ≤ 1000000) (k j : Nat) (hs : TSz M m c k) (hs' : ∀ i, i < l → RSz (f i) j) (hsz : c * (k + j + 1) + 1 ≤ 549755813888) :
    Calls Tryz.prog 26 #[v, u] w (Ret w fun w' v' => ∃ R, v' = .tuple #[R, .int .i64 0] ∧ SlQ w' R m (ap c M f)) := by
  have H := Hid.mk h
  have H' := Hid.mk h'
  have HS := Hid.mk hs
  have HS' := Hid.mk hs'
  obtain ⟨A0, c0, rfl, p1, p2, p3⟩ := id h
  obtain ⟨B0, d0, rfl, -, -, -⟩ := id h'
  have HA := Hid.mk p3
  clear h p1 p2 p3 h' hs hs'
  go_enter Tryz.func26, Tryz.ntmps26
  go_wp2_with fail
  refine (mat_size _ _ m c M H.out hm hc).mono ?_
  rintro e w1 ⟨⟨v1, rfl, rfl⟩, hx1⟩
  have HX := Hid.mk hx1
  clear hx1
  go_upto_region 4 with (fail)
  go_cut [24] (fun t wc => t = .bool false ∧ X w wc)
  case first =>
    by_cases h0 : 0 < m
    · have h0' : (0 : Int) < (m : Int) := by omega
      obtain rfl : c = l := by omega
      have hnn : ((c : Int) != (c : Int)) = false := by simp
      go_wp2_with fail
      refine (mat_columns _ _ m c M (H.out.x HX.out) (by omega) c (by rw [if_neg (by omega)])).mono ?_
      rintro e w2 ⟨⟨v2, rfl, rfl⟩, hx2⟩
      have HX2 := Hid.mk (HX.out.trans hx2)
      clear hx2
      go_wp2_with fail
      go_meet
      exact ⟨rfl, HX2.out⟩
    · have h0' : ¬ (0 : Int) < (m : Int) := by omega
      go_wp2_with fail
      go_meet
      exact ⟨rfl, HX.out⟩
  case rest =>
    obtain ⟨rfl, hx1⟩ := hcut
    replace HX := Hid.mk hx1
    clear hx1
    go_wp2_with fail
    go_loopw [7, 27] (fun tO tI wr => ∃ (i : Nat) (qs : List QV), i ≤ m ∧ tI = .int .i64 i ∧ OwnC NI wr w.heap.size 71 4 tO i (qcs qs) ∧ qs.length = i ∧ (∀ j a, qs[j]? = some a → RatR wr a (ap c M f j)) ∧ X w wr) (fun _ t _ => m - (intOf t).toNat)
    case atStart => exact ⟨0, [], Nat.zero_le _, rfl, OwnC.nil _ _ _ _ _, rfl, by simp, HX.out⟩
    case round =>
      clear HX
      obtain ⟨i, qs, hi, rfl, ho, hql, hq, hx⟩ := hrel
      have HO := Hid.mk ho
      have HQ := Hid.mk hq
      have HX := Hid.mk hx
      clear ho hq hx
      by_cases him : i < m
      · have him' : (i : Int) < (m : Int) := by omega
        obtain ⟨b, o, rfl, gg⟩ := HA.out (by omega)
        obtain ⟨x, c1, hx⟩ := gg i him
        obtain ⟨B1, d1, rfl, -, -, -⟩ := id hx
        replace c1 := HX.out.cell c1
        have HRx := Hid.mk (hx.x HX.out)
        have hcl : c ≤ l := by omega
        clear gg hx
        go_wp2_with fail
        refine (mat_dot _ _ _ c l (M i) f HRx.out (H'.out.x HX.out) hcl k j (HS.out i him) (fun t ht => HS'.out t (by omega)) hsz).mono ?_
        rintro e w2 ⟨⟨v2, rfl, r, rfl, hr⟩, hx2⟩
        replace HX := Hid.mk (HX.out.trans hx2)
        replace HO := Hid.mk (HO.out.x hx2)
        replace HQ := Hid.mk (fun j a hj => (HQ.out j a hj).x hx2)
        have HR := Hid.mk hr
        have hib : (i + 1) * 64 ≤ 140737488355328 := by omega
        clear hx2 hr c1
        go_wp2_with (at_builtin; refine append_oneC NI w _ rfl _ _ 49 rfl 71 (.agg #[.bool false, .slice none 0 0, .bool false, .slice none 0 0]) 4 64 Tryz.underlying49 info_Q rfl (by omega) ni_zero _ _ _ rfl HO.out _ _ _ rfl rfl (by simp [Value.oneCell']) (ni_qvc r) (by omega) (by omega) HX.out ?_; intro v2 w2 ho2 hx2 hk2; have HO2 := Hid.mk ho2; have HX2 := Hid.mk hx2; have hkp := HO.out.kp hk2; have HQ2 := Hid.mk (fun j a hj => (HQ.out j a hj).kp hkp (fun x => nni _ x)); have HR2 := Hid.mk (HR.out.kp hkp (fun x => nni _ x)); clear ho2 hx2 hk2 hkp)
        go_roundw
        case rel =>
          refine ⟨i + 1, qs ++ [r], by omega, by go_num, by rw [qcs_snoc]; exact HO2.out, by simp [hql], fun j a hj => ?_, HX2.out⟩
          by_cases e : j = i
          · subst e
            rw [List.getElem?_append_right (by omega), hql] at hj
            simp at hj
            subst hj
            exact HR2.out
          · have hil : j < qs.length := by
              have := (List.getElem?_eq_some_iff.1 hj).1
              simp at this
              omega
            rw [List.getElem?_append_left hil] at hj
            exact HQ2.out j a hj
        case measure => simp [intOf]; omega
      · obtain rfl : i = m := by omega
        have HF := Hid.mk (SlQ.own HO.out.1 hql HQ.out)
        have hin' : ¬ (i : Int) < (i : Int) := by omega
        clear him hi
        go_wp2_with fail
        refine bodyPost_ret (v := .tuple #[u7, .int .i64 0]) (by simp [results, Tryz.results26, go_sem]) rfl ⟨⟨_, rfl, u7, rfl, HF.out⟩, HX.out⟩
end Go.Proofs.YtogakaiibijjpaaGreatDoor

/- Package matrix: transposed, Transpose, Mul. -/
set_option linter.unusedVariables false
set_option linter.unusedSimpArgs false
namespace Go.Proofs.YtogakaiibijjpaaGreatDoor
open Go.RowKit
open DDig DLin

theorem MatQ.wide {w : World} {v : Value} {m c : Nat} {M : Nat → Nat → Rat} (h : MatQ w v m c M) (h0 : m = 0) (d : Nat) (N : Nat → Nat → Rat) : MatQ w v m d N := by
  subst h0
  obtain ⟨A, k, rfl, h1, h2, h3⟩ := h
  exact ⟨A, k, rfl, h1, h2, fun h => absurd h (by omega)⟩

theorem MatQ.rows {w : World} {A : Option Addr} {m c k : Nat} {M : Nat → Nat → Rat} (h : MatQ w (.slice A m k) m c M) (h0 : 0 < m) :
    ∃ b o, A = some ⟨b, o, none⟩ ∧ ∀ i, i < m → ∃ u, w.cell? ⟨b, o + i, none⟩ = some u ∧ SlQ w u c (M i) := by
  obtain ⟨A', k', e, h1, h2, h3⟩ := h
  injection e with e1 e2 e3
  subst e1
  exact h3 h0
theorem MatQ.cap {w : World} {A : Option Addr} {m c k : Nat} {M : Nat → Nat → Rat} (h : MatQ w (.slice A m k) m c M) : m ≤ k ∧ (A = none → m = 0 ∧ k = 0) := by
  obtain ⟨A', k', e, h1, h2, h3⟩ := h
  injection e with e1 e2 e3
  subst e1
  subst e3
  exact ⟨h1, h2⟩

/-- A further row in a list of rows. -/
theorem rows_snoc {S : World → Value → Nat → (Nat → Rat) → Prop} {w : World} {us : List Value} {f n : Nat} {R : Nat → Nat → Rat} {x : Value} (hl : us.length = f) (hu : ∀ i u, us[i]? = some u → S w u n (R i)) (hx : S w x n (R f)) :
    ∀ i u, (us ++ [x])[i]? = some u → S w u n (R i) := fun j a hj => by
  by_cases e : j = f
  · subst e
    rw [List.getElem?_append_right (by omega), hl] at hj
    simp at hj
    subst hj
    exact hx
  · have hil : j < us.length := by
      have := (List.getElem?_eq_some_iff.1 hj).1
      simp at this
      omega
    rw [List.getElem?_append_left hil] at hj
    exact hu j a hj

set_option maxRecDepth 100000 in
set_option maxHeartbeats 4000000 in
theorem mat_transposed (w : World) (v : Value) (m c : Nat) (M : Mat) (h : MatQ w v m c M) (hm : m ≤ 1000) (hc : c ≤ 1000) (d : Nat) (hd : d = if m = 0 then 0 else c) :
    Calls Tryz.prog 74 #[v] w (Ret w fun w' v' => MatQ w' v' d m (transposed M)) := by
  have H := Hid.mk h
  have HD := Hid.mk hd
  obtain ⟨A0, c0, rfl, p1, p2, p3⟩ := id h
  clear h p1 p2 p3
  go_enter Tryz.func74, Tryz.ntmps74
  go_wp2_with fail
  refine (mat_columns _ _ m c M H.out (by omega) d HD.out).mono ?_
  rintro e w1 ⟨⟨v1, rfl, rfl⟩, hx1⟩
  have HX := Hid.mk hx1
  have hdc : d ≤ c := by have := HD.out; split at this <;> omega
  clear hx1 hd
  go_wp2_with fail
  go_loopw [3, 9] (fun tO tK wr => ∃ (k : Nat) (us : List Value), k ≤ d ∧ tK = .int .i64 k ∧ OwnC IsSl wr w.heap.size 49 1 tO k us ∧ us.length = k ∧ (∀ j u, us[j]? = some u → SlQ wr u m (transposed M j)) ∧ X w wr) (fun _ t _ => d - (intOf t).toNat)
  case atStart => exact ⟨0, [], Nat.zero_le _, rfl, OwnC.nil _ _ _ _ _, rfl, by simp, HX.out⟩
  case round =>
    clear HX
    obtain ⟨k, us, hk, rfl, ho, hl, hu, hx⟩ := hrel
    have HO := Hid.mk ho
    have HU := Hid.mk hu
    have HX := Hid.mk hx
    clear ho hu hx
    by_cases hkd : k < d
    · have hkd' : (k : Int) < (d : Int) := by omega
      have hm0 : 0 < m := by
        have := HD.out
        split at this <;> omega
      have hkc : k < c := by omega
      go_wp2_with (at_make; refine make_blkz _ rfl _ _ 49 rfl 71 (.agg #[.bool false, .slice none 0 0, .bool false, .slice none 0 0]) 4 64 Tryz.underlying49 info_Q rfl .i64 .i64 _ _ m rfl rfl rfl rfl (by omega) (by omega) ?_; intro w6 cs hb1 hb2 hb3 hb4 hx6; have HF := Hid.mk (Fil.start (transposed M k) hb1 hb2 hb4); have HX6 := Hid.mk hx6; clear hb1 hb2 hb3 hb4 hx6)
      obtain ⟨g, hg⟩ : ∃ g, g = wr.heap.size := ⟨_, rfl⟩
      rw [← hg] at HF ⊢
      have HG := Hid.mk hg
      clear hg
      go_loopw [17] (fun tI w5 => ∃ i : Nat, i ≤ m ∧ tI = .int .i64 i ∧ Fil w5 g m i (transposed M k) ∧ X wr w5) (fun t _ => m - (intOf t).toNat)
      case atStart => exact ⟨0, Nat.zero_le _, rfl, HF.out, HX6.out⟩
      case round =>
        clear HF HX6
        obtain ⟨i, hi, rfl, hF, hx⟩ := hrel
        have HF := Hid.mk hF
        have HX5 := Hid.mk hx
        clear hF hx
        by_cases him : i < m
        · have him' : (i : Int) < (m : Int) := by omega
          have hkc' : (k : Int) < (c : Int) := by omega
          obtain ⟨b1, o1, d1, b2, o2, a, rfl, c1, e0, e1, e2, e3, ha⟩ := (H.out.x (HX.out.trans HX5.out)).elem him hkc
          obtain ⟨v0, v1', v2, v3, k0, k1, k2, k3, f0, f1, f2, f3⟩ := HF.out.cells him
          have HF3 := Hid.mk (HF.out.put him (r := a) ha)
          have HX8 := Hid.mk (HX5.out.put4at (g := g) (by rw [HG.out]; exact Nat.le_refl _) (i * 4) a)
          clear ha HF
          go_wp2_with fail
          go_roundw
          case rel => exact ⟨i + 1, by omega, by go_num, HF3.out, HX8.out⟩
          case measure => simp [intOf]; omega
        · obtain rfl : i = m := by omega
          have him' : ¬ (i : Int) < (i : Int) := by omega
          have HRow : Hid (SlQ wr (.slice (some ⟨g, 0, none⟩) i i) i (transposed M k)) := ⟨_, i, rfl, Nat.le_refl _, by simp, HF.out.row⟩
          have HO2 := Hid.mk (HO.out.x HX5.out)
          have HU2 := Hid.mk (fun t u ht => (HU.out t u ht).x HX5.out)
          have HX9 := Hid.mk (HX.out.trans HX5.out)
          have hlb : (k + 1) * 24 ≤ 140737488355328 := by omega
          clear him hi HF HX5 HO HU HX
          go_wp2_with (at_builtin; refine append_oneC IsSl w _ rfl _ _ 29 rfl 49 (.slice none 0 0) 1 24 Tryz.underlying29 info_sQ rfl (by omega) (fun u hu => ⟨none, 0, 0, by simpa [Value.cells] using hu⟩) _ _ _ rfl HO2.out _ _ _ rfl rfl (by simp [Value.oneCell']) (fun u hu => ⟨_, _, _, by simpa using hu⟩) (by omega) (by omega) HX9.out ?_; intro v9 w9 ho9 hx9 hk9; have HO9 := Hid.mk ho9; have HXa := Hid.mk hx9; have HU9 := Hid.mk (fun i u hi => (HU2.out i u hi).kApp HO2.out hk9); have HR9 := Hid.mk (HRow.out.kApp HO2.out hk9); clear ho9 hx9 hk9)
          go_roundw
          case rel => exact ⟨k + 1, us ++ [.slice (some ⟨g, 0, none⟩) i i], by omega, by go_num, HO9.out, by simp [hl], rows_snoc hl HU9.out HR9.out, HXa.out⟩
          case measure => simp [intOf]; omega
    · obtain rfl : k = d := by omega
      have HF := Hid.mk (SlM.own (S := SlQ) (M := transposed M) (c := m) HO.out.1 hl HU.out)
      have hkd' : ¬ (k : Int) < (k : Int) := by omega
      clear hkd hk
      go_wp2_with fail
      go_ret
      exact ⟨⟨_, rfl, HF.out⟩, HX.out⟩

set_option maxRecDepth 100000 in
set_option maxHeartbeats 2000000 in
theorem mat_transpose (w : World) (v : Value) (m c : Nat) (M : Mat) (h : MatQ w v m c M) (hm : m ≤ 256) (hc : c ≤ 96) (d : Nat) (hd : d = if m = 0 then 0 else c) :
    Calls Tryz.prog 31 #[v] w (Ret w fun w' v' => ∃ R, v' = .tuple #[R, .int .i64 0] ∧ MatQ w' R d m (transposed M)) := by
  have H := Hid.mk h
  have HD := Hid.mk hd
  obtain ⟨A0, c0, rfl, p1, p2, p3⟩ := id h
  clear h p1 p2 p3 hd
  go_enter Tryz.func31, Tryz.ntmps31
  go_wp2_with fail
  refine (mat_size _ _ m c M H.out hm hc).mono ?_
  rintro e w1 ⟨⟨v1, rfl, rfl⟩, hx1⟩
  have HX := Hid.mk hx1
  clear hx1
  go_wp2_with fail
  refine (mat_transposed _ _ m c M (H.out.x HX.out) (by omega) (by omega) d HD.out).mono ?_
  rintro e w2 ⟨⟨v2, rfl, hv2⟩, hx2⟩
  have HV := Hid.mk hv2
  have HX2 := Hid.mk (HX.out.trans hx2)
  clear hx2 hv2
  go_wp2_with fail
  refine bodyPost_ret (v := .tuple #[v2, .int .i64 0]) (by simp [results, Tryz.results31, go_sem]) rfl ⟨⟨_, rfl, v2, rfl, HV.out⟩, HX2.out⟩
end Go.Proofs.YtogakaiibijjpaaGreatDoor
