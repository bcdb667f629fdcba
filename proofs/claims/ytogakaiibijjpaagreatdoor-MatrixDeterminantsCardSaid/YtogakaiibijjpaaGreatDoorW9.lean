/- Lemmas for the proof, part 9: A4, A5, A7, A8, R7, R8, Q4. -/
import Derived.Test.YtogakaiibijjpaaGreatDoorW8
/- Package matrix: Mul. -/
set_option linter.unusedVariables false
set_option linter.unusedSimpArgs false
namespace Go.Proofs.YtogakaiibijjpaaGreatDoor
open Go.RowKit
open DDig DLin

/-- A product of tables: so many terms. -/
def prodv (c : Nat) (A B : Mat) : Mat := fun i k => sm c fun t => A i t * B t k

set_option maxRecDepth 100000 in
set_option maxHeartbeats 4000000 in
theorem mat_mul (w : World) (v u : Value) (m c p q : Nat) (A B : Mat) (h : MatQ w v m c A) (h' : MatQ w u p q B) (hm : m ≤ 256) (hc : c ≤ 96) (hp : p ≤ 256) (hq : q ≤ 96) (hcp : m = 0 ∨ c = p) (d : Nat) (hd : d = if p = 0 then 0 else q) (k j : Nat) (hs : TSz A m c k) (hs' : TSz B p q j) (hsz : c * (k + j + 1) + 1 ≤ 549755813888) :
    Calls Tryz.prog 44 #[v, u] w (Ret w fun w' v' => ∃ R, v' = .tuple #[R, .int .i64 0] ∧ MatQ w' R m d (prodv c A B)) := by
  have H := Hid.mk h
  have H' := Hid.mk h'
  have HS := Hid.mk hs
  have HS' := Hid.mk hs'
  have HD := Hid.mk hd
  have HCP := Hid.mk hcp
  obtain ⟨A0, c0, rfl, -, -, p3⟩ := id h
  obtain ⟨B0, d0, rfl, -, -, -⟩ := id h'
  have HA := Hid.mk p3
  clear h h' p3 hs hs' hd hcp
  go_enter Tryz.func44, Tryz.ntmps44
  go_wp2_with fail
  refine (mat_size _ _ m c A H.out hm hc).mono ?_
  rintro e w1 ⟨⟨v1, rfl, rfl⟩, hx1⟩
  have HX := Hid.mk hx1
  clear hx1
  go_wp2_with fail
  refine (mat_size _ _ p q B (H'.out.x HX.out) hp hq).mono ?_
  rintro e w2 ⟨⟨v2, rfl, rfl⟩, hx2⟩
  replace HX := Hid.mk (HX.out.trans hx2)
  clear hx2
  go_upto_region 7 with (fail)
  go_cut [34] (fun t wc => t = .bool false ∧ X w wc)
  case first =>
    by_cases h0 : 0 < m
    · have h0' : (0 : Int) < (m : Int) := by omega
      have hnn : ((c : Int) != (p : Int)) = false := by
        have := HCP.out
        rw [bne_eq_false_iff_eq]; omega
      go_wp2_with fail
      refine (mat_columns _ _ m c A (H.out.x HX.out) (by omega) c (by rw [if_neg (by omega)])).mono ?_
      rintro e w2 ⟨⟨v2, rfl, rfl⟩, hx2⟩
      have HX2 := Hid.mk (HX.out.trans hx2)
      clear hx2
      go_wp2_with fail
      go_meet
      exact ⟨rfl, HX2.out⟩
    · have h0' : ¬ (0 : Int) < (m : Int) := by omega
      go_wp2_with fail
      go_meet
      exact ⟨rfl, HX.out⟩
  case rest =>
    obtain ⟨rfl, hx1⟩ := hcut
    replace HX := Hid.mk hx1
    clear hx1
    go_wp2_with fail
    refine (mat_transposed _ _ p q B (H'.out.x HX.out) (by omega) (by omega) d HD.out).mono ?_
    rintro e w3 ⟨⟨v3, rfl, hv3⟩, hx3⟩
    replace HX := Hid.mk (HX.out.trans hx3)
    obtain ⟨T0, t0, rfl, -, -, q3⟩ := id hv3
    have HT := Hid.mk q3
    have hdq : d ≤ q := by have := HD.out; split at this <;> omega
    clear hv3 hx3 q3
    go_wp2_with fail
    go_loopw [9, 39] (fun tO tI wr => ∃ (i : Nat) (us : List Value), i ≤ m ∧ tI = .int .i64 i ∧ OwnC IsSl wr w3.heap.size 49 1 tO i us ∧ us.length = i ∧ (∀ j u, us[j]? = some u → SlQ wr u d (prodv c A B j)) ∧ X w3 wr) (fun _ t _ => m - (intOf t).toNat)
    case atStart => exact ⟨0, [], Nat.zero_le _, rfl, OwnC.nil _ _ _ _ _, rfl, by simp, X.refl _⟩
    case round =>
      obtain ⟨i, us, hi, rfl, ho, hl, hu, hx⟩ := hrel
      have HO := Hid.mk ho
      have HU := Hid.mk hu
      have HX3 := Hid.mk hx
      clear ho hu hx
      by_cases him : i < m
      · have him' : (i : Int) < (m : Int) := by omega
        obtain ⟨b, o, rfl, gg⟩ := HA.out (by omega)
        obtain ⟨x, c1, hx⟩ := gg i him
        obtain ⟨B1, d1, rfl, -, -, -⟩ := id hx
        replace c1 := (HX.out.trans HX3.out).cell c1
        have HRx := Hid.mk (hx.x (HX.out.trans HX3.out))
        have hcp : c ≤ p := by have := HCP.out; omega
        clear gg hx
        go_wp2_with (at_make; refine make_blkz _ rfl _ _ 49 rfl 71 (.agg #[.bool false, .slice none 0 0, .bool false, .slice none 0 0]) 4 64 Tryz.underlying49 info_Q rfl .i64 .i64 _ _ d rfl rfl rfl rfl (by omega) (by omega) ?_; intro w6 cs hb1 hb2 hb3 hb4 hx6; have HF := Hid.mk (Fil.start (prodv c A B i) hb1 hb2 hb4); have HX6 := Hid.mk hx6; clear hb1 hb2 hb3 hb4 hx6)
        obtain ⟨g, hg⟩ : ∃ g, g = wr.heap.size := ⟨_, rfl⟩
        rw [← hg] at HF ⊢
        have HG := Hid.mk hg
        clear hg c1
        go_loopw [48] (fun tK w5 => ∃ k : Nat, k ≤ d ∧ tK = .int .i64 k ∧ Fil w5 g d k (prodv c A B i) ∧ X wr w5) (fun t _ => d - (intOf t).toNat)
        case atStart => exact ⟨0, Nat.zero_le _, rfl, HF.out, HX6.out⟩
        case round =>
          clear HF HX6
          obtain ⟨y, hy, rfl, hF, hx⟩ := hrel
          have HF := Hid.mk hF
          have HX5 := Hid.mk hx
          clear hF hx
          by_cases hyd : y < d
          · have hyd' : (y : Int) < (d : Int) := by omega
            obtain ⟨b2, o2, rfl, gg⟩ := HT.out (by omega)
            obtain ⟨x2, c2, hx2⟩ := gg y hyd
            obtain ⟨B2, d2, rfl, -, -, -⟩ := id hx2
            replace c2 := (HX3.out.trans HX5.out).cell c2
            have HR2 := Hid.mk (hx2.x (HX3.out.trans HX5.out))
            clear gg hx2
            go_wp2_with fail
            refine (mat_dot _ _ _ c p (A i) (transposed B y) (HRx.out.x HX5.out) HR2.out (by omega) k j (HS.out i him) (fun t ht => HS'.out t (by omega) y (by omega)) hsz).mono ?_
            rintro e w8 ⟨⟨v8, rfl, r8, rfl, hr8⟩, hx8⟩
            have F1 := HF.out.x hx8
            obtain ⟨v0, v1', v2, v3, k0, k1, k2, k3, f0, f1, f2, f3⟩ := F1.cells hyd
            have HF3 := Hid.mk (F1.put hyd (r := r8) hr8)
            have HX8 := Hid.mk ((HX5.out.trans hx8).put4at (g := g) (by rw [HG.out]; exact Nat.le_refl _) (y * 4) r8)
            clear F1 hr8 hx8 c2
            go_wp2_with fail
            go_roundw
            case rel => exact ⟨y + 1, by omega, by go_num, HF3.out, HX8.out⟩
            case measure => simp [intOf]; omega
          · obtain rfl : y = d := by omega
            have hyd' : ¬ (y : Int) < (y : Int) := by omega
            have HRow : Hid (SlQ wr (.slice (some ⟨g, 0, none⟩) y y) y (prodv c A B i)) := ⟨_, y, rfl, Nat.le_refl _, by simp, HF.out.row⟩
            have HO2 := Hid.mk (HO.out.x HX5.out)
            have HU2 := Hid.mk (fun t u ht => (HU.out t u ht).x HX5.out)
            have HX9 := Hid.mk (HX3.out.trans HX5.out)
            have hlb : (i + 1) * 24 ≤ 140737488355328 := by omega
            clear hyd hy HF HX5 HO HU HX3
            go_wp2_with (at_builtin; refine append_oneC IsSl w3 _ rfl _ _ 29 rfl 49 (.slice none 0 0) 1 24 Tryz.underlying29 info_sQ rfl (by omega) (fun u hu => ⟨none, 0, 0, by simpa [Value.cells] using hu⟩) _ _ _ rfl HO2.out _ _ _ rfl rfl (by simp [Value.oneCell']) (fun u hu => ⟨_, _, _, by simpa using hu⟩) (by omega) (by omega) HX9.out ?_; intro v9 w9 ho9 hx9 hk9; have HO9 := Hid.mk ho9; have HXa := Hid.mk hx9; have HU9 := Hid.mk (fun i u hi => (HU2.out i u hi).kApp HO2.out hk9); have HR9 := Hid.mk (HRow.out.kApp HO2.out hk9); clear ho9 hx9 hk9)
            go_roundw
            case rel => exact ⟨i + 1, us ++ [.slice (some ⟨g, 0, none⟩) y y], by omega, by go_num, HO9.out, by simp [hl], rows_snoc hl HU9.out HR9.out, HXa.out⟩
            case measure => simp [intOf]; omega
      · obtain rfl : i = m := by omega
        have HF := Hid.mk (SlM.own (S := SlQ) (M := prodv c A B) (c := d) HO.out.1 hl HU.out)
        have HXF := Hid.mk (HX.out.trans HX3.out)
        have him' : ¬ (i : Int) < (i : Int) := by omega
        clear him hi
        go_wp2_with fail
        refine bodyPost_ret (v := .tuple #[u9, .int .i64 0]) (by simp [results, Tryz.results44, go_sem]) rfl ⟨⟨_, rfl, u9, rfl, HF.out⟩, HXF.out⟩

set_option maxRecDepth 100000 in
set_option maxHeartbeats 2000000 in
theorem mat_mul_size (w : World) (v u : Value) (m c p q : Nat) (A B : Mat) (h : MatQ w v m c A) (h' : MatQ w u p q B) (hm : m ≤ 256) (hc : c ≤ 96) (hp : p ≤ 256) (hq : q ≤ 96) (h0 : 0 < m) (hcp : c ≠ p) :
    Calls Tryz.prog 44 #[v, u] w (Ret w fun w' v' => v' = .tuple #[.slice none 0 0, .int .i64 13]) := by
  have H := Hid.mk h
  have H' := Hid.mk h'
  obtain ⟨A0, c0, rfl, -, -, -⟩ := id h
  obtain ⟨B0, d0, rfl, -, -, -⟩ := id h'
  have hnn : ((c : Int) != (p : Int)) = true := by rw [bne_iff_ne]; omega
  have h0' : (0 : Int) < (m : Int) := by omega
  clear h h' hcp h0
  go_enter Tryz.func44, Tryz.ntmps44
  go_wp2_with fail
  refine (mat_size _ _ m c A H.out hm hc).mono ?_
  rintro e w1 ⟨⟨v1, rfl, rfl⟩, hx1⟩
  have HX := Hid.mk hx1
  clear hx1
  go_wp2_with fail
  refine (mat_size _ _ p q B (H'.out.x HX.out) hp hq).mono ?_
  rintro e w2 ⟨⟨v2, rfl, rfl⟩, hx2⟩
  replace HX := Hid.mk (HX.out.trans hx2)
  clear hx2
  go_wp2_with fail
  refine (mat_columns _ _ m c A (H.out.x HX.out) (by omega) c (by rw [if_neg (by omega)])).mono ?_
  rintro e w2 ⟨⟨v2, rfl, rfl⟩, hx2⟩
  have HX2 := Hid.mk (HX.out.trans hx2)
  clear hx2
  go_wp2_with fail
  go_ret2
  exact ⟨⟨_, rfl, rfl⟩, HX2.out⟩

set_option maxRecDepth 100000 in
set_option maxHeartbeats 2000000 in
theorem mat_apply_size (w : World) (v u : Value) (m c l : Nat) (M : Mat) (f : Nat → Rat) (h : MatQ w v m c M) (h' : SlQ w u l f) (hm : m ≤ 256) (hc : c ≤ 96) (h0 : 0 < m) (hcl : c ≠ l) :
    Calls Tryz.prog 26 #[v, u] w (Ret w fun w' v' => v' = .tuple #[.slice none 0 0, .int .i64 13]) := by
  have H := Hid.mk h
  obtain ⟨A0, c0, rfl, -, -, -⟩ := id h
  obtain ⟨B0, d0, rfl, -, -, -⟩ := id h'
  have hnn : ((c : Int) != (l : Int)) = true := by rw [bne_iff_ne]; omega
  have h0' : (0 : Int) < (m : Int) := by omega
  clear h h' hcl h0
  go_enter Tryz.func26, Tryz.ntmps26
  go_wp2_with fail
  refine (mat_size _ _ m c M H.out hm hc).mono ?_
  rintro e w1 ⟨⟨v1, rfl, rfl⟩, hx1⟩
  have HX := Hid.mk hx1
  clear hx1
  go_wp2_with fail
  refine (mat_columns _ _ m c M (H.out.x HX.out) (by omega) c (by rw [if_neg (by omega)])).mono ?_
  rintro e w2 ⟨⟨v2, rfl, rfl⟩, hx2⟩
  have HX2 := Hid.mk (HX.out.trans hx2)
  clear hx2
  go_wp2_with fail
  go_ret2
  exact ⟨⟨_, rfl, rfl⟩, HX2.out⟩
end Go.Proofs.YtogakaiibijjpaaGreatDoor

/- Package matrix: with, solved, Solve, Combine. -/
set_option linter.unusedVariables false
set_option linter.unusedSimpArgs false
namespace Go.Proofs.YtogakaiibijjpaaGreatDoor
open Go.RowKit
open DDig DLin

theorem ni_qcs (qs : List QV) : ∀ u ∈ qcs qs, NI u := by
  intro u hu
  simp only [qcs, List.mem_flatMap] at hu
  obtain ⟨a, -, h⟩ := hu
  exact ni_qvc a u h

set_option maxRecDepth 100000 in
set_option maxHeartbeats 2000000 in
theorem clone_qC (w : World) (v : Value) (n : Nat) (f : Nat → Rat) (h : SlQ w v n f) (hn : n ≤ 1000000) :
    Calls Tryz.prog 54 #[v] w (Ret w fun w' v' => ∃ qs : List QV, qs.length = n ∧ OwnC NI w' w.heap.size 71 4 v' n (qcs qs) ∧ ∀ j a, qs[j]? = some a → RatR w' a (f j)) := by
  obtain ⟨A, c, rfl, h1, h2, h3⟩ := h
  cases A with
  | none =>
    obtain ⟨rfl, rfl⟩ := h2 rfl
    clear h1 h2 h3
    have heq := fun (w : World) (n c : Nat) => Lib.run_eql_slice_nil (P := Tryz.prog) w 49 71 none n c 0 0 Tryz.underlying49
    go_enter Tryz.func54, Tryz.ntmps54
    go_wp2
    go_ret
    exact ⟨⟨_, rfl, [], rfl, OwnC.nil _ _ _ _ _, by simp⟩, X.refl w⟩
  | some ad =>
    obtain ⟨qs, hl, hq, hc⟩ := h3.list
    have HQ := Hid.mk hq
    have hnews : Hid (∀ j u, (qcs qs)[j]? = some u → w.cell? (ad.add j) = some u) := by
      intro j u hu
      by_cases h0 : 0 < n
      · obtain ⟨b, o, e, -⟩ := h3 h0
        injection e with e
        subst e
        rw [add_off]
        exact hc b o rfl j u hu
      · have : qs = [] := List.eq_nil_of_length_eq_zero (by omega)
        subst this
        simp [qcs] at hu
    have hql : (qcs qs).length = n * 4 := by rw [qcs, flat_len qvc 4 (fun _ => rfl), hl]
    clear h1 h2 h3 hq hc
    have heq := fun (w : World) (n c : Nat) => Lib.run_eql_slice_nil (P := Tryz.prog) w 49 71 (some ad) n c 0 0 Tryz.underlying49
    go_enter Tryz.func54, Tryz.ntmps54
    go_wp2_with (at_builtin; refine append_C NI w _ rfl _ _ 49 rfl 71 (.agg #[.bool false, .slice none 0 0, .bool false, .slice none 0 0]) 4 64 Tryz.underlying49 info_Q rfl (by omega) ni_zero (.slice (some ⟨w.heap.size, 0, none⟩) 0 0) 0 [] rfl (OwnC.empty NI w 71 4) ad n c (qcs qs) rfl hql (fun j u hu => by exact ((X.refl w).alloc _).cell (hnews.out j u hu)) (qcs_one qs) (ni_qcs qs) (by omega) (by omega) ((X.refl w).alloc _) ?_; intro v1 w1 ho1 hx1 hk1; have HO := Hid.mk ho1; have HX := Hid.mk hx1; clear ho1 hx1 hk1)
    go_ret
    have ho := HO.out
    rw [Nat.zero_add, List.nil_append] at ho
    exact ⟨⟨_, rfl, qs, hl, ho, fun j a ha => (HQ.out j a ha).x HX.out⟩, HX.out⟩

/-- A further rational in a list. -/
theorem rats_snoc {w : World} {qs : List QV} {i : Nat} {f : Nat → Rat} {a : QV} (hl : qs.length = i) (hq : ∀ j a, qs[j]? = some a → RatR w a (f j)) (ha : RatR w a (f i)) : ∀ j x, (qs ++ [a])[j]? = some x → RatR w x (f j) := fun j x hj => by
  by_cases e : j = i
  · subst e
    rw [List.getElem?_append_right (by omega), hl] at hj
    simp at hj
    subst hj
    exact ha
  · have hil : j < qs.length := by
      have := (List.getElem?_eq_some_iff.1 hj).1
      simp at this
      omega
    rw [List.getElem?_append_left hil] at hj
    exact hq j x hj

/-- 'append(out, xs...)' onto a row of one sort, at a step of a region that draws its order. -/
theorem step_append_C {P : Program} (C : Value → Prop) (w0 w : World) {ops : Array Oper} {o : Oper} {a : Act} {K : Act → World → Prop} {Q : Exit → Act → World → Prop} {E : Prop} (hgd : o.guard = none) (s x : Operand) (t : TypeId)
    (ho : o.op = .call { callee := .builtin .append, args := #[s, x], argTypes := #[t, t] })
    (e : TypeId) (z : Value) (size bytes : Nat) (ht : P.underlying t = some (.slice e)) (h2 : (P.info? e).map (fun i => (i.zero, i.size, i.bytes)) = some (some z, size, bytes)) (hzs : z.cells.size = size) (hsz : 0 < size) (hzc : ∀ u ∈ z.cells.toList, C u)
    (v : Value) (n : Nat) (xs : List Value) (hs : a.eval s = v) (hown : OwnC C w w0.heap.size e size v n xs)
    (ad : Addr) (m c : Nat) (news : List Value) (hx : a.eval x = .slice (some ad) m c) (hl : news.length = m * size) (hnews : ∀ j u, news[j]? = some u → w.cell? (ad.add j) = some u) (h1 : ∀ u ∈ news, u.oneCell' = true) (hnc : ∀ u ∈ news, C u)
    (h63 : n + m ≤ 9223372036854775807) (hbytes : (n + m) * bytes ≤ 140737488355328) (hX : X w0 w)
    (h : ∀ v' w', OwnC C w' w0.heap.size e size v' (n + m) (xs ++ news) → X w0 w' → (∀ b, b < w.heap.size → v.ownBlock ≠ some b → w'.heap[b]? = w.heap[b]?) → K (a.put o.dst v') w') :
    if Region.wanted o (yielded ops a.tmps) = true then Oper.wp P o a w K Q else E := by
  have hw : Region.wanted o (yielded ops a.tmps) = true := by simp [Region.wanted, hgd]
  rw [if_pos hw]
  obtain ⟨v', w', hr, h3, h4⟩ := run_append_C (P := P) C w w0.heap.size t o.type e z size bytes ht h2 hzs hsz hzc v n xs hown ad m c news hl hnews h1 hnc (by simp only [maxLen]; omega) hbytes hX.size
  unfold Oper.wp execOp
  simp only [ho, resolve, invoke, builtin, Sem.run_bind, Sem.run_pure, Result.andThen_ok, List.map_toArray, List.map_cons, List.map_nil, hs, hx, hr]
  exact h v' w' h3 (hX.grown h4 (own_ge hown.1)) (fun b hb1 hb2 => h4.block b hb1 (fun e => hb2 e.symm))

/-- The cells of a block, by an address. -/
theorem lit_cells {w : World} {g : Nat} {e : TypeId} {cs : List Value} (h : Blk w g e cs) : ∀ j u, cs[j]? = some u → w.cell? ((⟨g, 0, none⟩ : Addr).add j) = some u := by
  intro j u hj
  rw [add_off, Nat.zero_add]
  exact h.cell hj

theorem with_row {w : World} {qs : List QV} {c i : Nat} {M : Mat} {f : Nat → Rat} {a : QV} (hl : qs.length = c) (hq : ∀ j b, qs[j]? = some b → RatR w b (M i j)) (ha : RatR w a (f i)) : ∀ j b, (qs ++ [a])[j]? = some b → RatR w b (wide c M f i j) :=
  rats_snoc hl (fun j b hj => by
    have hjl : j < qs.length := (List.getElem?_eq_some_iff.1 hj).1
    have : ¬ j = c := by omega
    show RatR w b (if j = c then f i else M i j)
    rw [if_neg this]
    exact hq j b hj) (by show RatR w a (if c = c then f i else M i c); rw [if_pos rfl]; exact ha)

set_option maxRecDepth 100000 in
set_option maxHeartbeats 4000000 in
theorem mat_with (w : World) (v u : Value) (m c l : Nat) (M : Mat) (f : Nat → Rat) (h : MatQ w v m c M) (h' : SlQ w u l f) (hml : m ≤ l) (hm : m ≤ 1000) (hc : c ≤ 1000) :
    Calls Tryz.prog 77 #[v, u] w (Ret w fun w' R => MatQ w' R m (c + 1) (wide c M f)) := by
  obtain ⟨A0, c0, rfl, -, -, p3⟩ := h
  obtain ⟨B0, d0, rfl, -, -, p6⟩ := h'
  have HA := Hid.mk p3
  have HB := Hid.mk p6
  clear p3 p6
  go_enter Tryz.func77, Tryz.ntmps77
  go_wp2_with fail
  go_loopw [5, 10] (fun t5 t10 wr => ∃ (i : Nat) (us : List Value), i ≤ m ∧ t10 = .int .i64 i ∧ OwnC IsSl wr w.heap.size 49 1 t5 i us ∧ us.length = i ∧ (∀ j u, us[j]? = some u → SlQ wr u (c + 1) (wide c M f j)) ∧ X w wr) (fun _ t _ => m - (intOf t).toNat)
  case atStart => exact ⟨0, [], Nat.zero_le _, rfl, OwnC.nil _ _ _ _ _, rfl, by simp, X.refl _⟩
  case round =>
    obtain ⟨i, us, hi, rfl, ho, hl, hu, hx⟩ := hrel
    have HO := Hid.mk ho
    have HU := Hid.mk hu
    have HX := Hid.mk hx
    clear ho hu hx
    by_cases him : i < m
    · have him' : (i : Int) < (m : Int) := by omega
      have hil' : (i : Int) < (l : Int) := by omega
      obtain ⟨b0, o0, rfl, gg⟩ := HA.out (by omega)
      obtain ⟨x, c1, hx⟩ := gg i him
      obtain ⟨B1, d1, rfl, -, -, -⟩ := id hx
      replace c1 := HX.out.cell c1
      have HRx := Hid.mk (hx.x HX.out)
      obtain ⟨b2, o2, rfl, gg2⟩ := HB.out (by omega)
      obtain ⟨a, e0, e1, e2, e3, ha⟩ := gg2 i (by omega)
      have HRb := Hid.mk ha
      have HC := Hid.mk (fun w' (h : X w w') => (⟨h.cell e0, h.cell e1, h.cell e2, h.cell e3⟩ : w'.cell? ⟨b2, o2 + i * 4, none⟩ = some (.bool a.s) ∧ w'.cell? ⟨b2, o2 + i * 4 + 1, none⟩ = some (.slice a.A a.n a.c) ∧ w'.cell? ⟨b2, o2 + i * 4 + 2, none⟩ = some (.bool a.t) ∧ w'.cell? ⟨b2, o2 + i * 4 + 3, none⟩ = some (.slice a.B a.m a.d)))
      have hib : (i + 1) * 24 ≤ 140737488355328 := by omega
      have hcb : (c + 1) * 64 ≤ 140737488355328 := by omega
      have hz0 : X wr wr.drew := ⟨rfl, rfl, rfl, Nat.le_refl _, fun _ _ => rfl⟩
      have hS0 := HC.out wr HX.out
      clear gg hx gg2 e0 e1 e2 e3 ha
      have hzA : X wr (wr.alloc (.cells #[.bool a.s, .slice a.A a.n a.c, .bool a.t, .slice a.B a.m a.d] 71)).drew := ((X.refl wr).alloc _).drew
      go_wp2_with fail
      go_region_held3 (fun w' => w'.cell? ⟨b2, o2 + i * 4, none⟩ = some (.bool a.s) ∧ w'.cell? ⟨b2, o2 + i * 4 + 1, none⟩ = some (.slice a.A a.n a.c) ∧ w'.cell? ⟨b2, o2 + i * 4 + 2, none⟩ = some (.bool a.t) ∧ w'.cell? ⟨b2, o2 + i * 4 + 3, none⟩ = some (.slice a.B a.m a.d))
        (go_keep)
        (first
          | (refine step_append_oneC IsSl w _ rfl (.tmp 15) (.tmp 24) 29 rfl 49 (.slice none 0 0) 1 24 Tryz.underlying29 info_sQ rfl (by omega) (fun u hu => ⟨none, 0, 0, by simpa [Value.cells] using hu⟩) _ _ _ rfl hO2 _ _ _ rfl rfl (by simp [Value.oneCell']) (fun u hu => ⟨RA, c + 1, rc, by simpa using hu⟩) (by omega) (by omega) (HX.out.trans hz2) ?_; intro v3 w3 ho3 hx3 hk3; have hS3 := HC.out w3 hx3; have HO3 := Hid.mk ho3; have HX3 := Hid.mk hx3; have HU3 := Hid.mk (fun j u hj => ((HU.out j u hj).x hz2).kApp hO2 hk3); have HR3 := Hid.mk (hrow.kApp hO2 hk3); clear ho3 hx3 hk3)
          | (refine step_append_oneC NI _ _ rfl (.tmp 17) (.tmp 22) 49 rfl 71 (.agg #[.bool false, .slice none 0 0, .bool false, .slice none 0 0]) 4 64 Tryz.underlying49 info_Q rfl (by omega) ni_zero _ _ _ rfl ho1 _ _ _ rfl rfl (by simp [Value.oneCell']) (fun u hu => (by exact ni_qvc a u hu)) (by omega) (by omega) hx1 ?_; intro v2 w2 ho2 hx2 hk2; have hz2 := hzz.trans hx2; have hS2 := HC.out w2 (HX.out.trans hz2); have hkp := ho1.kp hk2; have hrow : SlQ w2 v2 (c + 1) (wide c M f i) := SlQ.own (fs := qs ++ [a]) (by rw [qcs_snoc]; exact ho2.1) (by simp [hql]) (with_row hql (fun j b hj => (hq1 j b hj).kp hkp (fun x => nni _ x)) (HRb.out.x (HX.out.trans hz2))); obtain ⟨RA, rc, rfl, p1, p2, p3⟩ := id hrow; have hO2 := HO.out.x hz2)
          | (refine step_append_C NI _ _ rfl (.tmp 17) (.tmp 22) 49 rfl 71 (.agg #[.bool false, .slice none 0 0, .bool false, .slice none 0 0]) 4 64 Tryz.underlying49 info_Q rfl (by omega) ni_zero _ _ _ rfl ho1 ⟨wr.heap.size, 0, none⟩ 1 1 (qvc a) rfl rfl hlit (by simp [Value.oneCell']) (ni_qvc a) (by omega) (by omega) hx1 ?_; intro v2 w2 ho2 hx2 hk2; have hz2 := hzz.trans hx2; have hS2 := HC.out w2 (HX.out.trans hz2); have hkp := ho1.kp hk2; have hrow : SlQ w2 v2 (c + 1) (wide c M f i) := SlQ.own (fs := qs ++ [a]) (by rw [qcs_snoc]; exact ho2.1) (by simp [hql]) (with_row hql (fun j b hj => (hq1 j b hj).kp hkp (fun x => nni _ x)) (HRb.out.x (HX.out.trans hz2))); obtain ⟨RA, rc, rfl, p1, p2, p3⟩ := id hrow; have hO2 := HO.out.x hz2)
          | (have hguard := hz0; go_at_call 54; refine (clone_qC wr.drew _ c (M i) (HRx.out.x hz0) (by omega)).mono ?_; rintro e w1 ⟨⟨v1, rfl, qs, hql, ho1, hq1⟩, hx1⟩; have hzz := hz0; have hz1 := hz0.trans hx1; have hS1 := HC.out w1 (HX.out.trans hz1))
          | (have hguard := hz0; go_at_call 54; refine (clone_qC (wr.alloc (.cells #[.bool a.s, .slice a.A a.n a.c, .bool a.t, .slice a.B a.m a.d] 71)).drew _ c (M i) (HRx.out.x hzA) (by omega)).mono ?_; rintro e w1 ⟨⟨v1, rfl, qs, hql, ho1, hq1⟩, hx1⟩; have hzz := hzA; have hz1 := hzA.trans hx1; have hlit := lit_cells (((Blk.new wr #[.bool a.s, .slice a.A a.n a.c, .bool a.t, .slice a.B a.m a.d] 71).x (X.refl _).drew).x hx1); have hS1 := HC.out w1 (HX.out.trans hz1)))
      all_goals
        go_wp2_with fail
        go_roundw
        case rel => exact ⟨i + 1, us ++ [.slice RA (c + 1) rc], by omega, by go_num, HO3.out, by simp [hl], rows_snoc hl HU3.out HR3.out, HX3.out⟩
        case measure => simp [intOf]; omega
    · obtain rfl : i = m := by omega
      have HF := Hid.mk (SlM.own (S := SlQ) (M := wide c M f) (c := c + 1) HO.out.1 hl HU.out)
      have him' : ¬ (i : Int) < (i : Int) := by omega
      clear him hi
      go_wp2_with fail
      go_ret
      exact ⟨⟨_, rfl, HF.out⟩, HX.out⟩
end Go.Proofs.YtogakaiibijjpaaGreatDoor

/- Package matrix: solved. -/
set_option linter.unusedVariables false
set_option linter.unusedSimpArgs false
namespace Go.Proofs.YtogakaiibijjpaaGreatDoor
open Go.RowKit
open DDig DLin

/-- A solution that is being written. -/
def solp (s : St) (n i j : Nat) : Rat := if j ∈ s.piv.take i then s.M (s.piv.idxOf j) n else 0
theorem solp_all (s : St) (n j : Nat) : solp s n s.piv.length j = solv s n j := by simp [solp, solv]
theorem solp_step {m n : Nat} {M0 : Mat} {s : St} (h : Inv m M0 s n) {i : Nat} (hi : i < s.piv.length) (j : Nat) :
    (if j = s.piv.getD i 0 then s.M i n else solp s n i j) = solp s n (i + 1) j := by
  have ht : s.piv.take (i + 1) = s.piv.take i ++ [s.piv.getD i 0] := by
    rw [List.take_succ_eq_append_getElem hi]
    simp [List.getD_eq_getElem?_getD, hi]
  have hid := idxOf_getD hi h.inc
  by_cases e : j = s.piv.getD i 0
  · rw [if_pos e]
    unfold solp
    rw [ht, if_pos (by simp [e]), e, hid]
  · rw [if_neg e]
    unfold solp
    simp only [ht, List.mem_append, List.mem_singleton, e, or_false]

/-- What 'solved' answers. -/
def SolvedP (m n : Nat) (s : St) (w' : World) (v' : Value) : Prop :=
  ((∀ i, s.piv.length ≤ i → i < m → s.M i n = 0) → ∃ X, v' = .tuple #[X, .int .i64 0] ∧ SlQ w' X n (solv s n)) ∧ ((¬ ∀ i, s.piv.length ≤ i → i < m → s.M i n = 0) → v' = .tuple #[.slice none 0 0, .int .i64 21])

set_option maxRecDepth 100000 in
set_option maxHeartbeats 4000000 in
theorem mat_solved (w : World) (v : Value) (m n c : Nat) (M : Mat) (h : MatQ w v m c M) (hm : m ≤ 256) (hc : c ≤ 1000) (hnc : n < c) (b : Nat) (hb : 0 < b) (hs : TSz M m c b) (hsz : 5 ^ (m + 1) * b ≤ 100000000000) :
    Calls Tryz.prog 76 #[v, .int .i64 n] w (Ret w (SolvedP m n (steps m M n))) := by
  have H := Hid.mk h
  have HS := Hid.mk hs
  have HI := Hid.mk (inv_steps m M n)
  obtain ⟨A0, c0, rfl, p1, p2, p3⟩ := id h
  clear h hs p1 p2 p3
  go_enter Tryz.func76, Tryz.ntmps76
  go_wp2_with fail
  refine (mat_reduced _ _ m n c M H.out hm hc (by omega) b hb HS.out hsz).mono ?_
  rintro e w3 ⟨⟨v3, rfl, R, P, d, rfl, hR, hP, hd⟩, hx3⟩
  have hPR := PivR.own hP
  obtain ⟨A, pc, rfl, h1, h2, h3⟩ := id hPR
  obtain ⟨B, rc, rfl, g1, g2, g3⟩ := id hR
  have HPR := Hid.mk hPR
  have HR := Hid.mk hR
  have HX := Hid.mk hx3
  obtain ⟨s, hs⟩ : ∃ s, s = steps m M n := ⟨_, rfl⟩
  have HI2 : Hid (Inv m M s n) := by rw [hs]; exact HI.out
  rw [← hs] at HPR HR ⊢
  have HSX := Hid.mk hs
  have hpm : s.piv.length ≤ m := HI2.out.len
  have HG2 := Hid.mk g2
  clear hs hx3 hR hP hd h2 h3 hPR h1 g2 g3 HI
  go_upto_region 2 with (fail)
  obtain ⟨w4, hw4, hX34, -, -⟩ := setup1 w3 #[.bool d.s, .slice d.A d.n d.c, .bool d.t, .slice d.B d.m d.d] 71
  replace HX := Hid.mk (HX.out.trans hX34)
  replace HPR := Hid.mk (HPR.out.x hX34)
  replace HR := Hid.mk (HR.out.x hX34)
  rw [hw4]
  clear hX34 hw4
  go_wp2_with (at_make; refine make_blkz _ rfl _ _ 49 rfl 71 (.agg #[.bool false, .slice none 0 0, .bool false, .slice none 0 0]) 4 64 Tryz.underlying49 info_Q rfl .i64 .i64 _ _ n rfl rfl rfl rfl (by omega) (by omega) ?_; intro w6 cs hb1 hb2 hb3 hb4 hx6; have HF := Hid.mk ((Fil.zero hb1 hb2 hb3 hb4).congr (e := solp s n 0) (fun j hj => by simp [solp])); have HX6 := Hid.mk hx6; clear hb1 hb2 hb3 hb4 hx6)
  obtain ⟨g, hg⟩ : ∃ g, g = w4.heap.size := ⟨_, rfl⟩
  rw [← hg] at HF ⊢
  have HG := Hid.mk hg
  clear hg
  go_loopw [25] (fun t25 wr => ∃ i : Nat, i ≤ s.piv.length ∧ t25 = .int .i64 i ∧ Fil wr g n n (solp s n i) ∧ X w4 wr) (fun t _ => s.piv.length - (intOf t).toNat)
  case atStart => exact ⟨0, Nat.zero_le _, rfl, HF.out, HX6.out⟩
  case round =>
    clear HF HX6
    obtain ⟨i, hi, rfl, hF, hx⟩ := hrel
    have HF := Hid.mk hF
    have HX5 := Hid.mk hx
    clear hF hx
    by_cases hil : i < s.piv.length
    · have hil' : (i : Int) < (s.piv.length : Int) := by omega
      have him : i < m := by omega
      have him' : (i : Int) < (m : Int) := by omega
      have hkn := HI2.out.lt i hil
      obtain ⟨p, hp⟩ : ∃ p, p = s.piv.getD i 0 := ⟨_, rfl⟩
      obtain ⟨bp, op, rfl, cp⟩ := (HPR.out.x HX5.out).cell hil
      obtain ⟨b1, o1, d1, b2, o2, a, rfl, c0, e0, e1, e2, e3, ha⟩ := (HR.out.x HX5.out).elem him hnc
      rw [← hp] at cp hkn
      have hkn' : (p : Int) < (n : Int) := by omega
      have hnc' : (n : Int) < (c : Int) := by omega
      obtain ⟨v0, v1', v2, v3, k0, k1, k2, k3, f0, f1, f2, f3⟩ := HF.out.cells hkn
      have HF3 := Hid.mk ((HF.out.upd hkn ha).congr (e := solp s n (i + 1)) (fun j hj => by rw [hp]; exact solp_step HI2.out hil j))
      have HX8 := Hid.mk (HX5.out.put4at (g := g) (by rw [HG.out]; exact Nat.le_refl _) (p * 4) a)
      clear ha hp HF
      go_wp2_with fail
      go_roundw
      case rel => exact ⟨i + 1, by omega, by go_num, HF3.out, HX8.out⟩
      case measure => simp [intOf]; omega
    · obtain rfl : i = s.piv.length := by omega
      have hil' : ¬ (s.piv.length : Int) < (s.piv.length : Int) := by omega
      have HXR : Hid (SlQ wr (.slice (some ⟨g, 0, none⟩) n n) n (solv s n)) := ⟨_, n, rfl, Nat.le_refl _, by simp, (HF.out.congr (fun j hj => solp_all s n j)).row⟩
      replace HR := Hid.mk (HR.out.x HX5.out)
      replace HX := Hid.mk (HX.out.trans HX5.out)
      clear hil hi HF HX5 HPR HG
      rcases Nat.lt_or_ge s.piv.length m with hpm2 | hpm2
      · -- rows are left
        obtain ⟨b1, o1, rfl, g3⟩ := HR.out.rows (by omega)
        have HG3 := Hid.mk g3
        have hl0 : (0 : Int) ≤ (s.piv.length : Int) := by omega
        have hl1 : (s.piv.length : Int) ≤ (m : Int) := by omega
        have hl2 : (m : Int) ≤ (rc : Int) := by omega
        have hl3 : ¬ (s.piv.length = rc) := by omega
        obtain ⟨q, hq⟩ : ∃ q, q = m - s.piv.length := ⟨_, rfl⟩
        have HQ := Hid.mk hq
        clear g3 hq
        go_upto_region 9 with (fail)
        rw [← HQ.out]
        go_loopw [46] (fun t w2 => ∃ j : Nat, j ≤ q ∧ t = .int .i64 j ∧ (∀ y, y < j → s.M (s.piv.length + y) n = 0) ∧ X wr w2) (fun t _ => q - (intOf t).toNat)
        case atStart => exact ⟨0, Nat.zero_le _, rfl, fun y hy => by omega, X.refl _⟩
        case round =>
          obtain ⟨j, hj, rfl, hz, hx⟩ := hrel
          have HZ := Hid.mk hz
          have HX5 := Hid.mk hx
          clear hz hx
          by_cases hjq : j < q
          · have hjq' : (j : Int) < (q : Int) := by omega
            have him : s.piv.length + j < m := by have := HQ.out; omega
            obtain ⟨u, c1, hu⟩ := HG3.out (s.piv.length + j) him
            obtain ⟨A2, d2, rfl, -, -, hrow⟩ := id hu
            obtain ⟨b2, o2, rfl, gg⟩ := hrow (by omega)
            obtain ⟨a, e0, e1, e2, e3, ha⟩ := gg n hnc
            rw [← Nat.add_assoc] at c1
            replace c1 := HX5.out.cell c1
            replace e0 := HX5.out.cell e0
            replace e1 := HX5.out.cell e1
            replace e2 := HX5.out.cell e2
            replace e3 := HX5.out.cell e3
            have HA := Hid.mk (ha.x HX5.out)
            have hnc' : (n : Int) < (c : Int) := by omega
            obtain ⟨x, hx⟩ : ∃ x, x = s.M (s.piv.length + j) n := ⟨_, rfl⟩
            rw [← hx] at HA
            have HXX := Hid.mk hx
            obtain ⟨sg, hsg⟩ : ∃ sg, Int.sign x.num = sg := ⟨_, rfl⟩
            have HSG := Hid.mk hsg
            clear gg ha hu hrow hx hsg
            by_cases hx0 : x = 0
            · obtain rfl : sg = 0 := by rw [← HSG.out, hx0]; rfl
              have HZ2 : Hid (∀ y, y < j + 1 → s.M (s.piv.length + y) n = 0) := fun y hy => by
                by_cases e : y = j
                · rw [e, ← HXX.out]; exact hx0
                · exact HZ.out y (by omega)
              clear hx0
              go_wp2_with fail
              refine (rat_sign_at _ a x 0 HA.out HSG.out).mono ?_
              rintro e w8 ⟨⟨v8, rfl, rfl⟩, hx8⟩
              have HX8 := Hid.mk (HX5.out.trans hx8)
              clear hx8 c1 e0 e1 e2 e3
              go_wp2_with fail
              go_roundw
              case rel => exact ⟨j + 1, by omega, by go_num, HZ2.out, HX8.out⟩
              case measure => simp [intOf]; omega
            · have hsn : (sg != 0) = true := by
                rw [bne_iff_ne, ← HSG.out]
                intro h
                rw [Int.sign_eq_zero_iff_zero] at h
                exact hx0 (rat_num_zero.1 h)
              have HNO : Hid (¬ ∀ i, s.piv.length ≤ i → i < m → s.M i n = 0) := fun h => hx0 (by rw [HXX.out]; exact h _ (by omega) him)
              clear hx0
              go_wp2_with fail
              refine (rat_sign_at _ a x sg HA.out HSG.out).mono ?_
              rintro e w8 ⟨⟨v8, rfl, rfl⟩, hx8⟩
              have HX8 := Hid.mk ((HX.out.trans HX5.out).trans hx8)
              clear hx8 c1 e0 e1 e2 e3
              go_wp2_with fail
              refine bodyPost_ret (v := .tuple #[.slice none 0 0, .int .i64 21]) (by simp [results, Tryz.results76, go_sem]) rfl ⟨⟨_, rfl, (by rw [← HSX.out]; exact ⟨fun h => absurd h HNO.out, fun _ => rfl⟩)⟩, HX8.out⟩
          · obtain rfl : j = q := by omega
            have hjq' : ¬ (j : Int) < (j : Int) := by omega
            have HYES : Hid (∀ i, s.piv.length ≤ i → i < m → s.M i n = 0) := fun i h1 h2 => by
              have := HZ.out (i - s.piv.length) (by have := HQ.out; omega)
              rw [show s.piv.length + (i - s.piv.length) = i by omega] at this
              exact this
            have HXR2 := Hid.mk (HXR.out.x HX5.out)
            have HX8 := Hid.mk (HX.out.trans HX5.out)
            clear hjq hj
            go_wp2_with fail
            refine bodyPost_ret (v := .tuple #[.slice (some ⟨g, 0, none⟩) n n, .int .i64 0]) (by simp [results, Tryz.results76, go_sem]) rfl ⟨⟨_, rfl, (by rw [← HSX.out]; exact ⟨fun _ => ⟨_, rfl, HXR2.out⟩, fun h => absurd HYES.out h⟩)⟩, HX8.out⟩
      · have hq0 : m - s.piv.length = 0 := by omega
        have hl0 : (0 : Int) ≤ (s.piv.length : Int) := by omega
        have hl1 : (s.piv.length : Int) ≤ (m : Int) := by omega
        have hl2 : (m : Int) ≤ (rc : Int) := by omega
        have HYES : Hid (∀ i, s.piv.length ≤ i → i < m → s.M i n = 0) := fun i h1 h2 => by omega
        rcases Nat.lt_or_ge s.piv.length rc with hl3 | hl3
        · have hl4 : ¬ (s.piv.length = rc) := by omega
          obtain ⟨ad, rfl⟩ : ∃ ad, B = some ad := by
            cases B with
            | none => have := HG2.out rfl; omega
            | some ad => exact ⟨ad, rfl⟩
          clear hl3
          go_wp2_with fail
          clear hq0
          go_loopw [46] (fun t w2 => t = .int .i64 0 ∧ w2 = wr) (fun _ _ => 0)
          case atStart => exact ⟨rfl, rfl⟩
          case round =>
            obtain ⟨rfl, rfl⟩ := hrel
            go_wp2_with fail
            refine bodyPost_ret (v := .tuple #[.slice (some ⟨g, 0, none⟩) n n, .int .i64 0]) (by simp [results, Tryz.results76, go_sem]) rfl ⟨⟨_, rfl, (by rw [← HSX.out]; exact ⟨fun _ => ⟨_, rfl, HXR.out⟩, fun h => absurd HYES.out h⟩)⟩, HX.out⟩
        · obtain hl4 : s.piv.length = rc := by omega
          subst hl4
          clear hl3
          go_wp2_with fail
          clear hq0
          go_loopw [46] (fun t w2 => t = .int .i64 0 ∧ w2 = wr) (fun _ _ => 0)
          case atStart => exact ⟨rfl, rfl⟩
          case round =>
            obtain ⟨rfl, rfl⟩ := hrel
            go_wp2_with fail
            refine bodyPost_ret (v := .tuple #[.slice (some ⟨g, 0, none⟩) n n, .int .i64 0]) (by simp [results, Tryz.results76, go_sem]) rfl ⟨⟨_, rfl, (by rw [← HSX.out]; exact ⟨fun _ => ⟨_, rfl, HXR.out⟩, fun h => absurd HYES.out h⟩)⟩, HX.out⟩
end Go.Proofs.YtogakaiibijjpaaGreatDoor

/- Package matrix: Solve, Combine. -/
set_option linter.unusedVariables false
set_option linter.unusedSimpArgs false
namespace Go.Proofs.YtogakaiibijjpaaGreatDoor
open Go.RowKit
open DDig DLin

theorem tsz_wide {M : Mat} {f : Nat → Rat} {m c b : Nat} (hs : TSz M m c b) (hs' : ∀ i, i < m → RSz (f i) b) : TSz (wide c M f) m (c + 1) b := fun i hi j hj => by
  show RSz (if j = c then f i else M i j) b
  split
  · exact hs' i hi
  · exact hs i hi j (by omega)

set_option maxRecDepth 100000 in
set_option maxHeartbeats 2000000 in
theorem mat_solve (w : World) (v u : Value) (m c : Nat) (M : Mat) (f : Nat → Rat) (h : MatQ w v m c M) (h' : SlQ w u m f) (hm : m ≤ 256) (hc : c ≤ 96) (hmc : m = 0 → c = 0) (b : Nat) (hb : 0 < b) (hs : TSz M m c b) (hs' : ∀ i, i < m → RSz (f i) b) (hsz : 5 ^ (m + 1) * b ≤ 100000000000) :
    Calls Tryz.prog 33 #[v, u] w (Ret w (SolvedP m c (steps m (wide c M f) c))) := by
  have H := Hid.mk h
  have H' := Hid.mk h'
  have HS := Hid.mk (tsz_wide hs hs')
  have HMC := Hid.mk hmc
  obtain ⟨A0, c0, rfl, -, -, -⟩ := id h
  obtain ⟨B0, d0, rfl, -, -, -⟩ := id h'
  have hnn : ((m : Int) != (m : Int)) = false := by simp
  clear h h' hs hs' hmc
  go_enter Tryz.func33, Tryz.ntmps33
  go_wp2_with fail
  refine (mat_size _ _ m c M H.out hm hc).mono ?_
  rintro e w1 ⟨⟨v1, rfl, rfl⟩, hx1⟩
  have HX := Hid.mk hx1
  clear hx1
  go_wp2_with fail
  refine (mat_with _ _ _ m c m M f (H.out.x HX.out) (H'.out.x HX.out) (Nat.le_refl _) (by omega) (by omega)).mono ?_
  rintro e w2 ⟨⟨v2, rfl, hv2⟩, hx2⟩
  replace HX := Hid.mk (HX.out.trans hx2)
  have HV := Hid.mk hv2
  clear hx2 hv2 hnn
  go_wp2_with fail
  refine (mat_columns _ _ m c M (H.out.x HX.out) (by omega) c (by have := HMC.out; split <;> omega)).mono ?_
  rintro e w3 ⟨⟨v3, rfl, rfl⟩, hx3⟩
  replace HX := Hid.mk (HX.out.trans hx3)
  replace HV := Hid.mk (HV.out.x hx3)
  clear hx3
  go_wp2_with fail
  refine (mat_solved _ _ m c (c + 1) (wide c M f) HV.out hm (by omega) (by omega) b hb HS.out hsz).mono ?_
  rintro e w4 ⟨⟨v4, rfl, hP⟩, hx4⟩
  replace HX := Hid.mk (HX.out.trans hx4)
  have HP := Hid.mk hP
  clear hx4 hP
  by_cases hz : ∀ i, (steps m (wide c M f) c).piv.length ≤ i → i < m → (steps m (wide c M f) c).M i c = 0
  · obtain ⟨X0, rfl, -⟩ := HP.out.1 hz
    clear hz
    go_wp2_with fail
    refine bodyPost_ret (v := .tuple #[X0, .int .i64 0]) (by simp [results, Tryz.results33, go_sem]) rfl ⟨⟨_, rfl, HP.out⟩, HX.out⟩
  · obtain rfl := HP.out.2 hz
    clear hz
    go_wp2_with fail
    refine bodyPost_ret (v := .tuple #[.slice none 0 0, .int .i64 21]) (by simp [results, Tryz.results33, go_sem]) rfl ⟨⟨_, rfl, HP.out⟩, HX.out⟩

set_option maxRecDepth 100000 in
set_option maxHeartbeats 2000000 in
theorem mat_solve_size (w : World) (v u : Value) (m c l : Nat) (M : Mat) (f : Nat → Rat) (h : MatQ w v m c M) (h' : SlQ w u l f) (hm : m ≤ 256) (hc : c ≤ 96) (hl : l ≠ m) :
    Calls Tryz.prog 33 #[v, u] w (Ret w fun _ v' => v' = .tuple #[.slice none 0 0, .int .i64 13]) := by
  have H := Hid.mk h
  obtain ⟨A0, c0, rfl, -, -, -⟩ := id h
  obtain ⟨B0, d0, rfl, -, -, -⟩ := id h'
  have hnn : ((l : Int) != (m : Int)) = true := by rw [bne_iff_ne]; omega
  clear h h' hl
  go_enter Tryz.func33, Tryz.ntmps33
  go_wp2_with fail
  refine (mat_size _ _ m c M H.out hm hc).mono ?_
  rintro e w1 ⟨⟨v1, rfl, rfl⟩, hx1⟩
  have HX := Hid.mk hx1
  clear hx1
  go_wp2_with fail
  go_ret2
  exact ⟨⟨_, rfl, rfl⟩, HX.out⟩

set_option maxRecDepth 100000 in
set_option maxHeartbeats 2000000 in
theorem mat_combine (w : World) (v u : Value) (m c : Nat) (M : Mat) (f : Nat → Rat) (h : MatQ w v m c M) (h' : SlQ w u c f) (hm : m ≤ 256) (hc : c ≤ 96) (hmc : m = 0 → c = 0) (b : Nat) (hb : 0 < b) (hs : TSz M m c b) (hs' : ∀ i, i < c → RSz (f i) b) (hsz : 5 ^ (c + 1) * b ≤ 100000000000) :
    Calls Tryz.prog 36 #[v, u] w (Ret w (SolvedP c m (steps c (wide m (transposed M) f) m))) := by
  have H := Hid.mk h
  have H' := Hid.mk h'
  have HS : Hid (TSz (wide m (transposed M) f) c (m + 1) b) := tsz_wide (fun i hi j hj => hs j hj i hi) hs'
  have HMC := Hid.mk hmc
  obtain ⟨A0, c0, rfl, -, -, -⟩ := id h
  obtain ⟨B0, d0, rfl, -, -, -⟩ := id h'
  have hnn : ((c : Int) != (c : Int)) = false := by simp
  clear h h' hs hs' hmc
  go_enter Tryz.func36, Tryz.ntmps36
  go_wp2_with fail
  refine (mat_size _ _ m c M H.out hm hc).mono ?_
  rintro e w1 ⟨⟨v1, rfl, rfl⟩, hx1⟩
  have HX := Hid.mk hx1
  clear hx1
  go_wp2_with fail
  refine (mat_columns _ _ m c M (H.out.x HX.out) (by omega) c (by have := HMC.out; split <;> omega)).mono ?_
  rintro e w3 ⟨⟨v3, rfl, rfl⟩, hx3⟩
  replace HX := Hid.mk (HX.out.trans hx3)
  clear hx3
  go_wp2_with fail
  refine (mat_transposed _ _ m c M (H.out.x HX.out) (by omega) (by omega) c (by have := HMC.out; split <;> omega)).mono ?_
  rintro e w4 ⟨⟨v4, rfl, hv4⟩, hx4⟩
  replace HX := Hid.mk (HX.out.trans hx4)
  have HT := Hid.mk hv4
  obtain ⟨T0, t0, rfl, -, -, -⟩ := id hv4
  clear hx4 hv4 hnn
  go_wp2_with fail
  refine (mat_with _ _ _ c m c (transposed M) f HT.out (H'.out.x HX.out) (Nat.le_refl _) (by omega) (by omega)).mono ?_
  rintro e w2 ⟨⟨v2, rfl, hv2⟩, hx2⟩
  replace HX := Hid.mk (HX.out.trans hx2)
  have HV := Hid.mk hv2
  clear hx2 hv2
  go_wp2_with fail
  refine (mat_solved _ _ c m (m + 1) (wide m (transposed M) f) HV.out (by omega) (by omega) (by omega) b hb HS.out hsz).mono ?_
  rintro e w4 ⟨⟨v4, rfl, hP⟩, hx4⟩
  replace HX := Hid.mk (HX.out.trans hx4)
  have HP := Hid.mk hP
  clear hx4 hP
  by_cases hz : ∀ i, (steps c (wide m (transposed M) f) m).piv.length ≤ i → i < c → (steps c (wide m (transposed M) f) m).M i m = 0
  · obtain ⟨X0, rfl, -⟩ := HP.out.1 hz
    clear hz
    go_wp2_with fail
    refine bodyPost_ret (v := .tuple #[X0, .int .i64 0]) (by simp [results, Tryz.results36, go_sem]) rfl ⟨⟨_, rfl, HP.out⟩, HX.out⟩
  · obtain rfl := HP.out.2 hz
    clear hz
    go_wp2_with fail
    refine bodyPost_ret (v := .tuple #[.slice none 0 0, .int .i64 21]) (by simp [results, Tryz.results36, go_sem]) rfl ⟨⟨_, rfl, HP.out⟩, HX.out⟩

set_option maxRecDepth 100000 in
set_option maxHeartbeats 2000000 in
theorem mat_combine_size (w : World) (v u : Value) (m c l : Nat) (M : Mat) (f : Nat → Rat) (h : MatQ w v m c M) (h' : SlQ w u l f) (hm : m ≤ 256) (hc : c ≤ 96) (hmc : m = 0 → c = 0) (hl : l ≠ c) :
    Calls Tryz.prog 36 #[v, u] w (Ret w fun _ v' => v' = .tuple #[.slice none 0 0, .int .i64 13]) := by
  have H := Hid.mk h
  have HMC := Hid.mk hmc
  obtain ⟨A0, c0, rfl, -, -, -⟩ := id h
  obtain ⟨B0, d0, rfl, -, -, -⟩ := id h'
  have hnn : ((l : Int) != (c : Int)) = true := by rw [bne_iff_ne]; omega
  clear h h' hl hmc
  go_enter Tryz.func36, Tryz.ntmps36
  go_wp2_with fail
  refine (mat_size _ _ m c M H.out hm hc).mono ?_
  rintro e w1 ⟨⟨v1, rfl, rfl⟩, hx1⟩
  have HX := Hid.mk hx1
  clear hx1
  go_wp2_with fail
  refine (mat_columns _ _ m c M (H.out.x HX.out) (by omega) c (by have := HMC.out; split <;> omega)).mono ?_
  rintro e w3 ⟨⟨v3, rfl, rfl⟩, hx3⟩
  replace HX := Hid.mk (HX.out.trans hx3)
  clear hx3
  go_wp2_with fail
  go_ret2
  exact ⟨⟨_, rfl, rfl⟩, HX.out⟩
end Go.Proofs.YtogakaiibijjpaaGreatDoor

/- The reference: Transpose. -/
set_option linter.unusedVariables false
set_option linter.unusedSimpArgs false
namespace Go.Proofs.YtogakaiibijjpaaGreatDoor
open Go.RowKit
open DDig DLin

theorem fvc_one' (a : FV) : ∀ u ∈ (#[Value.string a.p, .string a.q] : Array Value).toList, u.oneCell' = true := by
  intro u hu
  simp at hu
  rcases hu with rfl | rfl <;> rfl

/-- A further fraction in a list. -/
theorem frs_snoc {fs : List FV} {i : Nat} {f : Nat → Rat} {a : FV} (hl : fs.length = i) (hq : ∀ j a, fs[j]? = some a → FR a (f j)) (ha : FR a (f i)) : ∀ j x, (fs ++ [a])[j]? = some x → FR x (f j) := fun j x hj => by
  by_cases e : j = i
  · subst e
    rw [List.getElem?_append_right (by omega), hl] at hj
    simp at hj
    subst hj
    exact ha
  · have hil : j < fs.length := by
      have := (List.getElem?_eq_some_iff.1 hj).1
      simp at this
      omega
    rw [List.getElem?_append_left hil] at hj
    exact hq j x hj

set_option maxRecDepth 100000 in
set_option maxHeartbeats 4000000 in
theorem ref_transpose (w : World) (v : Value) (m c : Nat) (M : Mat) (h : MatF w v m c M) (hm : m ≤ 1000) (hc : c ≤ 1000) (d : Nat) (hd : d = if m = 0 then 0 else c) :
    Calls Tryz.prog 37 #[v] w (Ret w fun w' v' => MatF w' v' d m (transposed M)) := by
  have H := Hid.mk h
  have HD := Hid.mk hd
  have hdc : d ≤ c := by split at hd <;> omega
  obtain ⟨A0, c0, rfl, -, -, -⟩ := id h
  clear h hd
  go_enter Tryz.func37, Tryz.ntmps37
  go_wp2_with fail
  go_loopw [3, 4] (fun tO tK wr => ∃ (k : Nat) (us : List Value), k ≤ d ∧ tK = .int .i64 k ∧ OwnC IsSl wr w.heap.size 51 1 tO k us ∧ us.length = k ∧ (∀ j u, us[j]? = some u → SlF wr u m (transposed M j)) ∧ X w wr) (fun _ t _ => d - (intOf t).toNat)
  case atStart => exact ⟨0, [], Nat.zero_le _, rfl, OwnC.nil _ _ _ _ _, rfl, by simp, X.refl _⟩
  case round =>
    obtain ⟨k, us, hk, rfl, ho, hl, hu, hx⟩ := hrel
    have HO := Hid.mk ho
    have HU := Hid.mk hu
    have HX := Hid.mk hx
    clear ho hu hx
    go_wp2_with fail
    refine (ref_columns _ _ m c M (H.out.x HX.out) (by omega) d HD.out).mono ?_
    rintro e w1 ⟨⟨v1, rfl, rfl⟩, hx1⟩
    replace HX := Hid.mk (HX.out.trans hx1)
    replace HO := Hid.mk (HO.out.x hx1)
    replace HU := Hid.mk (fun t u ht => (HU.out t u ht).x hx1)
    clear hx1
    by_cases hkd : k < d
    · have hkd' : (k : Int) < (d : Int) := by omega
      have hm0 : 0 < m := by
        have := HD.out
        split at this <;> omega
      have hkc : k < c := by omega
      go_wp2_with fail
      go_loopw [5, 6] (fun tR tI w5 => ∃ (i : Nat) (fs : List FV), i ≤ m ∧ tI = .int .i64 i ∧ w5.ownsRow w1.heap.size 84 2 tR i (fcs fs) ∧ fs.length = i ∧ (∀ j a, fs[j]? = some a → FR a (transposed M k j)) ∧ X w1 w5) (fun _ t _ => m - (intOf t).toNat)
      case atStart => exact ⟨0, [], Nat.zero_le _, rfl, World.ownsRow_nil _ _ _ _, rfl, by simp, X.refl _⟩
      case round =>
        obtain ⟨i, fs, hi, rfl, hro, hlf, hq, hx⟩ := hrel
        have HRO := Hid.mk hro
        have HQ := Hid.mk hq
        have HX5 := Hid.mk hx
        clear hro hq hx
        by_cases him : i < m
        · have him' : (i : Int) < (m : Int) := by omega
          have hkc' : (k : Int) < (c : Int) := by omega
          obtain ⟨b1, o1, d1, b2, o2, a, rfl, c1, e0, e1, ha⟩ := (H.out.x (HX.out.trans HX5.out)).elem him hkc
          have HA := Hid.mk ha
          have hkb : (i + 1) * 32 ≤ 140737488355328 := by omega
          clear ha
          go_wp2_with (at_builtin; refine append_lit w1 _ rfl _ _ 51 rfl 84 (.agg #[.string ⟨#[]⟩, .string ⟨#[]⟩]) 2 32 Tryz.underlying51 info_F rfl (by omega) _ _ _ rfl HRO.out _ _ _ rfl rfl (fvc_one' a) (by omega) (by omega) HX5.out ?_; intro v2 w2 ho2 hx2; have HO4 := Hid.mk ho2; have HX4 := Hid.mk hx2; clear ho2 hx2)
          go_roundw
          case rel => exact ⟨i + 1, fs ++ [a], by omega, by go_num, by rw [fcs_snoc]; exact HO4.out, by simp [hlf], frs_snoc hlf HQ.out HA.out, HX4.out⟩
          case measure => simp [intOf]; omega
        · obtain rfl : i = m := by omega
          have him' : ¬ (i : Int) < (i : Int) := by omega
          have hrow := SlF.own HRO.out hlf HQ.out
          obtain ⟨RA, rc, rfl, -, -, -⟩ := id hrow
          have HRow := Hid.mk hrow
          have HO2 := Hid.mk (HO.out.x HX5.out)
          have HU2 := Hid.mk (fun t u ht => (HU.out t u ht).x HX5.out)
          have HX9 := Hid.mk (HX.out.trans HX5.out)
          have hlb : (k + 1) * 24 ≤ 140737488355328 := by omega
          clear him hi HX5 HO HU HX hrow HRO
          go_wp2_with (at_builtin; refine append_oneC IsSl w _ rfl _ _ 26 rfl 51 (.slice none 0 0) 1 24 Tryz.underlying26 info_sF rfl (by omega) (fun u hu => ⟨none, 0, 0, by simpa [Value.cells] using hu⟩) _ _ _ rfl HO2.out _ _ _ rfl rfl (by simp [Value.oneCell']) (fun u hu => ⟨_, _, _, by simpa using hu⟩) (by omega) (by omega) HX9.out ?_; intro v9 w9 ho9 hx9 hk9; have HO9 := Hid.mk ho9; have HXa := Hid.mk hx9; have HU9 := Hid.mk (fun i u hi => (HU2.out i u hi).kApp HO2.out hk9); have HR9 := Hid.mk (HRow.out.kApp HO2.out hk9); clear ho9 hx9 hk9)
          go_roundw
          case rel => exact ⟨k + 1, us ++ [.slice RA i rc], by omega, by go_num, HO9.out, by simp [hl], rows_snoc (S := SlF) hl HU9.out HR9.out, HXa.out⟩
          case measure => simp [intOf]; omega
    · obtain rfl : k = d := by omega
      have HF := Hid.mk (SlM.own (S := SlF) (M := transposed M) (c := m) HO.out.1 hl HU.out)
      have hkd' : ¬ (k : Int) < (k : Int) := by omega
      clear hkd hk
      go_wp2_with fail
      go_ret
      exact ⟨⟨_, rfl, HF.out⟩, HX.out⟩
end Go.Proofs.YtogakaiibijjpaaGreatDoor

/- The reference: Dot, Product, Apply. -/
set_option linter.unusedVariables false
set_option linter.unusedSimpArgs false
namespace Go.Proofs.YtogakaiibijjpaaGreatDoor
open Go.RowKit
open DDig DLin

/-- Cells of texts. -/
def IsStr (u : Value) : Prop := ∃ s, u = .string s
theorem str_fvc (a : FV) : ∀ u ∈ (#[Value.string a.p, .string a.q] : Array Value).toList, IsStr u := by
  intro u hu
  simp at hu
  rcases hu with rfl | rfl
  · exact ⟨_, rfl⟩
  · exact ⟨_, rfl⟩
theorem str_zero : ∀ u ∈ (Value.agg #[.string ⟨#[]⟩, .string ⟨#[]⟩]).cells.toList, IsStr u := by
  intro u hu
  have h2 : (Value.agg #[.string ⟨#[]⟩, .string ⟨#[]⟩]).cells.toList = [.string ⟨#[]⟩, .string ⟨#[]⟩] := by rfl
  rw [h2] at hu
  simp at hu
  exact ⟨_, hu⟩

set_option maxRecDepth 100000 in
set_option maxHeartbeats 8000000 in
theorem ref_dot (w : World) (v u : Value) (n m : Nat) (f e : Nat → Rat) (h : SlF w v n f) (h' : SlF w u m e) (hnm : n ≤ m) (k l : Nat) (hs : ∀ i, i < n → RSz (f i) k) (hs' : ∀ i, i < n → RSz (e i) l) (hsz : n * (k + l + 1) + 1 ≤ 10000000000) :
    Calls Tryz.prog 82 #[v, u] w (Ret w fun w' v' => ∃ r : FV, v' = r.v ∧ FR r (sm n fun i => f i * e i)) := by
  have HSS : Hid (∀ i, i < n → RSz (sm i fun j => f j * e j) (i * (k + l + 1) + 1) ∧ i * (k + l + 1) + 1 + (k + l) ≤ 20000000000) := fun i hi => by
    refine ⟨dot_size hs hs' i (by omega), ?_⟩
    have h1 : (i + 1) * (k + l + 1) ≤ n * (k + l + 1) := Nat.mul_le_mul_right _ hi
    rw [Nat.succ_mul] at h1
    omega
  have hnb : n ≤ 549755813888 := by
    have : n * 1 ≤ n * (k + l + 1) := Nat.mul_le_mul_left _ (by omega)
    omega
  have HM : Hid (∀ i, i < n → RSz (f i) k ∧ RSz (e i) l ∧ k + l ≤ 20000000000) := fun i hi => by
    have := (HSS.out i hi).2
    exact ⟨hs i hi, hs' i hi, by omega⟩
  obtain ⟨A, c, rfl, h1, h2, h3⟩ := h
  obtain ⟨B, d, rfl, h1', h2', h3'⟩ := h'
  have HA := Hid.mk h3
  have HB := Hid.mk h3'
  clear h1 h2 h3 hs h1' h2' h3' hs' hsz
  go_enter Tryz.func82, Tryz.ntmps82
  go_upto_region 2 with (fail)
  obtain ⟨W, hW, hX, b0, b1⟩ := setup2f w #[.string ⟨#[]⟩, .string ⟨#[]⟩] #[.string ⟨#[48]⟩, .string ⟨#[49]⟩] 84 84
  rw [hW]
  clear hW
  have B0 := Hid.mk b0
  have B1 := Hid.mk b1
  have HXW := Hid.mk hX
  clear b0 b1 hX
  go_wp2_with fail
  go_loopw [6] (fun t6 wr => ∃ (i : Nat) (r : FV), i ≤ n ∧ t6 = .int .i64 i ∧ Blk wr w.heap.size 84 [.string ⟨#[]⟩, .string ⟨#[]⟩] ∧ Blk wr (w.heap.size + 1) 84 (fvc r) ∧ FR r (sm i fun j => f j * e j) ∧ X w wr) (fun t _ => n - (intOf t).toNat)
  case atStart => exact ⟨0, ⟨⟨#[48]⟩, ⟨#[49]⟩⟩, Nat.zero_le _, rfl, B0.out, B1.out, fzero, HXW.out⟩
  case round =>
    clear B0 B1 HXW
    obtain ⟨i, r, hi, rfl, hb0, hb1, hr, hx⟩ := hrel
    have HR := Hid.mk hr
    have HX := Hid.mk hx
    have B0 := Hid.mk hb0
    have B1 := Hid.mk hb1
    clear hr hx hb0 hb1
    by_cases hin : i < n
    · have hin' : (i : Int) < (n : Int) := by omega
      have him' : (i : Int) < (m : Int) := by omega
      obtain ⟨bA, oA, rfl, gg⟩ := HA.out (by omega)
      obtain ⟨a, c0, c1, ha⟩ := gg i hin
      obtain ⟨bB, oB, rfl, gg'⟩ := HB.out (by omega)
      obtain ⟨b, d0, d1, hb⟩ := gg' i (by omega)
      have hs3 := HSS.out i hin
      have hm3 := HM.out i hin
      obtain ⟨x, hxx⟩ : ∃ x, x = f i := ⟨_, rfl⟩
      obtain ⟨y, hyy⟩ : ∃ y, y = e i := ⟨_, rfl⟩
      obtain ⟨s, hss⟩ : ∃ s, s = sm i fun j => f j * e j := ⟨_, rfl⟩
      obtain ⟨q, hq⟩ : ∃ q, q = i * (k + l + 1) + 1 := ⟨_, rfl⟩
      rw [← hxx] at ha hm3
      rw [← hyy] at hb hm3
      rw [← hss] at HR hs3
      rw [← hq] at hs3
      have HNEXT : Hid (s + x * y = sm (i + 1) fun j => f j * e j) := by rw [sm_succ, hss, hxx, hyy]; exact Hid.mk rfl
      have HS3 := Hid.mk hs3
      have HM3 := Hid.mk hm3
      have HRA := Hid.mk ha
      have HRB := Hid.mk hb
      have HC := Hid.mk (fun w' (h : X wr w') => (⟨(B1.out.x h).cell (j := 0) rfl, (B1.out.x h).cell (j := 1) rfl, (HX.out.trans h).cell c0, (HX.out.trans h).cell c1, (HX.out.trans h).cell d0, (HX.out.trans h).cell d1⟩ : w'.cell? ⟨w.heap.size + 1, 0, none⟩ = some (.string r.p) ∧ w'.cell? ⟨w.heap.size + 1, 1, none⟩ = some (.string r.q) ∧ w'.cell? ⟨bA, oA + i * 2, none⟩ = some (.string a.p) ∧ w'.cell? ⟨bA, oA + i * 2 + 1, none⟩ = some (.string a.q) ∧ w'.cell? ⟨bB, oB + i * 2, none⟩ = some (.string b.p) ∧ w'.cell? ⟨bB, oB + i * 2 + 1, none⟩ = some (.string b.q)))
      clear gg gg' ha hb hxx hyy hss hq hs3 hm3 c0 c1 d0 d1
      have hz0 : X wr wr.drew := ⟨rfl, rfl, rfl, Nat.le_refl _, fun _ _ => rfl⟩
      go_wp2_with fail
      have hS0 : (fun w' : World => w'.cell? ⟨w.heap.size + 1, 0, none⟩ = some (.string r.p) ∧ w'.cell? ⟨w.heap.size + 1, 1, none⟩ = some (.string r.q) ∧ w'.cell? ⟨bA, oA + i * 2, none⟩ = some (.string a.p) ∧ w'.cell? ⟨bA, oA + i * 2 + 1, none⟩ = some (.string a.q) ∧ w'.cell? ⟨bB, oB + i * 2, none⟩ = some (.string b.p) ∧ w'.cell? ⟨bB, oB + i * 2 + 1, none⟩ = some (.string b.q)) _ := HC.out _ hz0
      refine AnyE.start (S := fun w' : World => w'.cell? ⟨w.heap.size + 1, 0, none⟩ = some (.string r.p) ∧ w'.cell? ⟨w.heap.size + 1, 1, none⟩ = some (.string r.q) ∧ w'.cell? ⟨bA, oA + i * 2, none⟩ = some (.string a.p) ∧ w'.cell? ⟨bA, oA + i * 2 + 1, none⟩ = some (.string a.q) ∧ w'.cell? ⟨bB, oB + i * 2, none⟩ = some (.string b.p) ∧ w'.cell? ⟨bB, oB + i * 2 + 1, none⟩ = some (.string b.q)) 11 (by kernel_rfl) ?_
      refine AnyE.take (i := 0) (v := ?_) rfl (by kernel_rfl) (by kernel_rfl) (fun _ _ _ h => h) (Or.inl ⟨by rfl, ?_⟩) hS0 ?_
      rotate_left
      · (intro w' hSw; (try dsimp only at hSw); go_simp; try with_reducible rfl)
      try simp only [Act.put, List.setIfInBounds_toArray, List.set_cons_zero, List.set_cons_succ]
      refine AnyE.take (i := 1) (v := ?_) rfl (by kernel_rfl) (by kernel_rfl) (fun _ _ _ h => h) (Or.inl ⟨by rfl, ?_⟩) hS0 ?_
      rotate_left
      · (intro w' hSw; (try dsimp only at hSw); go_simp; try with_reducible rfl)
      try simp only [Act.put, List.setIfInBounds_toArray, List.set_cons_zero, List.set_cons_succ]
      refine AnyE.take (i := 2) (v := ?_) rfl (by kernel_rfl) (by kernel_rfl) (fun _ _ _ h => h) (Or.inl ⟨by rfl, ?_⟩) hS0 ?_
      rotate_left
      · (intro w' hSw; (try dsimp only at hSw); go_simp; try with_reducible rfl)
      try simp only [Act.put, List.setIfInBounds_toArray, List.set_cons_zero, List.set_cons_succ]
      refine AnyE.take (i := 3) (v := ?_) rfl (by kernel_rfl) (by kernel_rfl) (fun _ _ _ h => h) (Or.inl ⟨by rfl, ?_⟩) hS0 ?_
      rotate_left
      · (intro w' hSw; (try dsimp only at hSw); go_simp; try with_reducible rfl)
      try simp only [Act.put, List.setIfInBounds_toArray, List.set_cons_zero, List.set_cons_succ]
      refine AnyE.take (i := 4) (v := ?_) rfl (by kernel_rfl) (by kernel_rfl) (fun _ _ _ h => h) (Or.inl ⟨by rfl, ?_⟩) hS0 ?_
      rotate_left
      · (intro w' hSw; (try dsimp only at hSw); go_simp; try with_reducible rfl)
      try simp only [Act.put, List.setIfInBounds_toArray, List.set_cons_zero, List.set_cons_succ]
      refine AnyE.take (i := 5) (v := ?_) rfl (by kernel_rfl) (by kernel_rfl) (fun _ _ _ h => h) (Or.inl ⟨by rfl, ?_⟩) hS0 ?_
      rotate_left
      · (intro w' hSw; (try dsimp only at hSw); go_simp; try with_reducible rfl)
      try simp only [Act.put, List.setIfInBounds_toArray, List.set_cons_zero, List.set_cons_succ]
      refine AnyE.take (i := 6) (v := ?_) rfl (by kernel_rfl) (by kernel_rfl) (fun _ _ _ h => h) (Or.inl ⟨by rfl, ?_⟩) hS0 ?_
      rotate_left
      · (intro w' hSw; (try dsimp only at hSw); go_simp; try with_reducible rfl)
      try simp only [Act.put, List.setIfInBounds_toArray, List.set_cons_zero, List.set_cons_succ]
      refine AnyE.take (i := 7) (v := ?_) rfl (by kernel_rfl) (by kernel_rfl) (fun _ _ _ h => h) (Or.inl ⟨by rfl, ?_⟩) hS0 ?_
      rotate_left
      · (intro w' hSw; (try dsimp only at hSw); go_simp; try with_reducible rfl)
      try simp only [Act.put, List.setIfInBounds_toArray, List.set_cons_zero, List.set_cons_succ]
      refine AnyE.take (i := 8) (v := ?_) rfl (by kernel_rfl) (by kernel_rfl) (fun _ _ _ h => h) (Or.inl ⟨by rfl, ?_⟩) hS0 ?_
      rotate_left
      · (intro w' hSw; (try dsimp only at hSw); go_simp; try with_reducible rfl)
      try simp only [Act.put, List.setIfInBounds_toArray, List.set_cons_zero, List.set_cons_succ]
      refine AnyE.one (i := 9) rfl (by kernel_rfl) fun K' hK => ?_
      go_simp
      go_at_call 59
      refine (ref_fmul _ a b x y HRA.out HRB.out k l HM3.out.1 HM3.out.2.1 HM3.out.2.2).mono ?_
      rintro e3 w3 ⟨⟨v3, rfl, r3, rfl, hr3⟩, hx3⟩
      have hz1 := hz0.trans hx3
      have hS1 := HC.out _ hz1
      refine hK.out _ _ (Or.inr hS1) ?_
      try simp only [Act.put, List.setIfInBounds_toArray, List.set_cons_zero, List.set_cons_succ]
      clear hK hS0
      refine AnyE.one (i := 10) rfl (by kernel_rfl) fun K' hK => ?_
      go_simp
      go_at_call 58
      refine (ref_fadd _ r r3 s (x * y) HR.out hr3 q (k + l) HS3.out.1 (HM3.out.1.mul HM3.out.2.1) HS3.out.2).mono ?_
      rintro e4 w4 ⟨⟨v4, rfl, r4, rfl, hr4⟩, hx4⟩
      have hz2 := hz1.trans hx4
      have hS2 := HC.out _ hz2
      refine hK.out _ _ (Or.inr hS2) ?_
      try simp only [Act.put, List.setIfInBounds_toArray, List.set_cons_zero, List.set_cons_succ]
      clear hK hS1
      have hb4 := B1.out.x hz2
      have k0 := hb4.cell (j := 0) rfl; have k1 := hb4.cell (j := 1) rfl; have f0 := hb4.frozen 0; have f1 := hb4.frozen 1
      have HB0 := Hid.mk (((B0.out.x hz2).other (p := ⟨w.heap.size + 1, 0, none⟩) (by simp) (.string r4.p)).other (p := ⟨w.heap.size + 1, 1, none⟩) (by simp) (.string r4.q))
      have HB1 := Hid.mk ((hb4.set 0 (.string r4.p)).set 1 (.string r4.q))
      have HR4 := Hid.mk hr4
      have HX4 := Hid.mk (((HX.out.trans hz2).set (p := ⟨w.heap.size + 1, 0, none⟩) (by simp) (.string r4.p)).set (p := ⟨w.heap.size + 1, 1, none⟩) (by simp) (.string r4.q))
      clear hb4 hr3 hr4 hx3 hx4 hz0 hz1 hz2 hS2 HC HR B0 B1 HX
      refine AnyE.one (i := 11) rfl (by kernel_rfl) fun K'' hK2 => ?_
      go_simp
      refine hK2.out _ _ (Or.inl (Nat.le_refl _)) (AnyE.done (by kernel_rfl) ?_ _)
      try simp only [Act.put, List.setIfInBounds_toArray, List.set_cons_zero, List.set_cons_succ]
      clear hK2
      go_wp2_with fail
      go_roundw
      case rel => exact ⟨i + 1, r4, by omega, by go_num, HB0.out, HB1.out, by rw [← HNEXT.out]; exact HR4.out, HX4.out⟩
      case measure => simp [intOf]; omega
    · obtain rfl : i = n := by omega
      have hin' : ¬ (i : Int) < (i : Int) := by omega
      have p2 := B0.out
      have p3 := B1.out
      have c0 := p3.cell (j := 0) rfl; have c1 := p3.cell (j := 1) rfl
      have k0 := p2.cell (j := 0) rfl; have k1 := p2.cell (j := 1) rfl; have f0 := p2.frozen 0; have f1 := p2.frozen 1
      have K := two_cells (w := wr) (g := w.heap.size) (.string r.p) (.string r.q) k0 k1
      have HXF := Hid.mk ((HX.out.set (p := ⟨w.heap.size, 0, none⟩) (Nat.le_refl _) (.string r.p)).set (p := ⟨w.heap.size, 1, none⟩) (Nat.le_refl _) (.string r.q))
      clear p2 p3 hin hi
      go_wp2_with fail
      exact bodyPost_ret (v := r.v) (by simp [results, Tryz.results82, go_sem, K.1, K.2]) rfl ⟨⟨_, rfl, r, rfl, HR.out⟩, HXF.out⟩

theorem MatF.rows {w : World} {A : Option Addr} {m c k : Nat} {M : Nat → Nat → Rat} (h : MatF w (.slice A m k) m c M) (h0 : 0 < m) :
    ∃ b o, A = some ⟨b, o, Option.none⟩ ∧ ∀ i, i < m → ∃ u, w.cell? ⟨b, o + i, Option.none⟩ = some u ∧ SlF w u c (M i) := by
  obtain ⟨A', k', e, h1, h2, h3⟩ := h
  injection e with e1 e2 e3
  subst e1
  exact h3 h0

set_option maxRecDepth 100000 in
set_option maxHeartbeats 4000000 in
theorem ref_apply (w : World) (v u : Value) (m c l : Nat) (M : Mat) (f : Nat → Rat) (h : MatF w v m c M) (h' : SlF w u l f) (hm : m ≤ 1000000) (hl : m = 0 ∨ c ≤ l) (k j : Nat) (hs : TSz M m c k) (hs' : ∀ i, i < c → RSz (f i) j) (hsz : c * (k + j + 1) + 1 ≤ 10000000000) :
    Calls Tryz.prog 46 #[v, u] w (Ret w fun w' R => SlF w' R m (ap c M f)) := by
  have H' := Hid.mk h'
  have HS := Hid.mk hs
  have HS' := Hid.mk hs'
  obtain ⟨A0, c0, rfl, p1, p2, p3⟩ := id h
  obtain ⟨B0, d0, rfl, -, -, -⟩ := id h'
  have HA := Hid.mk p3
  clear h p1 p2 p3 h' hs hs'
  go_enter Tryz.func46, Tryz.ntmps46
  go_wp2_with fail
  go_loopw [5, 6] (fun t5 t6 wr => ∃ (i : Nat) (fs : List FV), i ≤ m ∧ t6 = .int .i64 i ∧ wr.ownsRow w.heap.size 84 2 t5 i (fcs fs) ∧ fs.length = i ∧ (∀ j a, fs[j]? = some a → FR a (ap c M f j)) ∧ X w wr) (fun _ t _ => m - (intOf t).toNat)
  case atStart => exact ⟨0, [], Nat.zero_le _, rfl, World.ownsRow_nil _ _ _ _, rfl, by simp, X.refl _⟩
  case round =>
    obtain ⟨i, fs, hi, rfl, ho, hql, hq, hx⟩ := hrel
    have HO := Hid.mk ho
    have HQ := Hid.mk hq
    have HX := Hid.mk hx
    clear ho hq hx
    by_cases him : i < m
    · have him' : (i : Int) < (m : Int) := by omega
      obtain ⟨b, o, rfl, gg⟩ := HA.out (by omega)
      obtain ⟨x, c1, hx⟩ := gg i him
      obtain ⟨B1, d1, rfl, -, -, -⟩ := id hx
      replace c1 := HX.out.cell c1
      have HRx := Hid.mk (hx.x HX.out)
      have hcl : c ≤ l := by omega
      clear gg hx
      go_wp2_with fail
      refine (ref_dot _ _ _ c l (M i) f HRx.out (H'.out.x HX.out) hcl k j (HS.out i him) HS'.out hsz).mono ?_
      rintro e w2 ⟨⟨v2, rfl, r, rfl, hr⟩, hx2⟩
      replace HX := Hid.mk (HX.out.trans hx2)
      replace HO := Hid.mk (own_x HO.out hx2)
      have HR := Hid.mk hr
      have hib : (i + 1) * 32 ≤ 140737488355328 := by omega
      clear hx2 hr c1
      go_wp2_with (at_builtin; refine append_lit w _ rfl _ _ 51 rfl 84 (.agg #[.string ⟨#[]⟩, .string ⟨#[]⟩]) 2 32 Tryz.underlying51 info_F rfl (by omega) _ _ _ rfl HO.out _ _ _ rfl rfl (fvc_one' r) (by omega) (by omega) HX.out ?_; intro v2 w2 ho2 hx2; have HO4 := Hid.mk ho2; have HX4 := Hid.mk hx2; clear ho2 hx2)
      go_roundw
      case rel => exact ⟨i + 1, fs ++ [r], by omega, by go_num, by rw [fcs_snoc]; exact HO4.out, by simp [hql], frs_snoc hql HQ.out HR.out, HX4.out⟩
      case measure => simp [intOf]; omega
    · obtain rfl : i = m := by omega
      have HF := Hid.mk (SlF.own HO.out hql HQ.out)
      have hin' : ¬ (i : Int) < (i : Int) := by omega
      clear him hi
      go_wp2_with fail
      go_ret
      exact ⟨⟨_, rfl, HF.out⟩, HX.out⟩

set_option maxRecDepth 100000 in
set_option maxHeartbeats 8000000 in
theorem ref_product (w : World) (v u : Value) (m c p q : Nat) (A B : Mat) (h : MatF w v m c A) (h' : MatF w u p q B) (hm : m ≤ 1000) (hp : p ≤ 1000) (hq : q ≤ 1000) (hcp : m = 0 ∨ c ≤ p) (d : Nat) (hd : d = if p = 0 then 0 else q) (k j : Nat) (hs : TSz A m c k) (hs' : TSz B p q j) (hsz : c * (k + j + 1) + 1 ≤ 10000000000) :
    Calls Tryz.prog 45 #[v, u] w (Ret w fun w' R => MatF w' R m d (prodv c A B)) := by
  have H' := Hid.mk h'
  have HS := Hid.mk hs
  have HS' := Hid.mk hs'
  have HD := Hid.mk hd
  have HCP := Hid.mk hcp
  have hdq : d ≤ q := by split at hd <;> omega
  obtain ⟨A0, c0, rfl, -, -, p3⟩ := id h
  obtain ⟨B0, d0, rfl, -, -, -⟩ := id h'
  have HA := Hid.mk p3
  clear h h' p3 hs hs' hd hcp
  go_enter Tryz.func45, Tryz.ntmps45
  go_wp2_with fail
  refine (ref_transpose _ _ p q B H'.out (by omega) (by omega) d HD.out).mono ?_
  rintro e w3 ⟨⟨v3, rfl, hv3⟩, hx3⟩
  have HX := Hid.mk hx3
  obtain ⟨T0, t0, rfl, -, -, q3⟩ := id hv3
  have HT := Hid.mk q3
  clear hv3 hx3 q3
  go_wp2_with fail
  go_loopw [5, 7] (fun t5 t7 wr => ∃ (i : Nat) (us : List Value), i ≤ m ∧ t7 = .int .i64 i ∧ OwnC IsSl wr w3.heap.size 51 1 t5 i us ∧ us.length = i ∧ (∀ j u, us[j]? = some u → SlF wr u d (prodv c A B j)) ∧ X w3 wr) (fun _ t _ => m - (intOf t).toNat)
  case atStart => exact ⟨0, [], Nat.zero_le _, rfl, OwnC.nil _ _ _ _ _, rfl, by simp, X.refl _⟩
  case round =>
    obtain ⟨i, us, hi, rfl, ho, hl, hu, hx⟩ := hrel
    have HO := Hid.mk ho
    have HU := Hid.mk hu
    have HX3 := Hid.mk hx
    clear ho hu hx
    by_cases him : i < m
    · have him' : (i : Int) < (m : Int) := by omega
      obtain ⟨b, o, rfl, gg⟩ := HA.out (by omega)
      obtain ⟨x, c1, hx⟩ := gg i him
      obtain ⟨B1, d1, rfl, -, -, -⟩ := id hx
      replace c1 := (HX.out.trans HX3.out).cell c1
      have HC1 := Hid.mk c1
      have HRx := Hid.mk (hx.x (HX.out.trans HX3.out))
      have hcp : c ≤ p := by have := HCP.out; omega
      clear gg hx c1
      obtain ⟨w4, hw4⟩ : ∃ w4, w4 = wr := ⟨_, rfl⟩
      subst hw4
      go_wp2_with fail
      go_loopw [8, 9] (fun t8 t9 w5 => ∃ (y : Nat) (fs : List FV), y ≤ d ∧ t9 = .int .i64 y ∧ OwnC IsStr w5 w4.heap.size 84 2 t8 y (fcs fs) ∧ fs.length = y ∧ (∀ j a, fs[j]? = some a → FR a (prodv c A B i j)) ∧ X w4 w5) (fun _ t _ => d - (intOf t).toNat)
      case atStart => exact ⟨0, [], Nat.zero_le _, rfl, OwnC.nil _ _ _ _ _, rfl, by simp, X.refl _⟩
      case round =>
        obtain ⟨y, fs, hy, rfl, hro, hlf, hq, hx⟩ := hrel
        have HRO := Hid.mk hro
        have HQ := Hid.mk hq
        have HX5 := Hid.mk hx
        clear hro hq hx
        by_cases hyd : y < d
        · have hyd' : (y : Int) < (d : Int) := by omega
          obtain ⟨b2, o2, rfl, gg⟩ := HT.out (by omega)
          obtain ⟨x2, c2, hx2⟩ := gg y hyd
          obtain ⟨B2, d2, rfl, -, -, -⟩ := id hx2
          replace c2 := HX3.out.cell c2
          have HR2 := Hid.mk (hx2.x HX3.out)
          have HC := Hid.mk (fun w' (h : X w4 w') => (⟨h.cell HC1.out, h.cell c2⟩ : w'.cell? ⟨b, o + i, none⟩ = some (.slice B1 c d1) ∧ w'.cell? ⟨b2, o2 + y, none⟩ = some (.slice B2 p d2)))
          have hkb : (y + 1) * 32 ≤ 140737488355328 := by omega
          have hz0 : X wr wr.drew := ⟨rfl, rfl, rfl, Nat.le_refl _, fun _ _ => rfl⟩
          have hS0 := HC.out wr HX5.out
          clear gg hx2 c2
          go_wp2_with fail
          go_region_held3 (fun w' => w'.cell? ⟨b, o + i, none⟩ = some (.slice B1 c d1) ∧ w'.cell? ⟨b2, o2 + y, none⟩ = some (.slice B2 p d2))
            (go_keep)
            (first
              | (have hguard := hz0; go_at_call 82; refine (ref_dot _ _ _ c p (A i) (transposed B y) (HRx.out.x (HX5.out.trans hz0)) (HR2.out.x (HX5.out.trans hz0)) (by omega) k j (HS.out i him) (fun t ht => HS'.out t (by omega) y (by omega)) hsz).mono ?_; rintro e w6 ⟨⟨v6, rfl, r, rfl, hr⟩, hx6⟩; have hz1 := hz0.trans hx6; have hS1 := HC.out w6 (HX5.out.trans hz1); have hRO := HRO.out.x hz1)
              | (refine step_append_oneC IsStr w4 _ rfl (.tmp 24) (.tmp 34) 51 rfl 84 (.agg #[.string ⟨#[]⟩, .string ⟨#[]⟩]) 2 32 Tryz.underlying51 info_F rfl (by omega) str_zero _ _ _ rfl hRO _ _ _ rfl rfl (by simp [Value.oneCell']) (fun u hu => (by exact str_fvc r u hu)) (by omega) (by omega) (HX5.out.trans hz1) ?_; intro v7 w7 ho7 hx7 hk7; have hS2 := HC.out w7 hx7; have HRO7 := Hid.mk ho7; have HX7 := Hid.mk hx7; clear ho7 hx7 hk7))
          have HR := Hid.mk hr
          clear hz0 hz1 hx6 hr hS0 hS1 hS2 HC hRO
          go_wp2_with fail
          go_roundw
          case rel => exact ⟨y + 1, fs ++ [r], by omega, by go_num, by rw [fcs_snoc]; exact HRO7.out, by simp [hlf], frs_snoc hlf HQ.out HR.out, HX7.out⟩
          case measure => simp [intOf]; omega
        · obtain rfl : y = d := by omega
          have hyd' : ¬ (y : Int) < (y : Int) := by omega
          have hrow := SlF.own HRO.out.1 hlf HQ.out
          obtain ⟨RA, rc, rfl, -, -, -⟩ := id hrow
          have HRow := Hid.mk hrow
          have HO2 := Hid.mk (HO.out.x HX5.out)
          have HU2 := Hid.mk (fun t u ht => (HU.out t u ht).x HX5.out)
          have HX9 := Hid.mk (HX3.out.trans HX5.out)
          have hlb : (i + 1) * 24 ≤ 140737488355328 := by omega
          clear hyd hy HX5 HO HU HX3 hrow HRO HC1
          go_wp2_with (at_builtin; refine append_oneC IsSl w3 _ rfl _ _ 26 rfl 51 (.slice none 0 0) 1 24 Tryz.underlying26 info_sF rfl (by omega) (fun u hu => ⟨none, 0, 0, by simpa [Value.cells] using hu⟩) _ _ _ rfl HO2.out _ _ _ rfl rfl (by simp [Value.oneCell']) (fun u hu => ⟨_, _, _, by simpa using hu⟩) (by omega) (by omega) HX9.out ?_; intro v9 w9 ho9 hx9 hk9; have HO9 := Hid.mk ho9; have HXa := Hid.mk hx9; have HU9 := Hid.mk (fun i u hi => (HU2.out i u hi).kApp HO2.out hk9); have HR9 := Hid.mk (HRow.out.kApp HO2.out hk9); clear ho9 hx9 hk9)
          go_roundw
          case rel => exact ⟨i + 1, us ++ [.slice RA y rc], by omega, by go_num, HO9.out, by simp [hl], rows_snoc (S := SlF) hl HU9.out HR9.out, HXa.out⟩
          case measure => simp [intOf]; omega
    · obtain rfl : i = m := by omega
      have HF := Hid.mk (SlM.own (S := SlF) (M := prodv c A B) (c := d) HO.out.1 hl HU.out)
      have HXF := Hid.mk (HX.out.trans HX3.out)
      have him' : ¬ (i : Int) < (i : Int) := by omega
      clear him hi
      go_wp2_with fail
      go_ret
      exact ⟨⟨_, rfl, HF.out⟩, HXF.out⟩
end Go.Proofs.YtogakaiibijjpaaGreatDoor

/- The law MatrixRanks: the walk. -/
set_option linter.unusedVariables false
set_option linter.unusedSimpArgs false
namespace Go.Proofs.YtogakaiibijjpaaGreatDoor
open Go.RowKit
open DDig DLin

theorem frees_add (l : List Nat) (k : Nat) : frees (l ++ [k]) k = frees l k := by
  unfold frees
  apply List.filter_congr
  intro x hx
  rw [List.mem_range] at hx
  have : x ≠ k := by omega
  simp [this]
theorem frees_count {m : Nat} {M : Mat} : ∀ k, (frees (steps m M k).piv k).length + (steps m M k).piv.length = k
  | 0 => rfl
  | k + 1 => by
    have ih := frees_count (m := m) (M := M) k
    have hlt : k ∉ (steps m M k).piv := fun h => by have := piv_lt k h; omega
    show (frees (DLin.step m (steps m M k) k).piv (k + 1)).length + (DLin.step m (steps m M k) k).piv.length = k + 1
    cases hf : findRow (steps m M k).M k (m - (steps m M k).piv.length) (steps m M k).piv.length with
    | none => rw [step_none hf, frees_succ_out hlt, List.length_append]; simp; omega
    | some i =>
      rw [step_some hf]
      show (frees ((steps m M k).piv ++ [k]) (k + 1)).length + ((steps m M k).piv ++ [k]).length = k + 1
      rw [frees_succ_in (by simp), frees_add, List.length_append]
      simp; omega

/-- Reducing twice. -/
theorem twice {m c : Nat} {M : Mat} (p c' : Nat) (hp : p = (steps m M c).piv.length) (hc : c' = if p = 0 then 0 else c) :
    (steps p (steps m M c).M c').piv.length = p ∧ ∀ i, i < p → ∀ j, (steps p (steps m M c).M c').M i j = (steps m M c).M i j := by
  subst hp
  have hI := inv_steps m M c
  by_cases h0 : (steps m M c).piv.length = 0
  · rw [if_pos h0] at hc
    subst hc
    rw [h0]
    exact ⟨rfl, fun i hi => by omega⟩
  · rw [if_neg h0] at hc
    rw [hc]
    obtain ⟨h1, h2⟩ := steps_reduced hI c (Nat.le_refl _)
    refine ⟨?_, h2⟩
    rw [h1]
    congr 1
    rw [List.filter_eq_self]
    intro x hx
    simpa using piv_lt x hx

/-- The sizes of a reduced table and of its kernel. -/
theorem steps_szQ {M : Mat} {m c b : Nat} (hb : 0 < b) (h : TSz M m c b) (hm : 5 ^ m * b ≤ 15625) : TSz (steps m M c).M m c 15625 ∧ ∀ f, f < c → ∀ j, RSz (kerv (steps m M c) f j) 15625 := by
  obtain ⟨h1, h2, h3⟩ := steps_size hb h c (Nat.le_refl _)
  have h4 : 5 ^ (steps m M c).piv.length ≤ 5 ^ m := Nat.pow_le_pow_right (by omega) h3
  have h5 := Nat.mul_le_mul_right b h4
  have h6 : TSz (steps m M c).M m c 15625 := fun i hi j hj => (h1 i hi j hj).mono (by omega)
  refine ⟨h6, fun f hf j => ?_⟩
  unfold kerv
  split
  · exact RSz.one (by omega)
  · split
    · next hj =>
      have := List.idxOf_lt_length_iff.2 hj
      exact (h6 _ (by omega) f hf).neg
    · exact RSz.zero (by omega)

/-- A table of a law as the walk has it. -/
theorem table_start {w : World} {C : Int} {A : Option Addr} {n0 m c : Nat} {L : Nat → Nat} {N D : Nat → Nat → Int} (H : RowsR w A n0 L N D) (hC : 0 ≤ C ∧ C ≤ 255) (hm : m = min n0 5) (hc : c = if m = 0 then 0 else (C % 7).toNat) :
    m ≤ 5 ∧ c ≤ 6 ∧ (m = 0 → c = 0) ∧ TSz (tabv L N D) m c 1 := by
  refine ⟨by omega, by rw [hc]; split <;> omega, fun h => by rw [hc, if_pos h], fun i hi j hj => ?_⟩
  obtain ⟨b, o, -, g⟩ := H (by omega)
  obtain ⟨B, d, -, h1, -⟩ := g i (by omega)
  exact entv_size w h1 j
theorem table_rows {w : World} {C : Int} {n0 m c : Nat} {t : Value} {M : Mat} (ht : MatF w t (min n0 5) (C % 7).toNat M) (hm : m = min n0 5) (hc : c = if m = 0 then 0 else (C % 7).toNat) : MatF w t m c M := by
  rw [← hm] at ht
  by_cases h0 : m = 0
  · obtain ⟨A, k, rfl, h1, h2, h3⟩ := ht
    exact ⟨A, k, rfl, h1, h2, fun h => absurd h (by omega)⟩
  · rw [hc, if_neg h0]; exact ht
theorem pow_small {m : Nat} (h : m ≤ 6) : 5 ^ m ≤ 15625 := Nat.pow_le_pow_right (by omega) h (n := 5)

set_option maxRecDepth 100000 in
set_option maxHeartbeats 8000000 in
theorem law_ranks (w : World) (C : Int) (A : Option Addr) (n0 c0 : Nat) (L : Nat → Nat) (N D : Nat → Nat → Int) (h : RowsR w A n0 L N D) (hC : 0 ≤ C ∧ C ≤ 255) (hn : n0 ≤ 9223372036854775807) (hg : Gl w) :
    Calls Tryz.prog 6 #[.agg #[.int .u8 C, .slice A n0 c0]] w (Ret w fun _ v => v = .bool true) := by
  have H := Hid.mk h
  have HG := Hid.mk hg
  clear h hg
  obtain ⟨m, hm⟩ : ∃ m, m = min n0 5 := ⟨_, rfl⟩
  obtain ⟨c, hc⟩ : ∃ c, c = if m = 0 then 0 else (C % 7).toNat := ⟨_, rfl⟩
  obtain ⟨M, hM⟩ : ∃ M, M = tabv L N D := ⟨_, rfl⟩
  obtain ⟨hm5, hc6, hmc, hS⟩ := table_start H.out hC hm hc
  have HM := Hid.mk hm
  have HCc := Hid.mk hc
  have HMM := Hid.mk hM
  rw [← hM] at hS
  have HS := Hid.mk hS
  have HMC := Hid.mk hmc
  have hp5 := pow_small (m := m + 1) (by omega)
  have hp6 := pow_small (m := m) (by omega)
  have hp7 := pow_small (m := c) (by omega)
  have HP5 : Hid (5 ^ (m + 1) * 1 ≤ 15625) := by (show 5 ^ (m + 1) * 1 ≤ 15625; omega)
  have HP7 : Hid (5 ^ (c + 1) * 1 ≤ 100000) := by (show 5 ^ (c + 1) * 1 ≤ 100000; rw [Nat.pow_succ]; omega)
  have HSZ := Hid.mk (steps_szQ (by omega) HS.out (Nat.le_trans (Nat.mul_le_mul_right 1 hp6) (by omega)))
  clear hm hc hM hS hmc hp5 hp6 hp7
  go_enter Tryz.func6, Tryz.ntmps6
  go_upto_region 1 with (fail)
  obtain ⟨W, hW, hX, b0, hWs⟩ := setup1 w #[.int .u8 C, .slice A n0 c0] 24
  rw [hW]
  clear hW hWs
  have B0 := Hid.mk b0
  have HXW := Hid.mk hX
  clear b0 hX
  go_wp2_with fail
  refine (law_known _ (HG.out.x HXW.out)).mono ?_
  rintro e w1 ⟨⟨v1, rfl, rfl⟩, hx1⟩
  have HX := Hid.mk (HXW.out.trans hx1)
  replace B0 := Hid.mk (B0.out.x hx1)
  have hb0 := B0.out
  have k0 := hb0.cell (j := 0) rfl; have k1 := hb0.cell (j := 1) rfl
  clear hb0 hx1 HXW
  go_wp2_with fail
  refine (law_rows _ C A n0 c0 L N D (H.out.x HX.out) hC hn).mono ?_
  rintro e w2 ⟨⟨t, rfl, ht⟩, hx2⟩
  replace HX := Hid.mk (HX.out.trans hx2)
  replace B0 := Hid.mk (B0.out.x hx2)
  have HT : Hid (MatF w2 t m c M) := by rw [HMM.out]; exact table_rows ht HM.out HCc.out
  clear ht hx2 k0 k1
  go_wp2_with fail
  refine (law_own _ _ m c M HT.out (by omega) (by omega) 1 HS.out (by omega) (HG.out.x HX.out)).mono ?_
  rintro e w3 ⟨⟨v3, rfl, hv3⟩, hx3⟩
  replace HX := Hid.mk (HX.out.trans hx3)
  replace B0 := Hid.mk (B0.out.x hx3)
  have HV := Hid.mk hv3
  obtain ⟨VA, vc, rfl, -, -, -⟩ := id hv3
  clear hv3 hx3 HT
  -- Transpose
  go_wp2_with fail
  refine (mat_transpose _ _ m c M HV.out (by omega) (by omega) c (by have := HMC.out; split <;> omega)).mono ?_
  rintro e w4 ⟨⟨v4, rfl, T, rfl, hT⟩, hx4⟩
  replace HX := Hid.mk (HX.out.trans hx4)
  replace B0 := Hid.mk (B0.out.x hx4)
  replace HV := Hid.mk (HV.out.x hx4)
  have HT := Hid.mk hT
  clear hT hx4
  -- Rank
  go_wp2_with fail
  refine (mat_rank _ _ m c M HV.out (by omega) (by omega) HMC.out 1 (by omega) HS.out (Nat.le_trans HP5.out (by omega))).mono ?_
  rintro e w5 ⟨⟨v5, rfl, rfl⟩, hx5⟩
  replace HX := Hid.mk (HX.out.trans hx5)
  replace B0 := Hid.mk (B0.out.x hx5)
  replace HV := Hid.mk (HV.out.x hx5)
  replace HT := Hid.mk (HT.out.x hx5)
  clear hx5
  obtain ⟨p, hp⟩ : ∃ p, p = (steps m M c).piv.length := ⟨_, rfl⟩
  rw [← hp]
  have HPL := Hid.mk hp
  have hpm : p ≤ m := by rw [hp]; exact (inv_steps m M c).len
  -- Rank of the transpose
  obtain ⟨m', hm'⟩ : ∃ m', m' = if c = 0 then 0 else m := ⟨_, rfl⟩
  have hmm' : m' ≤ m := by rw [hm']; split <;> omega
  have HT' : Hid (MatQ w5 T c m' (transposed M)) := by
    by_cases h0 : c = 0
    · exact HT.out.wide h0 m' _
    · rw [hm', if_neg h0]; exact HT.out
  have HST : Hid (TSz (transposed M) c m' 1) := fun i hi j hj => HS.out j (by omega) i hi
  have HRK : Hid ((steps c (transposed M) m').piv.length = p) := by
    show (steps c (transposed M) m').piv.length = p
    by_cases h0 : c = 0
    · rw [hm', if_pos h0, hp, h0]; rfl
    · rw [hm', if_neg h0, hp]; exact rank_transposed M
  have hcm : c = 0 → m' = 0 := fun h => by rw [hm', if_pos h]
  clear hp hm' HT
  go_wp2_with fail
  refine (mat_rank _ _ c m' (transposed M) HT'.out (by omega) (by omega) hcm 1 (by omega) HST.out (Nat.le_trans HP7.out (by omega))).mono ?_
  rintro e w6 ⟨⟨v6, rfl, rfl⟩, hx6⟩
  rw [HRK.out]
  replace HX := Hid.mk (HX.out.trans hx6)
  replace B0 := Hid.mk (B0.out.x hx6)
  replace HV := Hid.mk (HV.out.x hx6)
  have hb0 := B0.out
  have k0 := hb0.cell (j := 0) rfl; have k1 := hb0.cell (j := 1) rfl
  have hnn : ((p : Int) != (p : Int)) = false := by simp
  clear hx6 HT' HST HRK hcm hb0
  -- columns
  go_wp2_with fail
  refine (law_rows _ C A n0 c0 L N D (H.out.x HX.out) hC hn).mono ?_
  rintro e w7 ⟨⟨t7, rfl, ht⟩, hx7⟩
  replace HX := Hid.mk (HX.out.trans hx7)
  replace HV := Hid.mk (HV.out.x hx7)
  have HT : Hid (MatF w7 t7 m c M) := by rw [HMM.out]; exact table_rows ht HM.out HCc.out
  clear ht hx7 k0 k1 B0 hnn
  go_wp2_with fail
  refine (ref_columns _ _ m c M HT.out (by omega) c (by have := HMC.out; split <;> omega)).mono ?_
  rintro e w8 ⟨⟨v8, rfl, rfl⟩, hx8⟩
  replace HX := Hid.mk (HX.out.trans hx8)
  replace HV := Hid.mk (HV.out.x hx8)
  clear hx8 HT
  -- Kernel
  go_wp2_with fail
  refine (mat_kernel _ _ m c M HV.out (by omega) (by omega) 1 (by omega) HS.out (Nat.le_trans HP5.out (by omega))).mono ?_
  rintro e w9 ⟨⟨v9, rfl, K, rfl, hK⟩, hx9⟩
  replace HX := Hid.mk (HX.out.trans hx9)
  replace HV := Hid.mk (HV.out.x hx9)
  obtain ⟨s, hs⟩ : ∃ s, s = steps m M c := ⟨_, rfl⟩
  obtain ⟨z, hz⟩ : ∃ z, z = (frees (steps m M c).piv c).length := ⟨_, rfl⟩
  have hzp : z + p = c := by rw [hz, HPL.out]; exact frees_count c
  have HZ := Hid.mk hz
  rw [← hz] at hK
  have HK := Hid.mk hK
  obtain ⟨KA, kc, rfl, -, -, hk3⟩ := id hK
  have HKA := Hid.mk hk3
  clear hx9 hK hk3 hz hs
  have hzi : ((z : Int) + (p : Int)) = (c : Int) := by omega
  have hzb : (((z : Int) + (p : Int)) != (c : Int)) = false := by rw [hzi]; simp
  go_wp2_with fail
  have hmm : ((m : Int) != (m : Int)) = false := by simp
  go_loopw [13] (fun t13 wr => ∃ i : Nat, i ≤ z ∧ t13 = .int .i64 i ∧ X w9 wr) (fun t _ => z - (intOf t).toNat)
  case atStart => exact ⟨0, Nat.zero_le _, rfl, X.refl _⟩
  case round =>
    obtain ⟨i, hi, rfl, hx⟩ := hrel
    have HX5 := Hid.mk hx
    clear hx
    by_cases hiz : i < z
    · have hiz' : (i : Int) < (z : Int) := by omega
      obtain ⟨b1, o1, rfl, gg⟩ := HKA.out (by omega)
      obtain ⟨u, c1, hu⟩ := gg i hiz
      obtain ⟨B1, d1, rfl, -, -, -⟩ := id hu
      replace c1 := HX5.out.cell c1
      have HU := Hid.mk (show SlQ wr (.slice B1 c d1) c (kerv (steps m M c) ((frees (steps m M c).piv c).getD i 0)) from hu.x HX5.out)
      obtain ⟨f, hf⟩ : ∃ f, f = (frees (steps m M c).piv c).getD i 0 := ⟨_, rfl⟩
      rw [← hf] at HU
      have hfc : f < c ∧ f ∉ (steps m M c).piv := by
        have hl : i < (frees (steps m M c).piv c).length := by rw [← HZ.out]; exact hiz
        have hm : f ∈ frees (steps m M c).piv c := by
          rw [hf, List.getD_eq_getElem?_getD, List.getElem?_eq_getElem hl]
          exact List.getElem_mem hl
        unfold frees at hm
        rw [List.mem_filter, List.mem_range] at hm
        exact ⟨hm.1, by simpa using hm.2⟩
      have HSF : Hid (∀ j, j < c → RSz (kerv (steps m M c) f j) 15625) := fun j _ => HSZ.out.2 f hfc.1 j
      have HAP : Hid (∀ t, t < m → ap c M (kerv (steps m M c) f) t = 0) := kerv_kernel hfc.1 hfc.2
      clear gg hu hf hfc
      go_wp2_with fail
      refine (mat_apply _ _ _ m c c M (kerv (steps m M c) f) (HV.out.x HX5.out) HU.out (by omega) (by omega) (Or.inr rfl) (by omega) 1 15625 HS.out HSF.out (by omega)).mono ?_
      rintro e w11 ⟨⟨v11, rfl, Y, rfl, hY⟩, hx11⟩
      have HY : Hid (SlQ w11 Y m (fun _ => 0)) := hY.congr HAP.out
      have HX11 := Hid.mk (HX5.out.trans hx11)
      obtain ⟨YA, yc, rfl, -, -, hy3⟩ := id HY.out
      have HYA := Hid.mk hy3
      clear hY hx11 hy3 c1
      go_wp2_with fail
      go_loopw [16] (fun t16 w2 => ∃ y : Nat, y ≤ m ∧ t16 = .int .i64 y ∧ X w11 w2) (fun t _ => m - (intOf t).toNat)
      case atStart => exact ⟨0, Nat.zero_le _, rfl, X.refl _⟩
      case round =>
        obtain ⟨y, hy, rfl, hx⟩ := hrel
        have HX6 := Hid.mk hx
        clear hx
        by_cases hym : y < m
        · have hym' : (y : Int) < (m : Int) := by omega
          obtain ⟨b2, o2, rfl, gg⟩ := (HYA.out.x HX6.out) (by omega)
          obtain ⟨a, e0, e1, e2, e3, ha⟩ := gg y hym
          have HA := Hid.mk ha
          clear gg ha
          go_wp2_with fail
          refine (rat_sign_at _ a 0 0 HA.out rfl).mono ?_
          rintro e w12 ⟨⟨v12, rfl, rfl⟩, hx12⟩
          have HX12 := Hid.mk (HX6.out.trans hx12)
          clear hx12 e0 e1 e2 e3
          go_wp2_with fail
          go_roundw
          case rel => exact ⟨y + 1, by omega, by go_num, HX12.out⟩
          case measure => simp [intOf]; omega
        · have hym' : ¬ (y : Int) < (m : Int) := by omega
          have HX12 := Hid.mk (HX11.out.trans HX6.out)
          clear hym hy
          go_wp2_with fail
          go_roundw
          case rel => exact ⟨i + 1, by omega, by go_num, HX12.out⟩
          case measure => simp [intOf]; omega
    · have hiz' : ¬ (i : Int) < (z : Int) := by omega
      replace HX := Hid.mk (HX.out.trans HX5.out)
      replace HV := Hid.mk (HV.out.x HX5.out)
      clear hiz hi HX5 HK HKA
      go_wp2_with fail
      refine (mat_reduce _ _ m c M HV.out (by omega) (by omega) HMC.out 1 (by omega) HS.out (Nat.le_trans HP5.out (by omega))).mono ?_
      rintro e w13 ⟨⟨v13, rfl, R, P, rfl, hR, hP⟩, hx13⟩
      replace HX := Hid.mk (HX.out.trans hx13)
      rw [← HPL.out] at hR
      obtain ⟨s', hs'⟩ : ∃ s', s' = (steps m M c).M := ⟨_, rfl⟩
      rw [← hs'] at hR
      obtain ⟨c', hc'⟩ : ∃ c', c' = if p = 0 then 0 else c := ⟨_, rfl⟩
      have hcc' : c' ≤ c := by rw [hc']; split <;> omega
      have hpc' : p = 0 → c' = 0 := fun h => by rw [hc', if_pos h]
      obtain ⟨t1, t2⟩ := twice (m := m) (c := c) (M := M) p c' HPL.out hc'
      rw [← hs'] at t1 t2
      have HT1 := Hid.mk t1
      have HT2 := Hid.mk t2
      have HR : Hid (MatQ w13 R p c' s') := by
        by_cases h0 : p = 0
        · exact hR.wide h0 c' s'
        · rw [hc', if_neg h0]; exact hR
      have HTS : Hid (TSz s' p c' 15625) := fun i hi j hj => by rw [hs']; exact HSZ.out.1 i (by omega) j (by omega)
      have hp5 := pow_small (m := p + 1) (by omega)
      have HP8 : Hid (5 ^ (p + 1) * 15625 ≤ 100000000000) := by (show 5 ^ (p + 1) * 15625 ≤ 100000000000; omega)
      obtain ⟨RA, rc, rfl, -, -, -⟩ := id HR.out
      have HPC := Hid.mk hpc'
      clear hR hP hx13 hs' hc' hpc' t1 t2 hp5 HV
      go_wp2_with fail
      refine (mat_reduce _ _ p c' s' HR.out (by omega) (by omega) HPC.out 15625 (by omega) HTS.out HP8.out).mono ?_
      rintro e w14 ⟨⟨v14, rfl, R2, P2, rfl, hR2, hP2⟩, hx14⟩
      rw [HT1.out] at hR2
      have HR2 : Hid (MatQ w14 R2 p c' s') := hR2.congr (fun i hi j hj => HT2.out i hi j)
      replace HR := Hid.mk (HR.out.x hx14)
      replace HX := Hid.mk (HX.out.trans hx14)
      clear hR2 hP2 hx14
      go_wp2_with fail
      refine (mat_equal _ _ _ p c' s' HR.out HR2.out (by omega) (by omega) 15625 HTS.out (by omega)).mono ?_
      rintro e w15 ⟨⟨v15, rfl, rfl⟩, hx15⟩
      replace HX := Hid.mk (HX.out.trans hx15)
      have hpp : ((p : Int) == (p : Int)) = true := by simp
      clear hx15 HR HR2
      go_wp2_with fail
      go_ret
      exact ⟨⟨_, rfl, rfl⟩, HX.out⟩
end Go.Proofs.YtogakaiibijjpaaGreatDoor
