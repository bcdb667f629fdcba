/- For every input MatrixSolves returns true and leaves its arguments as they read; no condition. -/
import Derived.Test.YtogakaiibijjpaaGreatDoorW9
/- The reference: Solve. -/
set_option linter.unusedVariables false
set_option linter.unusedSimpArgs false
namespace Go.Proofs.YtogakaiibijjpaaGreatDoor
open Go.RowKit
open DDig DLin

theorem str_fcs (fs : List FV) : ∀ u ∈ fcs fs, IsStr u := by
  intro u hu
  simp only [fcs, List.mem_flatMap] at hu
  obtain ⟨a, -, h⟩ := hu
  simp at h
  rcases h with rfl | rfl
  · exact ⟨_, rfl⟩
  · exact ⟨_, rfl⟩
theorem own_empty (C : Value → Prop) {w0 w : World} {g : Nat} {e : TypeId} {size : Nat} (hb : Blk w g e []) (hg : w0.heap.size ≤ g) : OwnC C w w0.heap.size e size (.slice (some ⟨g, 0, none⟩) 0 0) 0 [] := by
  refine ⟨⟨by simp, Or.inr ⟨g, 0, #[], rfl, hg, ?_, by omega, by omega, by simp, by simp⟩⟩, fun b hb' => ?_⟩
  · exact hb
  · simp [Value.ownBlock] at hb'
    subst hb'
    exact ⟨[], hb, by simp⟩

theorem FCs_ext {fs : List FV} {c i : Nat} {M : Mat} {f : Nat → Rat} {a : FV} (hl : fs.length = c) (hq : ∀ j b, fs[j]? = some b → FR b (M i j)) (ha : FR a (f i)) : ∀ j b, (fs ++ [a])[j]? = some b → FR b (wide c M f i j) :=
  frs_snoc hl (fun j b hj => by
    have hjl : j < fs.length := (List.getElem?_eq_some_iff.1 hj).1
    have : ¬ j = c := by omega
    show FR b (if j = c then f i else M i j)
    rw [if_neg this]
    exact hq j b hj) (by show FR a (if c = c then f i else M i c); rw [if_pos rfl]; exact ha)

/-- 'append(out, xs...)' onto a row of one sort, xs nil or not, at a step of a region that draws its order. -/
theorem step_append_any {P : Program} (C : Value → Prop) (w0 w : World) {ops : Array Oper} {o : Oper} {a : Act} {K : Act → World → Prop} {Q : Exit → Act → World → Prop} {E : Prop} (hgd : o.guard = none) (s x : Operand) (t : TypeId)
    (ho : o.op = .call { callee := .builtin .append, args := #[s, x], argTypes := #[t, t] })
    (e : TypeId) (z : Value) (size bytes : Nat) (ht : P.underlying t = some (.slice e)) (h2 : (P.info? e).map (fun i => (i.zero, i.size, i.bytes)) = some (some z, size, bytes)) (hzs : z.cells.size = size) (hsz : 0 < size) (hzc : ∀ u ∈ z.cells.toList, C u)
    (v : Value) (n : Nat) (xs : List Value) (hs : a.eval s = v) (hown : OwnC C w w0.heap.size e size v n xs)
    (B : Option Addr) (m c : Nat) (hB : B = none → m = 0 ∧ c = 0) (news : List Value) (hx : a.eval x = .slice B m c) (hl : news.length = m * size) (hnews : ∀ ad, B = some ad → ∀ j u, news[j]? = some u → w.cell? (ad.add j) = some u) (h1 : ∀ u ∈ news, u.oneCell' = true) (hnc : ∀ u ∈ news, C u)
    (h63 : n + m ≤ 9223372036854775807) (hbytes : (n + m) * bytes ≤ 140737488355328) (hX : X w0 w)
    (h : ∀ v' w', OwnC C w' w0.heap.size e size v' (n + m) (xs ++ news) → X w0 w' → (∀ b, b < w.heap.size → v.ownBlock ≠ some b → w'.heap[b]? = w.heap[b]?) → K (a.put o.dst v') w') :
    if Region.wanted o (yielded ops a.tmps) = true then Oper.wp P o a w K Q else E := by
  cases B with
  | some ad => exact step_append_C C w0 w hgd s x t ho e z size bytes ht h2 hzs hsz hzc v n xs hs hown ad m c news hx hl (hnews ad rfl) h1 hnc h63 hbytes hX h
  | none =>
    obtain ⟨rfl, rfl⟩ := hB rfl
    have hn : news = [] := List.eq_nil_of_length_eq_zero (by rw [hl, Nat.zero_mul])
    subst hn
    have hw : Region.wanted o (yielded ops a.tmps) = true := by simp [Region.wanted, hgd]
    rw [if_pos hw]
    obtain ⟨i, hi, e1, e2, e3⟩ := info_parts h2
    have hrun := run_append_owned_none (P := P) (w := w) w0.heap.size t o.type e i size ht hi v n xs hown.1
    unfold Oper.wp
    simp [execOp, ho, resolve, invoke, builtin, hs, hx, hrun, Result.andThen]
    exact h v w (by simpa using hown) hX (fun b _ _ => rfl)

theorem own_ne {g g' n c : Nat} (h : g ≠ g') : (Value.slice (some ⟨g, 0, none⟩) n c).ownBlock ≠ some g' := by
  intro e
  simp [Value.ownBlock] at e
  exact h e

theorem Blk.kept {w w' : World} {g : Nat} {e : TypeId} {cs : List Value} {v : Value} (h : Blk w g e cs) (hk : ∀ b, b < w.heap.size → v.ownBlock ≠ some b → w'.heap[b]? = w.heap[b]?) (hv : v.ownBlock ≠ some g) : Blk w' g e cs := by
  unfold Blk
  rw [hk g h.lt hv]
  exact h

/-- What the reference's Solve answers. -/
def SolveF (m c : Nat) (s : St) (w' : World) (r : Value) : Prop :=
  ((∀ i, s.piv.length ≤ i → i < m → s.M i c = 0) → ∃ Y, r = .tuple #[Y, .bool true] ∧ SlF w' Y c (solv s c)) ∧ ((¬ ∀ i, s.piv.length ≤ i → i < m → s.M i c = 0) → r = .tuple #[.slice none 0 0, .bool false])

set_option maxRecDepth 100000 in
set_option maxHeartbeats 8000000 in
theorem ref_solve (w : World) (v u : Value) (m c : Nat) (M : Mat) (f : Nat → Rat) (h : MatF w v m c M) (h' : SlF w u m f) (hm : m ≤ 100) (hc : c ≤ 100) (hmc : m = 0 → c = 0) (b : Nat) (hb : 0 < b) (hs : TSz M m c b) (hs' : ∀ i, i < m → RSz (f i) b) (hsz : 5 ^ (m + 1) * b ≤ 10000000000) :
    Calls Tryz.prog 34 #[v, u] w (Ret w (SolveF m c (steps m (wide c M f) c))) := by
  have H := Hid.mk h
  have HS := Hid.mk (tsz_wide hs hs')
  have HMC := Hid.mk hmc
  obtain ⟨A0, c0, rfl, -, -, p3⟩ := id h
  obtain ⟨B0, d0, rfl, -, -, p6⟩ := id h'
  have HA := Hid.mk p3
  have HB := Hid.mk p6
  clear h p3 p6 h' hs hs' hmc
  go_enter Tryz.func34, Tryz.ntmps34
  go_wp2_with fail
  go_loopw [6, 7] (fun t6 t7 wr => ∃ (i : Nat) (us : List Value), i ≤ m ∧ t7 = .int .i64 i ∧ OwnC IsSl wr w.heap.size 51 1 t6 i us ∧ us.length = i ∧ (∀ j u, us[j]? = some u → SlF wr u (c + 1) (wide c M f j)) ∧ X w wr) (fun _ t _ => m - (intOf t).toNat)
  case atStart => exact ⟨0, [], Nat.zero_le _, rfl, OwnC.nil _ _ _ _ _, rfl, by simp, X.refl _⟩
  case round =>
    obtain ⟨i, us, hi, rfl, ho, hl, hu, hx⟩ := hrel
    have HO := Hid.mk ho
    have HU := Hid.mk hu
    have HX := Hid.mk hx
    clear ho hu hx
    by_cases him : i < m
    · have him' : (i : Int) < (m : Int) := by omega
      obtain ⟨b0, o0, rfl, gg⟩ := HA.out (by omega)
      obtain ⟨x, c1, hx⟩ := gg i him
      obtain ⟨B1, d1, rfl, -, hB1, hrow⟩ := id hx
      obtain ⟨fs, hfl, hfr, hcl⟩ := hrow.list
      obtain ⟨b2, o2, rfl, gg2⟩ := HB.out (by omega)
      obtain ⟨a, e0, e1, ha⟩ := gg2 i (by omega)
      have HRa := Hid.mk ha
      have HFR := Hid.mk hfr
      have HB1 := Hid.mk hB1
      have hfl2 : (fcs fs).length = c * 2 := by rw [fcs, flat_len fvc 2 (fun _ => rfl), hfl]
      have HN : Hid (∀ w', X w w' → ∀ ad, B1 = some ad → ∀ j u, (fcs fs)[j]? = some u → w'.cell? (ad.add j) = some u) := by
        intro w' hx ad had j u hu
        by_cases h0 : 0 < c
        · obtain ⟨b', o', e, -⟩ := hrow h0
          rw [e] at had
          injection had with had
          subst had
          rw [add_off]
          exact hx.cell (hcl b' o' e j u hu)
        · have : fs = [] := List.eq_nil_of_length_eq_zero (by omega)
          subst this
          simp [fcs] at hu
      have HC := Hid.mk (fun w' (h : X w w') => (⟨h.cell c1, h.cell e0, h.cell e1⟩ : w'.cell? ⟨b0, o0 + i, none⟩ = some (.slice B1 c d1) ∧ w'.cell? ⟨b2, o2 + i * 2, none⟩ = some (.string a.p) ∧ w'.cell? ⟨b2, o2 + i * 2 + 1, none⟩ = some (.string a.q)))
      have hib : (i + 1) * 24 ≤ 140737488355328 := by omega
      have hcb : (c + 1) * 32 ≤ 140737488355328 := by omega
      have hcb2 : (0 + c) * 32 ≤ 140737488355328 := by omega
      have hz1 : X wr (wr.alloc (.cells #[] 84)).drew := ((X.refl wr).alloc _).drew
      have hz2 : X wr ((wr.alloc (.cells #[] 84)).alloc (.cells #[.string a.p, .string a.q] 84)).drew := (((X.refl wr).alloc _).alloc _).drew
      have hz3 : X wr ((wr.alloc (.cells #[.string a.p, .string a.q] 84)).alloc (.cells #[] 84)).drew := (((X.refl wr).alloc _).alloc _).drew
      have hE1 : OwnC IsStr (wr.alloc (.cells #[] 84)).drew wr.heap.size 84 2 (.slice (some ⟨wr.heap.size, 0, none⟩) 0 0) 0 [] := own_empty IsStr (w0 := wr) ((Blk.new wr #[] 84).x (X.refl _).drew) (Nat.le_refl _)
      have hE2 : OwnC IsStr ((wr.alloc (.cells #[] 84)).alloc (.cells #[.string a.p, .string a.q] 84)).drew wr.heap.size 84 2 (.slice (some ⟨wr.heap.size, 0, none⟩) 0 0) 0 [] := own_empty IsStr (w0 := wr) ((Blk.new wr #[] 84).x ((X.refl _).alloc _).drew) (Nat.le_refl _)
      have hE3 : OwnC IsStr ((wr.alloc (.cells #[.string a.p, .string a.q] 84)).alloc (.cells #[] 84)).drew wr.heap.size 84 2 (.slice (some ⟨wr.heap.size + 1, 0, none⟩) 0 0) 0 [] := own_empty IsStr (w0 := wr) ((Blk.new_at _ #[] 84 (by simp)).x (X.refl _).drew) (by omega)
      have hL2 : Blk ((wr.alloc (.cells #[] 84)).alloc (.cells #[.string a.p, .string a.q] 84)).drew (wr.heap.size + 1) 84 (fvc a) := (Blk.new_at _ #[.string a.p, .string a.q] 84 (by simp)).x (X.refl _).drew
      have hL3 : Blk ((wr.alloc (.cells #[.string a.p, .string a.q] 84)).alloc (.cells #[] 84)).drew wr.heap.size 84 (fvc a) := (Blk.new wr #[.string a.p, .string a.q] 84).x ((X.refl _).alloc _).drew
      have HE1 := Hid.mk hE1
      have HE2 := Hid.mk hE2
      have HE3 := Hid.mk hE3
      have HL2 := Hid.mk hL2
      have HL3 := Hid.mk hL3
      have HZ1 := Hid.mk hz1
      have HZ2 := Hid.mk hz2
      have HZ3 := Hid.mk hz3
      have hS0 := HC.out wr HX.out
      have hguard0 : True := trivial
      clear gg hx gg2 c1 e0 e1 ha hfr hcl hrow hB1 hE1 hE2 hE3 hL2 hL3 hz1 hz2 hz3
      go_wp2_with fail
      go_region_held3 (fun w' => w'.cell? ⟨b0, o0 + i, none⟩ = some (.slice B1 c d1) ∧ w'.cell? ⟨b2, o2 + i * 2, none⟩ = some (.string a.p) ∧ w'.cell? ⟨b2, o2 + i * 2 + 1, none⟩ = some (.string a.q))
        (go_keep)
        (first
          | (refine step_append_oneC IsSl w _ rfl (.tmp 20) (.tmp 33) 26 rfl 51 (.slice none 0 0) 1 24 Tryz.underlying26 info_sF rfl (by omega) (fun u hu => ⟨none, 0, 0, by simpa [Value.cells] using hu⟩) _ _ _ rfl hO3 _ _ _ rfl rfl (by simp [Value.oneCell']) (fun u hu => ⟨RA, c + 1, rc, by simpa using hu⟩) (by omega) (by omega) (HX.out.trans hx3) ?_; intro v4 w4 ho4 hx4 hk4; have hS3 := HC.out w4 hx4; have HO4 := Hid.mk ho4; have HX4 := Hid.mk hx4; have HU4 := Hid.mk (fun j u hj => ((HU.out j u hj).x hx3).kApp hO3 hk4); have HR4 := Hid.mk (hrow.kApp hO3 hk4); clear ho4 hx4 hk4)
          | (refine step_append_oneC IsStr wr _ rfl (.tmp 26) (.tmp 31) 51 rfl 84 (.agg #[.string ⟨#[]⟩, .string ⟨#[]⟩]) 2 32 Tryz.underlying51 info_F rfl (by omega) str_zero _ _ _ rfl ho2 _ _ _ rfl rfl (by simp [Value.oneCell']) (fun u hu => (by exact str_fvc a u hu)) (by omega) (by omega) hx2 ?_; intro v3 w3 ho3 hx3 hk3; have hS2 := HC.out w3 (HX.out.trans hx3); have hrow : SlF w3 v3 (c + 1) (wide c M f i) := SlF.own (fs := fs ++ [a]) (by rw [fcs_snoc]; simpa using ho3.1) (by simp [hfl]) (FCs_ext hfl HFR.out HRa.out); obtain ⟨RA, rc, rfl, p1, p2, p3⟩ := id hrow; have hO3 := HO.out.x hx3)
          | (refine step_append_any IsStr wr _ rfl (.tmp 26) (.tmp 31) 51 rfl 84 (.agg #[.string ⟨#[]⟩, .string ⟨#[]⟩]) 2 32 Tryz.underlying51 info_F rfl (by omega) str_zero _ _ _ rfl ho2 _ 1 1 (by simp) (fvc a) rfl rfl hlit (by simp [Value.oneCell']) (fun u hu => (by exact str_fvc a u hu)) (by omega) (by omega) hx2 ?_; intro v3 w3 ho3 hx3 hk3; have hS2 := HC.out w3 (HX.out.trans hx3); have hrow : SlF w3 v3 (c + 1) (wide c M f i) := SlF.own (fs := fs ++ [a]) (by rw [fcs_snoc]; simpa using ho3.1) (by simp [hfl]) (FCs_ext hfl HFR.out HRa.out); obtain ⟨RA, rc, rfl, p1, p2, p3⟩ := id hrow; have hO3 := HO.out.x hx3)
          | (have hguard := hguard0; refine step_append_any IsStr wr _ rfl (.tmp 21) (.tmp 25) 51 rfl 84 (.agg #[.string ⟨#[]⟩, .string ⟨#[]⟩]) 2 32 Tryz.underlying51 info_F rfl (by omega) str_zero _ _ _ rfl HE1.out B1 c d1 HB1.out (fcs fs) rfl hfl2 (HN.out _ (HX.out.trans HZ1.out)) (fcs_one fs) (str_fcs fs) (by omega) (by omega) HZ1.out ?_; intro v2 w2 ho2 hx2 hk2; have hS1 := HC.out w2 (HX.out.trans hx2); rw [Nat.zero_add, List.nil_append] at ho2)
          | (have hguard := hguard0; refine step_append_any IsStr wr _ rfl (.tmp 21) (.tmp 25) 51 rfl 84 (.agg #[.string ⟨#[]⟩, .string ⟨#[]⟩]) 2 32 Tryz.underlying51 info_F rfl (by omega) str_zero _ _ _ rfl HE2.out B1 c d1 HB1.out (fcs fs) rfl hfl2 (HN.out _ (HX.out.trans HZ2.out)) (fcs_one fs) (str_fcs fs) (by omega) (by omega) HZ2.out ?_; intro v2 w2 ho2 hx2 hk2; have hS1 := HC.out w2 (HX.out.trans hx2); have hlit : ∀ ad, some (⟨wr.heap.size + 1, 0, none⟩ : Addr) = some ad → ∀ j u, (fvc a)[j]? = some u → w2.cell? (ad.add j) = some u := (fun ad had => by injection had with had; subst had; exact lit_cells (HL2.out.kept hk2 (own_ne (by omega)))); rw [Nat.zero_add, List.nil_append] at ho2)
          | (have hguard := hguard0; refine step_append_any IsStr wr _ rfl (.tmp 21) (.tmp 25) 51 rfl 84 (.agg #[.string ⟨#[]⟩, .string ⟨#[]⟩]) 2 32 Tryz.underlying51 info_F rfl (by omega) str_zero _ _ _ rfl HE3.out B1 c d1 HB1.out (fcs fs) rfl hfl2 (HN.out _ (HX.out.trans HZ3.out)) (fcs_one fs) (str_fcs fs) (by omega) (by omega) HZ3.out ?_; intro v2 w2 ho2 hx2 hk2; have hS1 := HC.out w2 (HX.out.trans hx2); have hlit : ∀ ad, some (⟨wr.heap.size, 0, none⟩ : Addr) = some ad → ∀ j u, (fvc a)[j]? = some u → w2.cell? (ad.add j) = some u := (fun ad had => by injection had with had; subst had; exact lit_cells (HL3.out.kept hk2 (own_ne (by omega)))); rw [Nat.zero_add, List.nil_append] at ho2))
      all_goals
        go_wp2_with fail
        go_roundw
        case rel => exact ⟨i + 1, us ++ [.slice RA (c + 1) rc], by omega, by go_num, HO4.out, by simp [hl], rows_snoc (S := SlF) hl HU4.out HR4.out, HX4.out⟩
        case measure => simp [intOf]; omega
    · obtain rfl : i = m := by omega
      have hT : MatF wr u6 i (c + 1) (wide c M f) := SlM.own (S := SlF) (M := wide c M f) (c := c + 1) HO.out.1 hl HU.out
      obtain ⟨TA, tc, rfl, -, -, -⟩ := id hT
      have HT := Hid.mk hT
      have him' : ¬ (i : Int) < (i : Int) := by omega
      clear him hi hT HO HU
      go_wp2_with fail
      refine (ref_columns _ _ i c M (H.out.x HX.out) (by omega) c (by have := HMC.out; split <;> omega)).mono ?_
      rintro e w2 ⟨⟨v2, rfl, rfl⟩, hx2⟩
      replace HX := Hid.mk (HX.out.trans hx2)
      replace HT := Hid.mk (HT.out.x hx2)
      clear hx2
      go_wp2_with fail
      refine (ref_reduce _ _ i (c + 1) (wide c M f) HT.out (by omega) (by omega) b hb HS.out hsz).mono ?_
      rintro e w3 ⟨⟨v3, rfl, R, P, rfl, hR, hP⟩, hx3⟩
      replace HX := Hid.mk (HX.out.trans hx3)
      have HR := Hid.mk hR
      have HP := Hid.mk hP
      have hple : (steps i (wide c M f) (c + 1)).piv.length ≤ 1000000 := by
        have := (inv_steps i (wide c M f) (c + 1)).len
        omega
      clear hx3 hR hP HT
      go_wp2_with fail
      refine (ref_at _ _ _ c HP.out hple).mono ?_
      rintro e w4 ⟨⟨v4, rfl, rfl⟩, hx4⟩
      replace HX := Hid.mk (HX.out.trans hx4)
      replace HR := Hid.mk (HR.out.x hx4)
      replace HP := Hid.mk (HP.out.x hx4)
      clear hx4
      by_cases hz : ∀ t, (steps i (wide c M f) c).piv.length ≤ t → t < i → (steps i (wide c M f) c).M t c = 0
      · have hnext := next_none hz
        rw [hnext] at HR HP ⊢
        obtain ⟨s, hs⟩ : ∃ s, s = steps i (wide c M f) c := ⟨_, rfl⟩
        have hnp : c ∉ s.piv := fun h => by rw [hs] at h; exact absurd (piv_lt c h) (by omega)
        have hat : atv s.piv c = -1 := by unfold atv; rw [if_neg hnp]
        have hpl : s.piv.length ≤ i := by rw [hs]; exact (inv_steps i (wide c M f) c).len
        have HSX := Hid.mk hs
        have HZ := Hid.mk hz
        rw [← hs] at HR HP ⊢
        rw [hat]
        obtain ⟨PA, pc, rfl, -, -, -⟩ := id HP.out
        obtain ⟨RA, rc, rfl, -, -, -⟩ := id HR.out
        clear hs hz hnext hnp hat hple
        go_wp2_with (at_make; refine make_blkz _ rfl _ _ 51 rfl 84 (.agg #[.string ⟨#[]⟩, .string ⟨#[]⟩]) 2 32 Tryz.underlying51 info_F rfl .i64 .i64 _ _ c rfl rfl rfl rfl (by omega) (by omega) ?_; intro w6 cs hb1 hb2 hb3 hb4 hx6; have HF := Hid.mk (FFil.start (solv s c) hb1 hb2); have HX6 := Hid.mk hx6; clear hb1 hb2 hb3 hb4 hx6)
        obtain ⟨g, hg⟩ : ∃ g, g = w4.heap.size := ⟨_, rfl⟩
        rw [← hg] at HF ⊢
        have HG := Hid.mk hg
        clear hg
        go_loopw [12] (fun t12 wr => ∃ k : Nat, k ≤ c ∧ t12 = .int .i64 k ∧ FFil wr g c k (solv s c) ∧ X w4 wr) (fun t _ => c - (intOf t).toNat)
        case atStart => exact ⟨0, Nat.zero_le _, rfl, HF.out, HX6.out⟩
        case round =>
          clear HF HX6
          obtain ⟨k, hk, rfl, hF, hx⟩ := hrel
          have HF := Hid.mk hF
          have HX5 := Hid.mk hx
          clear hF hx
          by_cases hkn : k < c
          · have hkn' : (k : Int) < (c : Int) := by omega
            obtain ⟨v0, v1, c0, c1, f0, f1⟩ := HF.out.cells hkn
            have HF1 := Hid.mk ((HF.out.congr (e := fun t => if t = k then 0 else solv s c t) (fun j hj => by
              have : j ≠ k := by omega
              simp [this])).put hkn (r := ⟨⟨#[48]⟩, ⟨#[49]⟩⟩) (by simpa using fzero))
            have HX6 := Hid.mk (HX5.out.put2at (g := g) (by rw [HG.out]; exact Nat.le_refl _) (k * 2) ⟨⟨#[48]⟩, ⟨#[49]⟩⟩)
            clear HF
            go_wp2_with fail
            refine (ref_at _ _ s.piv k (HP.out.x HX6.out) (by omega)).mono ?_
            rintro e w7 ⟨⟨v7, rfl, rfl⟩, hx7⟩
            have HF2 := Hid.mk (HF1.out.x hx7)
            have HX7 := Hid.mk (HX6.out.trans hx7)
            clear HF1 HX6 hx7 c0 c1 f0 f1
            by_cases hmem : k ∈ s.piv
            · have hil := List.idxOf_lt_length_iff.2 hmem
              have hat : atv s.piv k = (s.piv.idxOf k : Nat) := by unfold atv; rw [if_pos hmem]
              have hq : solv s c k = s.M (s.piv.idxOf k) c := by unfold solv; rw [if_pos hmem]
              obtain ⟨y, hy⟩ : ∃ y, y = s.piv.idxOf k := ⟨_, rfl⟩
              rw [← hy] at hil hat hq
              rw [hat]
              have HQ := Hid.mk hq
              have hge : (0 : Int) ≤ (y : Int) := by omega
              have hil' : (y : Int) < (s.piv.length : Int) := by omega
              have hcc' : (c : Int) < (((c + 1 : Nat)) : Int) := by omega
              obtain ⟨b1, o1, d1, b2, o2, a, rfl, c0, e0, e1, ha⟩ := (HR.out.x HX7.out).elem hil (show c < c + 1 by omega)
              obtain ⟨v0, v1, k0, k1, f0, f1⟩ := HF2.out.cells hkn
              have HF3 := Hid.mk ((HF2.out.upd (k := k) (by omega) ha).congr (e := solv s c) (fun j hj => by
                by_cases e : j = k
                · simp [e, HQ.out]
                · simp [e]))
              have HX8 := Hid.mk (HX7.out.put2at (g := g) (by rw [HG.out]; exact Nat.le_refl _) (k * 2) a)
              clear hmem hat hq hy ha HF2
              go_wp2_with fail
              go_roundw
              case rel => exact ⟨k + 1, by omega, by go_num, HF3.out, HX8.out⟩
              case measure => simp [intOf]; omega
            · have hat : atv s.piv k = -1 := by unfold atv; rw [if_neg hmem]
              rw [hat]
              have HF3 := Hid.mk (HF2.out.congr (e := solv s c) (fun j hj => by
                by_cases e : j = k
                · have : solv s c k = 0 := by unfold solv; rw [if_neg hmem]
                  simp [e, this]
                · simp [e]))
              clear hat hmem
              go_wp2_with fail
              go_roundw
              case rel => exact ⟨k + 1, by omega, by go_num, HF3.out, HX7.out⟩
              case measure => simp [intOf]; omega
          · obtain rfl : k = c := by omega
            have hkn' : ¬ (k : Int) < (k : Int) := by omega
            have HRow : Hid (SlF wr (.slice (some ⟨g, 0, none⟩) k k) k (solv s k)) := ⟨_, k, rfl, Nat.le_refl _, by simp, HF.out.row⟩
            have HXF := Hid.mk (HX.out.trans HX5.out)
            have HZS : Hid (∀ t, s.piv.length ≤ t → t < i → s.M t k = 0) := by rw [HSX.out]; exact HZ.out
            clear hkn hk HF
            go_wp2_with fail
            refine bodyPost_ret (v := .tuple #[.slice (some ⟨g, 0, none⟩) k k, .bool true]) (by simp [results, Tryz.results34, go_sem]) rfl ⟨⟨_, rfl, (by rw [← HSX.out]; exact ⟨fun _ => ⟨_, rfl, HRow.out⟩, fun h => absurd HZS.out h⟩)⟩, HXF.out⟩
      · have hnext := next_some hz
        have hat : atv (steps i (wide c M f) (c + 1)).piv c = ((steps i (wide c M f) (c + 1)).piv.idxOf c : Nat) := by unfold atv; rw [if_pos hnext]
        rw [hat]
        obtain ⟨y, hy⟩ : ∃ y, y = (steps i (wide c M f) (c + 1)).piv.idxOf c := ⟨_, rfl⟩
        rw [← hy]
        have hge : (0 : Int) ≤ (y : Int) := by omega
        have HZ := Hid.mk hz
        clear hnext hat hy hz
        go_wp2_with fail
        refine bodyPost_ret (v := .tuple #[.slice none 0 0, .bool false]) (by simp [results, Tryz.results34, go_sem]) rfl ⟨⟨_, rfl, fun h => absurd h HZ.out, fun _ => rfl⟩, HX.out⟩
end Go.Proofs.YtogakaiibijjpaaGreatDoor

/- The law MatrixSolves: the walk. -/
set_option linter.unusedVariables false
set_option linter.unusedSimpArgs false
namespace Go.Proofs.YtogakaiibijjpaaGreatDoor
open Go.RowKit
open DDig DLin

theorem solv_size {m c b : Nat} {W : Mat} (hb : 0 < b) (hs : TSz W m (c + 1) b) (hm : 5 ^ m * b ≤ 1000000) : ∀ j, RSz (solv (steps m W c) c j) 1000000 := fun j => by
  obtain ⟨h1, h2, h3⟩ := steps_size hb hs c (by omega)
  have h4 : 5 ^ (steps m W c).piv.length ≤ 5 ^ m := Nat.pow_le_pow_right (by omega) h3
  have h5 := Nat.mul_le_mul_right b h4
  unfold solv
  split
  · next hj =>
    have := List.idxOf_lt_length_iff.2 hj
    exact (h1 _ (by omega) c (by omega)).mono (by omega)
  · exact RSz.zero (by omega)
theorem solv_none {c m : Nat} {W : Mat} (hc : c = 0) (j : Nat) : solv (steps c W m) m j = 0 := by
  have : (steps c W m).piv = [] := List.eq_nil_of_length_eq_zero (by have := (inv_steps c W m).len; omega)
  unfold solv
  rw [this]
  simp
theorem MatF.none2 {w : World} {v : Value} {m c : Nat} {M N : Nat → Nat → Rat} (h : MatF w v m c M) (h0 : m = 0) (d : Nat) : MatF w v m d N := by
  subst h0
  obtain ⟨A, k, rfl, h1, h2, h3⟩ := h
  exact ⟨A, k, rfl, h1, h2, fun h => absurd h (by omega)⟩
theorem EntR.none (w : World) : EntR w none 0 (fun _ => 0) (fun _ => 0) := ⟨fun j hj => by omega, fun h => by omega⟩
theorem entv_none (N D : Nat → Int) (k : Nat) : entv 0 N D k = 0 := by unfold entv; rw [if_neg (by omega)]

set_option maxRecDepth 100000 in
set_option maxHeartbeats 8000000 in
theorem law_solves (w : World) (C : Int) (A : Option Addr) (n0 c0 : Nat) (L : Nat → Nat) (N D : Nat → Nat → Int) (h : RowsR w A n0 L N D) (hC : 0 ≤ C ∧ C ≤ 255) (hn : n0 ≤ 9223372036854775807)
    (A' : Option Addr) (l c0' : Nat) (N' D' : Nat → Int) (h' : EntR w A' l N' D') (hl : l ≤ 9223372036854775807) (more : Bool) (hg : Gl w) :
    Calls Tryz.prog 7 #[.agg #[.int .u8 C, .slice A n0 c0], .slice A' l c0', .bool more] w (Ret w fun _ v => v = .bool true) := by
  have H := Hid.mk h
  have H' := Hid.mk h'
  have HG := Hid.mk hg
  clear h h' hg
  obtain ⟨m, hm⟩ : ∃ m, m = min n0 5 := ⟨_, rfl⟩
  obtain ⟨c, hc⟩ : ∃ c, c = if m = 0 then 0 else (C % 7).toNat := ⟨_, rfl⟩
  obtain ⟨M, hM⟩ : ∃ M, M = tabv L N D := ⟨_, rfl⟩
  obtain ⟨hm5, hc6, hmc, hS⟩ := table_start H.out hC hm hc
  rw [← hM] at hS
  obtain ⟨f, hf⟩ : ∃ f, f = entv l N' D' := ⟨_, rfl⟩
  have HF := Hid.mk hf
  have HSF : Hid (∀ j, RSz (f j) 1) := fun j => by rw [hf]; exact entv_size w H'.out j
  have HM := Hid.mk hm
  have HCc := Hid.mk hc
  have HMM := Hid.mk hM
  have HS := Hid.mk hS
  have HMC := Hid.mk hmc
  have hp5 := pow_small (m := m + 1) (by omega)
  have hp6 := pow_small (m := m) (by omega)
  have hp7 := pow_small (m := c) (by omega)
  have HP5 : Hid (5 ^ (m + 1) * 1 ≤ 100000) := by (show 5 ^ (m + 1) * 1 ≤ 100000; omega)
  have HP6 : Hid (5 ^ m * 1 ≤ 1000000) := by (show 5 ^ m * 1 ≤ 1000000; omega)
  have HP7 : Hid (5 ^ (c + 1) * 1 ≤ 100000) := by (show 5 ^ (c + 1) * 1 ≤ 100000; rw [Nat.pow_succ]; omega)
  have HP8 : Hid (5 ^ c * 1 ≤ 1000000) := by (show 5 ^ c * 1 ≤ 1000000; omega)
  clear hm hc hM hS hmc hp5 hp6 hp7 hf
  go_enter Tryz.func7, Tryz.ntmps7
  go_upto_region 1 with (fail)
  obtain ⟨W, hW, hX, b0, hWs⟩ := setup1 w #[.int .u8 C, .slice A n0 c0] 24
  rw [hW]
  clear hW hWs
  have B0 := Hid.mk b0
  have HXW := Hid.mk hX
  clear b0 hX
  go_wp2_with fail
  refine (law_known _ (HG.out.x HXW.out)).mono ?_
  rintro e w1 ⟨⟨v1, rfl, rfl⟩, hx1⟩
  have HX := Hid.mk (HXW.out.trans hx1)
  have hb0 := B0.out.x hx1
  have k0 := hb0.cell (j := 0) rfl; have k1 := hb0.cell (j := 1) rfl
  clear hb0 hx1 HXW B0
  by_cases h10 : 10 < l
  · have h10' : (10 : Int) < (l : Int) := by omega
    go_wp2_with fail
    refine (law_known _ (HG.out.x HX.out)).mono ?_
    rintro e w2 ⟨⟨v2, rfl, rfl⟩, hx2⟩
    replace HX := Hid.mk (HX.out.trans hx2)
    clear hx2
    go_wp2_with fail
    go_ret
    exact ⟨⟨_, rfl, rfl⟩, HX.out⟩
  have h10' : ¬ (10 : Int) < (l : Int) := by omega
  go_wp2_with fail
  refine (law_rows _ C A n0 c0 L N D (H.out.x HX.out) hC hn).mono ?_
  rintro e w2 ⟨⟨t, rfl, ht⟩, hx2⟩
  replace HX := Hid.mk (HX.out.trans hx2)
  have HT : Hid (MatF w2 t m c M) := by rw [HMM.out]; exact table_rows ht HM.out HCc.out
  obtain ⟨TA, ta, rfl, -, -, -⟩ := id HT.out
  clear ht hx2 k0 k1
  cases more with
  | true =>
    go_wp2_with fail
    rw [show ((m : Int) + 1) = ((m + 1 : Nat) : Int) by omega]
    refine (law_line _ A' l c0' (m + 1) N' D' (H'.out.x HX.out) (by omega) hl).mono ?_
    rintro e w3 ⟨⟨v3, rfl, hv3⟩, hx3⟩
    rw [← HF.out] at hv3
    replace HX := Hid.mk (HX.out.trans hx3)
    replace HT := Hid.mk (HT.out.x hx3)
    have HL := Hid.mk hv3
    clear hx3 hv3
    go_wp2_with fail
    refine (law_own _ _ m c M HT.out (by omega) (by omega) 1 HS.out (by omega) (HG.out.x HX.out)).mono ?_
    rintro e w4 ⟨⟨v4, rfl, hv4⟩, hx4⟩
    replace HX := Hid.mk (HX.out.trans hx4)
    replace HT := Hid.mk (HT.out.x hx4)
    replace HL := Hid.mk (HL.out.x hx4)
    have HV := Hid.mk hv4
    clear hx4 hv4
    go_wp2_with fail
    refine (law_list _ _ (m + 1) f HL.out (by omega) 1 (fun j _ => HSF.out j) (by omega) (HG.out.x HX.out)).mono ?_
    rintro e w5 ⟨⟨v5, rfl, hv5⟩, hx5⟩
    replace HX := Hid.mk (HX.out.trans hx5)
    replace HT := Hid.mk (HT.out.x hx5)
    replace HV := Hid.mk (HV.out.x hx5)
    have HL2 := Hid.mk hv5
    clear hx5 hv5 HL
    go_wp2_with fail
    refine (mat_solve_size _ _ _ m c (m + 1) M f HV.out HL2.out (by omega) (by omega) (by omega)).mono ?_
    rintro e w6 ⟨⟨v6, rfl, rfl⟩, hx6⟩
    replace HX := Hid.mk (HX.out.trans hx6)
    replace HT := Hid.mk (HT.out.x hx6)
    clear hx6 HV HL2
    go_wp2_with fail
    refine (ref_columns _ _ m c M HT.out (by omega) c (by have := HMC.out; split <;> omega)).mono ?_
    rintro e w7 ⟨⟨v7, rfl, rfl⟩, hx7⟩
    replace HX := Hid.mk (HX.out.trans hx7)
    replace HT := Hid.mk (HT.out.x hx7)
    clear hx7
    go_wp2_with fail
    rw [show ((c : Int) + 1) = ((c + 1 : Nat) : Int) by omega]
    refine (law_line _ A' l c0' (c + 1) N' D' (H'.out.x HX.out) (by omega) hl).mono ?_
    rintro e w8 ⟨⟨v8, rfl, hv8⟩, hx8⟩
    rw [← HF.out] at hv8
    replace HX := Hid.mk (HX.out.trans hx8)
    replace HT := Hid.mk (HT.out.x hx8)
    have HL := Hid.mk hv8
    clear hx8 hv8
    go_wp2_with fail
    refine (law_own _ _ m c M HT.out (by omega) (by omega) 1 HS.out (by omega) (HG.out.x HX.out)).mono ?_
    rintro e w9 ⟨⟨v9, rfl, hv9⟩, hx9⟩
    replace HX := Hid.mk (HX.out.trans hx9)
    replace HL := Hid.mk (HL.out.x hx9)
    have HV := Hid.mk hv9
    clear hx9 hv9 HT
    go_wp2_with fail
    refine (law_list _ _ (c + 1) f HL.out (by omega) 1 (fun j _ => HSF.out j) (by omega) (HG.out.x HX.out)).mono ?_
    rintro e wa ⟨⟨va, rfl, hva⟩, hxa⟩
    replace HX := Hid.mk (HX.out.trans hxa)
    replace HV := Hid.mk (HV.out.x hxa)
    have HL2 := Hid.mk hva
    clear hxa hva HL
    go_wp2_with fail
    refine (mat_combine_size _ _ _ m c (c + 1) M f HV.out HL2.out (by omega) (by omega) HMC.out (by omega)).mono ?_
    rintro e wb ⟨⟨vb, rfl, rfl⟩, hxb⟩
    replace HX := Hid.mk (HX.out.trans hxb)
    clear hxb HV HL2
    go_wp2_with fail
    go_ret
    exact ⟨⟨_, rfl, rfl⟩, HX.out⟩
  | false =>
    go_wp2_with fail
    refine (law_line _ A' l c0' m N' D' (H'.out.x HX.out) (by omega) hl).mono ?_
    rintro e w3 ⟨⟨v3, rfl, hv3⟩, hx3⟩
    rw [← HF.out] at hv3
    replace HX := Hid.mk (HX.out.trans hx3)
    replace HT := Hid.mk (HT.out.x hx3)
    have HL := Hid.mk hv3
    obtain ⟨LA, la, rfl, -, -, -⟩ := id hv3
    clear hx3 hv3
    go_wp2_with fail
    refine (law_own _ _ m c M HT.out (by omega) (by omega) 1 HS.out (by omega) (HG.out.x HX.out)).mono ?_
    rintro e w4 ⟨⟨v4, rfl, hv4⟩, hx4⟩
    replace HX := Hid.mk (HX.out.trans hx4)
    replace HT := Hid.mk (HT.out.x hx4)
    replace HL := Hid.mk (HL.out.x hx4)
    have HV := Hid.mk hv4
    clear hx4 hv4
    go_wp2_with fail
    refine (law_list _ _ m f HL.out (by omega) 1 (fun j _ => HSF.out j) (by omega) (HG.out.x HX.out)).mono ?_
    rintro e w5 ⟨⟨v5, rfl, hv5⟩, hx5⟩
    replace HX := Hid.mk (HX.out.trans hx5)
    replace HT := Hid.mk (HT.out.x hx5)
    replace HL := Hid.mk (HL.out.x hx5)
    replace HV := Hid.mk (HV.out.x hx5)
    have HL2 := Hid.mk hv5
    clear hx5 hv5
    go_wp2_with fail
    refine (mat_solve _ _ _ m c M f HV.out HL2.out (by omega) (by omega) HMC.out 1 (by omega) HS.out (fun j _ => HSF.out j) (Nat.le_trans HP5.out (by omega))).mono ?_
    rintro e w6 ⟨⟨v6, rfl, hP⟩, hx6⟩
    replace HX := Hid.mk (HX.out.trans hx6)
    replace HT := Hid.mk (HT.out.x hx6)
    replace HL := Hid.mk (HL.out.x hx6)
    have HP := Hid.mk hP
    have HSW : Hid (TSz (wide c M f) m (c + 1) 1) := tsz_wide HS.out (fun j _ => HSF.out j)
    have HSO : Hid (∀ j, RSz (solv (steps m (wide c M f) c) c j) 1000000) := solv_size (by omega) HSW.out HP6.out
    obtain ⟨s, hs⟩ : ∃ s, s = steps m (wide c M f) c := ⟨_, rfl⟩
    have HSX := Hid.mk hs
    rw [← hs] at HP HSO
    obtain ⟨Xv, g, rfl⟩ : ∃ (Q : Value) (g : Int), v6 = .tuple #[Q, .int .i64 g] := by
      by_cases hz : ∀ i, s.piv.length ≤ i → i < m → s.M i c = 0
      · obtain ⟨Q, e, -⟩ := HP.out.1 hz
        exact ⟨_, _, e⟩
      · exact ⟨_, _, HP.out.2 hz⟩
    clear hx6 hP HV HL2 hs
    obtain ⟨wd, hwd⟩ : ∃ wd, wd = w6 := ⟨_, rfl⟩
    subst hwd
    go_upto_if 44 with (fail)
    go_cut [] (fun wc => X wd wc)
    case first =>
      go_wp2_with fail
      refine (ref_solve _ _ _ m c M f HT.out HL.out (by omega) (by omega) HMC.out 1 (by omega) HS.out (fun j _ => HSF.out j) (Nat.le_trans HP5.out (by omega))).mono ?_
      rintro e w7 ⟨⟨v7, rfl, hQ⟩, hx7⟩
      rw [← HSX.out] at hQ
      have HXa := Hid.mk hx7
      have HQ := Hid.mk hQ
      replace HP : Hid (SolvedP m c s w7 _) := ⟨fun hz => by
        obtain ⟨Q, e, hq⟩ := HP.out.1 hz
        exact ⟨Q, e, hq.x hx7⟩, HP.out.2⟩
      clear hx7 hQ
      by_cases hz : ∀ i, s.piv.length ≤ i → i < m → s.M i c = 0
      · obtain ⟨Y, rfl, hY⟩ := HQ.out.1 hz
        obtain ⟨Q, e, hq⟩ := HP.out.1 hz
        injection e with e
        simp at e
        obtain ⟨rfl, rfl⟩ := e
        have HY := Hid.mk hY
        have HQ2 := Hid.mk hq
        clear hz hY hq HQ HP
        go_wp2_with fail
        refine (law_equal _ _ _ c (solv s c) HQ2.out HY.out (by omega) 1000000 (fun j _ => HSO.out j) (by omega) (HG.out.x (HX.out.trans HXa.out))).mono ?_
        rintro e w8 ⟨⟨v8, rfl, rfl⟩, hx8⟩
        replace HXa := Hid.mk (HXa.out.trans hx8)
        clear hx8 HQ2 HY
        go_wp2_with fail
        go_meet
        exact HXa.out
      · obtain rfl := HQ.out.2 hz
        have e := HP.out.2 hz
        injection e with e
        simp at e
        obtain ⟨rfl, rfl⟩ := e
        clear hz HQ HP
        go_wp2_with fail
        go_meet
        exact HXa.out
    case rest =>
      replace HX := Hid.mk (HX.out.trans hcut)
      replace HT := Hid.mk (HT.out.x hcut)
      clear hcut HP HSO HSX HL
      obtain ⟨we, hwe⟩ : ∃ we, we = wc := ⟨_, rfl⟩
      subst hwe
      go_wp2_with fail
      refine (ref_columns _ _ m c M HT.out (by omega) c (by have := HMC.out; split <;> omega)).mono ?_
      rintro e w7 ⟨⟨v7, rfl, rfl⟩, hx7⟩
      replace HX := Hid.mk (HX.out.trans hx7)
      replace HT := Hid.mk (HT.out.x hx7)
      clear hx7
      go_wp2_with fail
      refine (law_line _ A' l c0' c N' D' (H'.out.x HX.out) (by omega) hl).mono ?_
      rintro e w8 ⟨⟨v8, rfl, hv8⟩, hx8⟩
      rw [← HF.out] at hv8
      replace HX := Hid.mk (HX.out.trans hx8)
      replace HT := Hid.mk (HT.out.x hx8)
      have HL := Hid.mk hv8
      obtain ⟨LB, lb, rfl, -, -, -⟩ := id hv8
      clear hx8 hv8
      go_wp2_with fail
      refine (law_own _ _ m c M HT.out (by omega) (by omega) 1 HS.out (by omega) (HG.out.x HX.out)).mono ?_
      rintro e w9 ⟨⟨v9, rfl, hv9⟩, hx9⟩
      replace HX := Hid.mk (HX.out.trans hx9)
      replace HT := Hid.mk (HT.out.x hx9)
      replace HL := Hid.mk (HL.out.x hx9)
      have HV := Hid.mk hv9
      clear hx9 hv9
      go_wp2_with fail
      refine (law_list _ _ c f HL.out (by omega) 1 (fun j _ => HSF.out j) (by omega) (HG.out.x HX.out)).mono ?_
      rintro e wa ⟨⟨va, rfl, hva⟩, hxa⟩
      replace HX := Hid.mk (HX.out.trans hxa)
      replace HT := Hid.mk (HT.out.x hxa)
      replace HL := Hid.mk (HL.out.x hxa)
      replace HV := Hid.mk (HV.out.x hxa)
      have HL2 := Hid.mk hva
      clear hxa hva
      go_wp2_with fail
      refine (mat_combine _ _ _ m c M f HV.out HL2.out (by omega) (by omega) HMC.out 1 (by omega) HS.out (fun j _ => HSF.out j) (Nat.le_trans HP7.out (by omega))).mono ?_
      rintro e wb ⟨⟨vb, rfl, hP⟩, hxb⟩
      replace HX := Hid.mk (HX.out.trans hxb)
      replace HT := Hid.mk (HT.out.x hxb)
      replace HL := Hid.mk (HL.out.x hxb)
      have HP := Hid.mk hP
      have HST : Hid (TSz (transposed M) c m 1) := fun i hi j hj => HS.out j hj i hi
      have HSW : Hid (TSz (wide m (transposed M) f) c (m + 1) 1) := tsz_wide HST.out (fun j _ => HSF.out j)
      have HSO : Hid (∀ j, RSz (solv (steps c (wide m (transposed M) f) m) m j) 1000000) := solv_size (by omega) HSW.out HP8.out
      have HS0 : Hid (c = 0 → ∀ j, solv (steps c (wide m (transposed M) f) m) m j = 0) := fun h j => solv_none h j
      obtain ⟨s2, hs⟩ : ∃ s2, s2 = steps c (wide m (transposed M) f) m := ⟨_, rfl⟩
      have HSX := Hid.mk hs
      rw [← hs] at HP HSO HS0
      obtain ⟨Xv2, g2, rfl⟩ : ∃ (Q : Value) (g : Int), vb = .tuple #[Q, .int .i64 g] := by
        by_cases hz : ∀ i, s2.piv.length ≤ i → i < c → s2.M i m = 0
        · obtain ⟨Q, e, -⟩ := HP.out.1 hz
          exact ⟨_, _, e⟩
        · exact ⟨_, _, HP.out.2 hz⟩
      clear hxb hP HV HL2 hs
      go_wp2_with fail
      refine (ref_transpose _ _ m c M HT.out (by omega) (by omega) c (by have := HMC.out; split <;> omega)).mono ?_
      rintro e wd2 ⟨⟨vd, rfl, hvd⟩, hxd⟩
      replace HX := Hid.mk (HX.out.trans hxd)
      replace HT := Hid.mk (HT.out.x hxd)
      replace HL := Hid.mk (HL.out.x hxd)
      have HTR := Hid.mk hvd
      replace HP : Hid (SolvedP c m s2 wd2 _) := ⟨fun hz => by
        obtain ⟨Q, e, hq⟩ := HP.out.1 hz
        exact ⟨Q, e, hq.x hxd⟩, HP.out.2⟩
      clear hxd hvd
      go_wp2_with fail
      by_cases hc0 : c = 0
      · -- no column
        refine (ref_solve _ _ _ c 0 (transposed M) f (HTR.out.none2 hc0 0) HL.out (by omega) (by omega) (fun _ => rfl) 1 (by omega) (fun i hi j hj => by omega) (fun j _ => HSF.out j) (Nat.le_trans HP7.out (by omega))).mono ?_
        rintro e wf ⟨⟨vf, rfl, hQ⟩, hxf⟩
        obtain ⟨Y, rfl, -⟩ := hQ.1 (fun i h1 h2 => by omega)
        replace HX := Hid.mk (HX.out.trans hxf)
        replace HT := Hid.mk (HT.out.x hxf)
        obtain ⟨Q, e, hq⟩ := HP.out.1 (fun i h1 h2 => by omega)
        injection e with e
        simp at e
        obtain ⟨rfl, rfl⟩ := e
        have HQ2 : Hid (SlQ wf Xv2 m (fun _ => 0)) := (hq.x hxf).congr (fun j _ => HS0.out hc0 j)
        have hcb : ((c : Int) == 0) = true := by rw [hc0]; rfl
        clear hQ hxf hq HP HL HTR hc0
        go_wp2_with fail
        refine (ref_columns _ _ m c M HT.out (by omega) c (by have := HMC.out; split <;> omega)).mono ?_
        rintro e wg ⟨⟨vg, rfl, rfl⟩, hxg⟩
        replace HX := Hid.mk (HX.out.trans hxg)
        replace HT := Hid.mk (HT.out.x hxg)
        replace HQ2 := Hid.mk (HQ2.out.x hxg)
        clear hxg
        go_wp2_with fail
        refine (law_line _ none 0 0 m (fun _ => 0) (fun _ => 0) (EntR.none _) (by omega) (by omega)).mono ?_
        rintro e wh ⟨⟨vh, rfl, hvh⟩, hxh⟩
        have HW : Hid (SlF wh vh m (fun _ => 0)) := hvh.congr (fun j _ => entv_none _ _ j)
        replace HX := Hid.mk (HX.out.trans hxh)
        replace HQ2 := Hid.mk (HQ2.out.x hxh)
        clear hxh hvh
        go_wp2_with fail
        refine (law_equal _ _ _ m (fun _ => 0) HQ2.out HW.out (by omega) 1 (fun j _ => RSz.zero (by omega)) (by omega) (HG.out.x HX.out)).mono ?_
        rintro e wi ⟨⟨vi, rfl, rfl⟩, hxi⟩
        replace HX := Hid.mk (HX.out.trans hxi)
        clear hxi HQ2 HW
        go_wp2_with fail
        go_ret
        exact ⟨⟨_, rfl, rfl⟩, HX.out⟩
      · refine (ref_solve _ _ _ c m (transposed M) f HTR.out HL.out (by omega) (by omega) (fun h => absurd h hc0) 1 (by omega) HST.out (fun j _ => HSF.out j) (Nat.le_trans HP7.out (by omega))).mono ?_
        rintro e wf ⟨⟨vf, rfl, hQ⟩, hxf⟩
        rw [← HSX.out] at hQ
        have HQ := Hid.mk hQ
        replace HX := Hid.mk (HX.out.trans hxf)
        replace HT := Hid.mk (HT.out.x hxf)
        replace HP : Hid (SolvedP c m s2 wf _) := ⟨fun hz => by
          obtain ⟨Q, e, hq⟩ := HP.out.1 hz
          exact ⟨Q, e, hq.x hxf⟩, HP.out.2⟩
        have hcb : ((c : Int) == 0) = false := by rw [beq_eq_false_iff_ne]; omega
        clear hQ hxf HL HTR hc0
        by_cases hz : ∀ i, s2.piv.length ≤ i → i < c → s2.M i m = 0
        · obtain ⟨Y, rfl, hY⟩ := HQ.out.1 hz
          obtain ⟨Q, e, hq⟩ := HP.out.1 hz
          injection e with e
          simp at e
          obtain ⟨rfl, rfl⟩ := e
          have HY := Hid.mk hY
          have HQ2 := Hid.mk hq
          clear hz hY hq HQ HP
          go_wp2_with fail
          refine (ref_columns _ _ m c M HT.out (by omega) c (by have := HMC.out; split <;> omega)).mono ?_
          rintro e wg ⟨⟨vg, rfl, rfl⟩, hxg⟩
          replace HX := Hid.mk (HX.out.trans hxg)
          replace HQ2 := Hid.mk (HQ2.out.x hxg)
          replace HY := Hid.mk (HY.out.x hxg)
          clear hxg
          go_wp2_with fail
          refine (law_equal _ _ _ m (solv s2 m) HQ2.out HY.out (by omega) 1000000 (fun j _ => HSO.out j) (by omega) (HG.out.x HX.out)).mono ?_
          rintro e wi ⟨⟨vi, rfl, rfl⟩, hxi⟩
          replace HX := Hid.mk (HX.out.trans hxi)
          clear hxi HQ2 HY
          go_wp2_with fail
          go_ret
          exact ⟨⟨_, rfl, rfl⟩, HX.out⟩
        · obtain rfl := HQ.out.2 hz
          have e := HP.out.2 hz
          injection e with e
          simp at e
          obtain ⟨rfl, rfl⟩ := e
          clear hz HQ HP
          go_wp2_with fail
          refine (ref_columns _ _ m c M HT.out (by omega) c (by have := HMC.out; split <;> omega)).mono ?_
          rintro e wg ⟨⟨vg, rfl, rfl⟩, hxg⟩
          replace HX := Hid.mk (HX.out.trans hxg)
          clear hxg
          go_wp2_with fail
          go_ret
          exact ⟨⟨_, rfl, rfl⟩, HX.out⟩
end Go.Proofs.YtogakaiibijjpaaGreatDoor

/- For every input MatrixSolves returns true and leaves its arguments as they read; no condition. -/
set_option linter.unusedVariables false
set_option linter.unusedSimpArgs false
namespace Go.Proofs.YtogakaiibijjpaaGreatDoor
open Go.ChangeShapes Go.WideShapes Go.ChangeAt Go.RowKit Go.Deep Go.Joins

theorem matrixSolves_reads (os : Os) {H : Type} (enc : TypeId × Value → H) : ∃ places, DataW.whole enc Tryz.prog ((World.laidAll Tryz.prog os Rows.matrixSolvesRow.laid).forCall (fun _ _ => 0) ⟨#[], #[.agg #[.int .u8 0, .slice none 0 0], .slice none 0 0, .bool false], []⟩).memory Tryz.f7.params.toList Rows.matrixSolvesSpec.vars false #[(.agg #[.int .u8 0, .slice none 0 0] : Value), .slice none 0 0, .bool false].toList 8 = some ([.agg [.lit (.int .u8 0), .nil], .nil, .lit (.bool false)], [], places) :=
  ⟨[], by kernel_rfl⟩

set_option maxRecDepth 100000 in
theorem matrixSolves_lifted (os : Os) (started : os.Started) (H : Type) (enc : TypeId × Value → H) (F : Stop.Interp) :
    ReturnsInHanded {} Tryz.checked os 7 .any ((OpenSpec.ofChange Rows.matrixSolvesSpec).preRow enc Tryz.prog Tryz.f7 Rows.matrixSolvesRow.domain false Rows.matrixSolvesRow.laid) (((OpenSpec.ofChange Rows.matrixSolvesSpec).at F).post enc Tryz.prog Tryz.f7 false true false false) := by
  obtain ⟨places, hx⟩ := matrixSolves_reads os enc
  refine returnsInHanded_of_row (C := Tryz.checked) (s := OpenSpec.ofChange Rows.matrixSolvesSpec) own started (by kernel_rfl) Tryz.func7
    (witness_row_atRef (enc := enc) (C := Tryz.checked) false (World.laidAll Tryz.prog os Rows.matrixSolvesRow.laid) #[.agg #[.int .u8 0, .slice none 0 0], .slice none 0 0, .bool false] (World.laidAll_os _ _ _) (by kernel_rfl) (by kernel_rfl) (by kernel_rfl)
      (OpenSpec.preRow_of_cond 8 hx (by kernel_rfl) (fun k hk => by cases hk) (by kernel_rfl) (by rw [MakeChecks.laidMetH_plain _ _ _ (by kernel_rfl)]; exact laidMet_laidAll _ (by kernel_rfl) (by kernel_rfl)))) ?_
  intro W base args ds gs before hval0 hW _ _ _ hL hsh _
  have hval : ∀ (j : Nat) t v, Tryz.f7.params[j]? = some t → args[j]? = some v → Value.okWide Tryz.prog W .any base t v := hval0
  have hW' := hW
  obtain ⟨p, q, hA0, hV, rfl, hfz, hnd⟩ := hW
  have hA : DataW.TrodAll enc Tryz.prog W 0 (fun _ => true) true Tryz.f7.params.toList args.toList ds p := hA0
  rw [Tryz.params7] at hA hval
  obtain ⟨v0, vs0, d0, ds0, p0, q0, hargs, rfl, rfl, h0, r0⟩ := trodAll_cons hA
  obtain ⟨v1, vs1, d1, ds1, p1, q1, rfl, rfl, rfl, h1, r1⟩ := trodAll_cons r0
  obtain ⟨v2, vs2, d2, ds2, p2, q2, rfl, rfl, rfl, h2, r2⟩ := trodAll_cons r1
  obtain ⟨rfl, rfl, rfl⟩ := trodAll_nil r2
  obtain rfl : args = #[v0, v1, v2] := by cases args; simp_all
  obtain ⟨rfl, rfl⟩ := trodVars_none hV
  have hlt := fun x hx => hW'.lt x hx
  obtain ⟨C0, A0, n0, c0, L0, N0, D0, rfl, hC0, hn0, hR0⟩ := open_table (hval 0 24 v0 rfl rfl) h0
  obtain ⟨A1, n1, c1, N1, D1, rfl, hn1, hE1⟩ := open_entry_arg (hval 1 45 v1 rfl rfl) h1
  obtain ⟨z2, rfl, rfl, rfl⟩ := open_bool Tryz.underlying4 (hval 2 4 v2 rfl rfl) h2
  have hL1 := laidMetH.filter (fun x => x.1 == "internal/strconv.uint64pow10") hL
  rw [show (Rows.matrixSolvesRow.laid.filter fun x => x.1 == "internal/strconv.uint64pow10") = [("internal/strconv.uint64pow10", Rows.laid_internal_strconv_uint64pow10)] by kernel_rfl] at hL1
  have hg : Gl W := ⟨pow_tab hL1, max_shape hsh⟩
  refine (law_solves W C0 A0 n0 c0 L0 N0 D0 hR0 hC0 hn0 A1 n1 c1 N1 D1 hE1 hn1 z2 hg).mono ?_
  rintro e W' ⟨⟨v, rfl, rfl⟩, hb⟩
  exact ⟨_, rfl, _, _, _, [], _, [], hW', trodAll_mk1 (shut_bool Tryz.underlying4 _), (trodAll_cons_mk (Below.trod laidOut (by kernel_rfl) (of_decide_eq_true (by kernel_rfl)) h0 hb (fun x hx => hlt x (by simp [hx]))) (trodAll_cons_mk (Below.trod laidOut (by kernel_rfl) (of_decide_eq_true (by kernel_rfl)) h1 hb (fun x hx => hlt x (by simp [hx]))) (trodAll_cons_mk (shut_bool Tryz.underlying4 _) trodAll_mk0))), rfl, hb.frame _, fun h => by cases h⟩

theorem matrixSolves_said : Rows.MatrixSolvesSaid :=
  OpenClaim.holds_of_cond 7 Tryz.f7 rfl rfl rfl rfl rfl rfl rfl ⟨rfl, rfl, rfl, rfl, rfl⟩ rfl rfl rfl rfl rfl (by kernel_rfl) Tryz.func7 (by kernel_rfl)
    (of_decide_eq_true (by kernel_rfl)) (by unfold Func.isWrapper; first | (rw [if_pos (by decide +kernel)]; kernel_rfl) | (rw [if_neg (by decide +kernel)]; exact ⟨rfl, rfl⟩))
    (fun os started H enc _ F => by rw [OpenClaim.pre_eq_preRow]; exact matrixSolves_lifted os started H enc F)

theorem matrixSolves_plain (f : FuncId) (fn : Func) (hf : Tryz.pinned.checked.prog.funcNamed "dowel/dowellaw05.MatrixSolves" = some f) (hfn : Tryz.pinned.checked.prog.funcs[f]? = some fn) :
    true = Tryz.pinned.checked.prog.looks [] ∧ ∀ (j : Nat) t, fn.params[j]? = some t → Tryz.pinned.checked.prog.wantsStandIn t = false := by
  obtain rfl : f = 7 := Option.some.inj ((show Tryz.prog.funcNamed "dowel/dowellaw05.MatrixSolves" = some 7 by kernel_rfl).symm.trans hf) |>.symm
  obtain rfl : fn = Tryz.f7 := (Option.some.inj (Tryz.func7.symm.trans hfn)).symm
  refine ⟨by kernel_rfl, fun j t ht => ?_⟩
  rw [Tryz.params7] at ht
  have hm : t ∈ [24, 45, 4] := by
    have := Array.mem_of_getElem? ht
    simp at this ⊢
    omega
  have hall : ([24, 45, 4].all fun u => !Tryz.prog.wantsStandIn u) = true := by kernel_rfl
  exact (show Tryz.prog.wantsStandIn t = false by simpa using List.all_eq_true.1 hall t hm)

theorem matrixSolves_card : Rows.MatrixSolvesCardSaid :=
  Claim7.holds_tied_plain_at .later [] _ _ _ _ matrixSolves_said (fun _ h => by cases h) (by kernel_rfl) (fun _ h => by cases h) matrixSolves_row_tie rfl ⟨rfl, rfl⟩ (by kernel_rfl) rfl matrixSolves_plain (by kernel_rfl)
#print axioms matrixSolves_card
end Go.Proofs.YtogakaiibijjpaaGreatDoor
