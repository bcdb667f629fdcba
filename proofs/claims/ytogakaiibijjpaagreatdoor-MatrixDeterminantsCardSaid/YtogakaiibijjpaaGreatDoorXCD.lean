/- For every input MatrixDeterminants returns true and leaves its arguments as they read; no condition. -/
import Derived.Test.YtogakaiibijjpaaGreatDoorW9
import Derived.Lib.AppendZeros
/- The reference: Solve. -/
set_option linter.unusedVariables false
set_option linter.unusedSimpArgs false
namespace Go.Proofs.YtogakaiibijjpaaGreatDoor
open Go.RowKit
open DDig DLin

theorem str_fcs (fs : List FV) : ∀ u ∈ fcs fs, IsStr u := by
  intro u hu
  simp only [fcs, List.mem_flatMap] at hu
  obtain ⟨a, -, h⟩ := hu
  simp at h
  rcases h with rfl | rfl
  · exact ⟨_, rfl⟩
  · exact ⟨_, rfl⟩
theorem own_empty (C : Value → Prop) {w0 w : World} {g : Nat} {e : TypeId} {size : Nat} (hb : Blk w g e []) (hg : w0.heap.size ≤ g) : OwnC C w w0.heap.size e size (.slice (some ⟨g, 0, none⟩) 0 0) 0 [] := by
  refine ⟨⟨by simp, Or.inr ⟨g, 0, #[], rfl, hg, ?_, by omega, by omega, by simp, by simp⟩⟩, fun b hb' => ?_⟩
  · exact hb
  · simp [Value.ownBlock] at hb'
    subst hb'
    exact ⟨[], hb, by simp⟩

theorem FCs_ext {fs : List FV} {c i : Nat} {M : Mat} {f : Nat → Rat} {a : FV} (hl : fs.length = c) (hq : ∀ j b, fs[j]? = some b → FR b (M i j)) (ha : FR a (f i)) : ∀ j b, (fs ++ [a])[j]? = some b → FR b (wide c M f i j) :=
  frs_snoc hl (fun j b hj => by
    have hjl : j < fs.length := (List.getElem?_eq_some_iff.1 hj).1
    have : ¬ j = c := by omega
    show FR b (if j = c then f i else M i j)
    rw [if_neg this]
    exact hq j b hj) (by show FR a (if c = c then f i else M i c); rw [if_pos rfl]; exact ha)

/-- 'append(out, xs...)' onto a row of one sort, xs nil or not, at a step of a region that draws its order. -/
theorem step_append_any {P : Program} (C : Value → Prop) (w0 w : World) {ops : Array Oper} {o : Oper} {a : Act} {K : Act → World → Prop} {Q : Exit → Act → World → Prop} {E : Prop} (hgd : o.guard = none) (s x : Operand) (t : TypeId)
    (ho : o.op = .call { callee := .builtin .append, args := #[s, x], argTypes := #[t, t] })
    (e : TypeId) (z : Value) (size bytes : Nat) (ht : P.underlying t = some (.slice e)) (h2 : (P.info? e).map (fun i => (i.zero, i.size, i.bytes)) = some (some z, size, bytes)) (hzs : z.cells.size = size) (hsz : 0 < size) (hzc : ∀ u ∈ z.cells.toList, C u)
    (v : Value) (n : Nat) (xs : List Value) (hs : a.eval s = v) (hown : OwnC C w w0.heap.size e size v n xs)
    (B : Option Addr) (m c : Nat) (hB : B = none → m = 0 ∧ c = 0) (news : List Value) (hx : a.eval x = .slice B m c) (hl : news.length = m * size) (hnews : ∀ ad, B = some ad → ∀ j u, news[j]? = some u → w.cell? (ad.add j) = some u) (h1 : ∀ u ∈ news, u.oneCell' = true) (hnc : ∀ u ∈ news, C u)
    (h63 : n + m ≤ 9223372036854775807) (hbytes : (n + m) * bytes ≤ 140737488355328) (hX : X w0 w)
    (h : ∀ v' w', OwnC C w' w0.heap.size e size v' (n + m) (xs ++ news) → X w0 w' → (∀ b, b < w.heap.size → v.ownBlock ≠ some b → w'.heap[b]? = w.heap[b]?) → K (a.put o.dst v') w') :
    if Region.wanted o (yielded ops a.tmps) = true then Oper.wp P o a w K Q else E := by
  cases B with
  | some ad => exact step_append_C C w0 w hgd s x t ho e z size bytes ht h2 hzs hsz hzc v n xs hs hown ad m c news hx hl (hnews ad rfl) h1 hnc h63 hbytes hX h
  | none =>
    obtain ⟨rfl, rfl⟩ := hB rfl
    have hn : news = [] := List.eq_nil_of_length_eq_zero (by rw [hl, Nat.zero_mul])
    subst hn
    have hw : Region.wanted o (yielded ops a.tmps) = true := by simp [Region.wanted, hgd]
    rw [if_pos hw]
    obtain ⟨i, hi, e1, e2, e3⟩ := info_parts h2
    have hrun := run_append_owned_none (P := P) (w := w) w0.heap.size t o.type e i size ht hi v n xs hown.1
    unfold Oper.wp
    simp [execOp, ho, resolve, invoke, builtin, hs, hx, hrun, Result.andThen]
    exact h v w (by simpa using hown) hX (fun b _ _ => rfl)

theorem own_ne {g g' n c : Nat} (h : g ≠ g') : (Value.slice (some ⟨g, 0, none⟩) n c).ownBlock ≠ some g' := by
  intro e
  simp [Value.ownBlock] at e
  exact h e

theorem Blk.kept {w w' : World} {g : Nat} {e : TypeId} {cs : List Value} {v : Value} (h : Blk w g e cs) (hk : ∀ b, b < w.heap.size → v.ownBlock ≠ some b → w'.heap[b]? = w.heap[b]?) (hv : v.ownBlock ≠ some g) : Blk w' g e cs := by
  unfold Blk
  rw [hk g h.lt hv]
  exact h

/-- What the reference's Solve answers. -/
def SolveF (m c : Nat) (s : St) (w' : World) (r : Value) : Prop :=
  ((∀ i, s.piv.length ≤ i → i < m → s.M i c = 0) → ∃ Y, r = .tuple #[Y, .bool true] ∧ SlF w' Y c (solv s c)) ∧ ((¬ ∀ i, s.piv.length ≤ i → i < m → s.M i c = 0) → r = .tuple #[.slice none 0 0, .bool false])

set_option maxRecDepth 100000 in
set_option maxHeartbeats 8000000 in
theorem ref_solve (w : World) (v u : Value) (m c : Nat) (M : Mat) (f : Nat → Rat) (h : MatF w v m c M) (h' : SlF w u m f) (hm : m ≤ 100) (hc : c ≤ 100) (hmc : m = 0 → c = 0) (b : Nat) (hb : 0 < b) (hs : TSz M m c b) (hs' : ∀ i, i < m → RSz (f i) b) (hsz : 5 ^ (m + 1) * b ≤ 10000000000) :
    Calls Tryz.prog 34 #[v, u] w (Ret w (SolveF m c (steps m (wide c M f) c))) := by
  have H := Hid.mk h
  have HS := Hid.mk (tsz_wide hs hs')
  have HMC := Hid.mk hmc
  obtain ⟨A0, c0, rfl, -, -, p3⟩ := id h
  obtain ⟨B0, d0, rfl, -, -, p6⟩ := id h'
  have HA := Hid.mk p3
  have HB := Hid.mk p6
  clear h p3 p6 h' hs hs' hmc
  go_enter Tryz.func34, Tryz.ntmps34
  go_wp2_with fail
  go_loopw [6, 7] (fun t6 t7 wr => ∃ (i : Nat) (us : List Value), i ≤ m ∧ t7 = .int .i64 i ∧ OwnC IsSl wr w.heap.size 51 1 t6 i us ∧ us.length = i ∧ (∀ j u, us[j]? = some u → SlF wr u (c + 1) (wide c M f j)) ∧ X w wr) (fun _ t _ => m - (intOf t).toNat)
  case atStart => exact ⟨0, [], Nat.zero_le _, rfl, OwnC.nil _ _ _ _ _, rfl, by simp, X.refl _⟩
  case round =>
    obtain ⟨i, us, hi, rfl, ho, hl, hu, hx⟩ := hrel
    have HO := Hid.mk ho
    have HU := Hid.mk hu
    have HX := Hid.mk hx
    clear ho hu hx
    by_cases him : i < m
    · have him' : (i : Int) < (m : Int) := by omega
      obtain ⟨b0, o0, rfl, gg⟩ := HA.out (by omega)
      obtain ⟨x, c1, hx⟩ := gg i him
      obtain ⟨B1, d1, rfl, -, hB1, hrow⟩ := id hx
      obtain ⟨fs, hfl, hfr, hcl⟩ := hrow.list
      obtain ⟨b2, o2, rfl, gg2⟩ := HB.out (by omega)
      obtain ⟨a, e0, e1, ha⟩ := gg2 i (by omega)
      have HRa := Hid.mk ha
      have HFR := Hid.mk hfr
      have HB1 := Hid.mk hB1
      have hfl2 : (fcs fs).length = c * 2 := by rw [fcs, flat_len fvc 2 (fun _ => rfl), hfl]
      have HN : Hid (∀ w', X w w' → ∀ ad, B1 = some ad → ∀ j u, (fcs fs)[j]? = some u → w'.cell? (ad.add j) = some u) := by
        intro w' hx ad had j u hu
        by_cases h0 : 0 < c
        · obtain ⟨b', o', e, -⟩ := hrow h0
          rw [e] at had
          injection had with had
          subst had
          rw [add_off]
          exact hx.cell (hcl b' o' e j u hu)
        · have : fs = [] := List.eq_nil_of_length_eq_zero (by omega)
          subst this
          simp [fcs] at hu
      have HC := Hid.mk (fun w' (h : X w w') => (⟨h.cell c1, h.cell e0, h.cell e1⟩ : w'.cell? ⟨b0, o0 + i, none⟩ = some (.slice B1 c d1) ∧ w'.cell? ⟨b2, o2 + i * 2, none⟩ = some (.string a.p) ∧ w'.cell? ⟨b2, o2 + i * 2 + 1, none⟩ = some (.string a.q)))
      have hib : (i + 1) * 24 ≤ 140737488355328 := by omega
      have hcb : (c + 1) * 32 ≤ 140737488355328 := by omega
      have hcb2 : (0 + c) * 32 ≤ 140737488355328 := by omega
      have hz1 : X wr (wr.alloc (.cells #[] 84)).drew := ((X.refl wr).alloc _).drew
      have hz2 : X wr ((wr.alloc (.cells #[] 84)).alloc (.cells #[.string a.p, .string a.q] 84)).drew := (((X.refl wr).alloc _).alloc _).drew
      have hz3 : X wr ((wr.alloc (.cells #[.string a.p, .string a.q] 84)).alloc (.cells #[] 84)).drew := (((X.refl wr).alloc _).alloc _).drew
      have hE1 : OwnC IsStr (wr.alloc (.cells #[] 84)).drew wr.heap.size 84 2 (.slice (some ⟨wr.heap.size, 0, none⟩) 0 0) 0 [] := own_empty IsStr (w0 := wr) ((Blk.new wr #[] 84).x (X.refl _).drew) (Nat.le_refl _)
      have hE2 : OwnC IsStr ((wr.alloc (.cells #[] 84)).alloc (.cells #[.string a.p, .string a.q] 84)).drew wr.heap.size 84 2 (.slice (some ⟨wr.heap.size, 0, none⟩) 0 0) 0 [] := own_empty IsStr (w0 := wr) ((Blk.new wr #[] 84).x ((X.refl _).alloc _).drew) (Nat.le_refl _)
      have hE3 : OwnC IsStr ((wr.alloc (.cells #[.string a.p, .string a.q] 84)).alloc (.cells #[] 84)).drew wr.heap.size 84 2 (.slice (some ⟨wr.heap.size + 1, 0, none⟩) 0 0) 0 [] := own_empty IsStr (w0 := wr) ((Blk.new_at _ #[] 84 (by simp)).x (X.refl _).drew) (by omega)
      have hL2 : Blk ((wr.alloc (.cells #[] 84)).alloc (.cells #[.string a.p, .string a.q] 84)).drew (wr.heap.size + 1) 84 (fvc a) := (Blk.new_at _ #[.string a.p, .string a.q] 84 (by simp)).x (X.refl _).drew
      have hL3 : Blk ((wr.alloc (.cells #[.string a.p, .string a.q] 84)).alloc (.cells #[] 84)).drew wr.heap.size 84 (fvc a) := (Blk.new wr #[.string a.p, .string a.q] 84).x ((X.refl _).alloc _).drew
      have HE1 := Hid.mk hE1
      have HE2 := Hid.mk hE2
      have HE3 := Hid.mk hE3
      have HL2 := Hid.mk hL2
      have HL3 := Hid.mk hL3
      have HZ1 := Hid.mk hz1
      have HZ2 := Hid.mk hz2
      have HZ3 := Hid.mk hz3
      have hS0 := HC.out wr HX.out
      have hguard0 : True := trivial
      clear gg hx gg2 c1 e0 e1 ha hfr hcl hrow hB1 hE1 hE2 hE3 hL2 hL3 hz1 hz2 hz3
      go_wp2_with fail
      go_region_held3 (fun w' => w'.cell? ⟨b0, o0 + i, none⟩ = some (.slice B1 c d1) ∧ w'.cell? ⟨b2, o2 + i * 2, none⟩ = some (.string a.p) ∧ w'.cell? ⟨b2, o2 + i * 2 + 1, none⟩ = some (.string a.q))
        (go_keep)
        (first
          | (refine step_append_oneC IsSl w _ rfl (.tmp 20) (.tmp 33) 26 rfl 51 (.slice none 0 0) 1 24 Tryz.underlying26 info_sF rfl (by omega) (fun u hu => ⟨none, 0, 0, by simpa [Value.cells] using hu⟩) _ _ _ rfl hO3 _ _ _ rfl rfl (by simp [Value.oneCell']) (fun u hu => ⟨RA, c + 1, rc, by simpa using hu⟩) (by omega) (by omega) (HX.out.trans hx3) ?_; intro v4 w4 ho4 hx4 hk4; have hS3 := HC.out w4 hx4; have HO4 := Hid.mk ho4; have HX4 := Hid.mk hx4; have HU4 := Hid.mk (fun j u hj => ((HU.out j u hj).x hx3).kApp hO3 hk4); have HR4 := Hid.mk (hrow.kApp hO3 hk4); clear ho4 hx4 hk4)
          | (refine step_append_oneC IsStr wr _ rfl (.tmp 26) (.tmp 31) 51 rfl 84 (.agg #[.string ⟨#[]⟩, .string ⟨#[]⟩]) 2 32 Tryz.underlying51 info_F rfl (by omega) str_zero _ _ _ rfl ho2 _ _ _ rfl rfl (by simp [Value.oneCell']) (fun u hu => (by exact str_fvc a u hu)) (by omega) (by omega) hx2 ?_; intro v3 w3 ho3 hx3 hk3; have hS2 := HC.out w3 (HX.out.trans hx3); have hrow : SlF w3 v3 (c + 1) (wide c M f i) := SlF.own (fs := fs ++ [a]) (by rw [fcs_snoc]; simpa using ho3.1) (by simp [hfl]) (FCs_ext hfl HFR.out HRa.out); obtain ⟨RA, rc, rfl, p1, p2, p3⟩ := id hrow; have hO3 := HO.out.x hx3)
          | (refine step_append_any IsStr wr _ rfl (.tmp 26) (.tmp 31) 51 rfl 84 (.agg #[.string ⟨#[]⟩, .string ⟨#[]⟩]) 2 32 Tryz.underlying51 info_F rfl (by omega) str_zero _ _ _ rfl ho2 _ 1 1 (by simp) (fvc a) rfl rfl hlit (by simp [Value.oneCell']) (fun u hu => (by exact str_fvc a u hu)) (by omega) (by omega) hx2 ?_; intro v3 w3 ho3 hx3 hk3; have hS2 := HC.out w3 (HX.out.trans hx3); have hrow : SlF w3 v3 (c + 1) (wide c M f i) := SlF.own (fs := fs ++ [a]) (by rw [fcs_snoc]; simpa using ho3.1) (by simp [hfl]) (FCs_ext hfl HFR.out HRa.out); obtain ⟨RA, rc, rfl, p1, p2, p3⟩ := id hrow; have hO3 := HO.out.x hx3)
          | (have hguard := hguard0; refine step_append_any IsStr wr _ rfl (.tmp 21) (.tmp 25) 51 rfl 84 (.agg #[.string ⟨#[]⟩, .string ⟨#[]⟩]) 2 32 Tryz.underlying51 info_F rfl (by omega) str_zero _ _ _ rfl HE1.out B1 c d1 HB1.out (fcs fs) rfl hfl2 (HN.out _ (HX.out.trans HZ1.out)) (fcs_one fs) (str_fcs fs) (by omega) (by omega) HZ1.out ?_; intro v2 w2 ho2 hx2 hk2; have hS1 := HC.out w2 (HX.out.trans hx2); rw [Nat.zero_add, List.nil_append] at ho2)
          | (have hguard := hguard0; refine step_append_any IsStr wr _ rfl (.tmp 21) (.tmp 25) 51 rfl 84 (.agg #[.string ⟨#[]⟩, .string ⟨#[]⟩]) 2 32 Tryz.underlying51 info_F rfl (by omega) str_zero _ _ _ rfl HE2.out B1 c d1 HB1.out (fcs fs) rfl hfl2 (HN.out _ (HX.out.trans HZ2.out)) (fcs_one fs) (str_fcs fs) (by omega) (by omega) HZ2.out ?_; intro v2 w2 ho2 hx2 hk2; have hS1 := HC.out w2 (HX.out.trans hx2); have hlit : ∀ ad, some (⟨wr.heap.size + 1, 0, none⟩ : Addr) = some ad → ∀ j u, (fvc a)[j]? = some u → w2.cell? (ad.add j) = some u := (fun ad had => by injection had with had; subst had; exact lit_cells (HL2.out.kept hk2 (own_ne (by omega)))); rw [Nat.zero_add, List.nil_append] at ho2)
          | (have hguard := hguard0; refine step_append_any IsStr wr _ rfl (.tmp 21) (.tmp 25) 51 rfl 84 (.agg #[.string ⟨#[]⟩, .string ⟨#[]⟩]) 2 32 Tryz.underlying51 info_F rfl (by omega) str_zero _ _ _ rfl HE3.out B1 c d1 HB1.out (fcs fs) rfl hfl2 (HN.out _ (HX.out.trans HZ3.out)) (fcs_one fs) (str_fcs fs) (by omega) (by omega) HZ3.out ?_; intro v2 w2 ho2 hx2 hk2; have hS1 := HC.out w2 (HX.out.trans hx2); have hlit : ∀ ad, some (⟨wr.heap.size, 0, none⟩ : Addr) = some ad → ∀ j u, (fvc a)[j]? = some u → w2.cell? (ad.add j) = some u := (fun ad had => by injection had with had; subst had; exact lit_cells (HL3.out.kept hk2 (own_ne (by omega)))); rw [Nat.zero_add, List.nil_append] at ho2))
      all_goals
        go_wp2_with fail
        go_roundw
        case rel => exact ⟨i + 1, us ++ [.slice RA (c + 1) rc], by omega, by go_num, HO4.out, by simp [hl], rows_snoc (S := SlF) hl HU4.out HR4.out, HX4.out⟩
        case measure => simp [intOf]; omega
    · obtain rfl : i = m := by omega
      have hT : MatF wr u6 i (c + 1) (wide c M f) := SlM.own (S := SlF) (M := wide c M f) (c := c + 1) HO.out.1 hl HU.out
      obtain ⟨TA, tc, rfl, -, -, -⟩ := id hT
      have HT := Hid.mk hT
      have him' : ¬ (i : Int) < (i : Int) := by omega
      clear him hi hT HO HU
      go_wp2_with fail
      refine (ref_columns _ _ i c M (H.out.x HX.out) (by omega) c (by have := HMC.out; split <;> omega)).mono ?_
      rintro e w2 ⟨⟨v2, rfl, rfl⟩, hx2⟩
      replace HX := Hid.mk (HX.out.trans hx2)
      replace HT := Hid.mk (HT.out.x hx2)
      clear hx2
      go_wp2_with fail
      refine (ref_reduce _ _ i (c + 1) (wide c M f) HT.out (by omega) (by omega) b hb HS.out hsz).mono ?_
      rintro e w3 ⟨⟨v3, rfl, R, P, rfl, hR, hP⟩, hx3⟩
      replace HX := Hid.mk (HX.out.trans hx3)
      have HR := Hid.mk hR
      have HP := Hid.mk hP
      have hple : (steps i (wide c M f) (c + 1)).piv.length ≤ 1000000 := by
        have := (inv_steps i (wide c M f) (c + 1)).len
        omega
      clear hx3 hR hP HT
      go_wp2_with fail
      refine (ref_at _ _ _ c HP.out hple).mono ?_
      rintro e w4 ⟨⟨v4, rfl, rfl⟩, hx4⟩
      replace HX := Hid.mk (HX.out.trans hx4)
      replace HR := Hid.mk (HR.out.x hx4)
      replace HP := Hid.mk (HP.out.x hx4)
      clear hx4
      by_cases hz : ∀ t, (steps i (wide c M f) c).piv.length ≤ t → t < i → (steps i (wide c M f) c).M t c = 0
      · have hnext := next_none hz
        rw [hnext] at HR HP ⊢
        obtain ⟨s, hs⟩ : ∃ s, s = steps i (wide c M f) c := ⟨_, rfl⟩
        have hnp : c ∉ s.piv := fun h => by rw [hs] at h; exact absurd (piv_lt c h) (by omega)
        have hat : atv s.piv c = -1 := by unfold atv; rw [if_neg hnp]
        have hpl : s.piv.length ≤ i := by rw [hs]; exact (inv_steps i (wide c M f) c).len
        have HSX := Hid.mk hs
        have HZ := Hid.mk hz
        rw [← hs] at HR HP ⊢
        rw [hat]
        obtain ⟨PA, pc, rfl, -, -, -⟩ := id HP.out
        obtain ⟨RA, rc, rfl, -, -, -⟩ := id HR.out
        clear hs hz hnext hnp hat hple
        go_wp2_with (at_make; refine make_blkz _ rfl _ _ 51 rfl 84 (.agg #[.string ⟨#[]⟩, .string ⟨#[]⟩]) 2 32 Tryz.underlying51 info_F rfl .i64 .i64 _ _ c rfl rfl rfl rfl (by omega) (by omega) ?_; intro w6 cs hb1 hb2 hb3 hb4 hx6; have HF := Hid.mk (FFil.start (solv s c) hb1 hb2); have HX6 := Hid.mk hx6; clear hb1 hb2 hb3 hb4 hx6)
        obtain ⟨g, hg⟩ : ∃ g, g = w4.heap.size := ⟨_, rfl⟩
        rw [← hg] at HF ⊢
        have HG := Hid.mk hg
        clear hg
        go_loopw [12] (fun t12 wr => ∃ k : Nat, k ≤ c ∧ t12 = .int .i64 k ∧ FFil wr g c k (solv s c) ∧ X w4 wr) (fun t _ => c - (intOf t).toNat)
        case atStart => exact ⟨0, Nat.zero_le _, rfl, HF.out, HX6.out⟩
        case round =>
          clear HF HX6
          obtain ⟨k, hk, rfl, hF, hx⟩ := hrel
          have HF := Hid.mk hF
          have HX5 := Hid.mk hx
          clear hF hx
          by_cases hkn : k < c
          · have hkn' : (k : Int) < (c : Int) := by omega
            obtain ⟨v0, v1, c0, c1, f0, f1⟩ := HF.out.cells hkn
            have HF1 := Hid.mk ((HF.out.congr (e := fun t => if t = k then 0 else solv s c t) (fun j hj => by
              have : j ≠ k := by omega
              simp [this])).put hkn (r := ⟨⟨#[48]⟩, ⟨#[49]⟩⟩) (by simpa using fzero))
            have HX6 := Hid.mk (HX5.out.put2at (g := g) (by rw [HG.out]; exact Nat.le_refl _) (k * 2) ⟨⟨#[48]⟩, ⟨#[49]⟩⟩)
            clear HF
            go_wp2_with fail
            refine (ref_at _ _ s.piv k (HP.out.x HX6.out) (by omega)).mono ?_
            rintro e w7 ⟨⟨v7, rfl, rfl⟩, hx7⟩
            have HF2 := Hid.mk (HF1.out.x hx7)
            have HX7 := Hid.mk (HX6.out.trans hx7)
            clear HF1 HX6 hx7 c0 c1 f0 f1
            by_cases hmem : k ∈ s.piv
            · have hil := List.idxOf_lt_length_iff.2 hmem
              have hat : atv s.piv k = (s.piv.idxOf k : Nat) := by unfold atv; rw [if_pos hmem]
              have hq : solv s c k = s.M (s.piv.idxOf k) c := by unfold solv; rw [if_pos hmem]
              obtain ⟨y, hy⟩ : ∃ y, y = s.piv.idxOf k := ⟨_, rfl⟩
              rw [← hy] at hil hat hq
              rw [hat]
              have HQ := Hid.mk hq
              have hge : (0 : Int) ≤ (y : Int) := by omega
              have hil' : (y : Int) < (s.piv.length : Int) := by omega
              have hcc' : (c : Int) < (((c + 1 : Nat)) : Int) := by omega
              obtain ⟨b1, o1, d1, b2, o2, a, rfl, c0, e0, e1, ha⟩ := (HR.out.x HX7.out).elem hil (show c < c + 1 by omega)
              obtain ⟨v0, v1, k0, k1, f0, f1⟩ := HF2.out.cells hkn
              have HF3 := Hid.mk ((HF2.out.upd (k := k) (by omega) ha).congr (e := solv s c) (fun j hj => by
                by_cases e : j = k
                · simp [e, HQ.out]
                · simp [e]))
              have HX8 := Hid.mk (HX7.out.put2at (g := g) (by rw [HG.out]; exact Nat.le_refl _) (k * 2) a)
              clear hmem hat hq hy ha HF2
              go_wp2_with fail
              go_roundw
              case rel => exact ⟨k + 1, by omega, by go_num, HF3.out, HX8.out⟩
              case measure => simp [intOf]; omega
            · have hat : atv s.piv k = -1 := by unfold atv; rw [if_neg hmem]
              rw [hat]
              have HF3 := Hid.mk (HF2.out.congr (e := solv s c) (fun j hj => by
                by_cases e : j = k
                · have : solv s c k = 0 := by unfold solv; rw [if_neg hmem]
                  simp [e, this]
                · simp [e]))
              clear hat hmem
              go_wp2_with fail
              go_roundw
              case rel => exact ⟨k + 1, by omega, by go_num, HF3.out, HX7.out⟩
              case measure => simp [intOf]; omega
          · obtain rfl : k = c := by omega
            have hkn' : ¬ (k : Int) < (k : Int) := by omega
            have HRow : Hid (SlF wr (.slice (some ⟨g, 0, none⟩) k k) k (solv s k)) := ⟨_, k, rfl, Nat.le_refl _, by simp, HF.out.row⟩
            have HXF := Hid.mk (HX.out.trans HX5.out)
            have HZS : Hid (∀ t, s.piv.length ≤ t → t < i → s.M t k = 0) := by rw [HSX.out]; exact HZ.out
            clear hkn hk HF
            go_wp2_with fail
            refine bodyPost_ret (v := .tuple #[.slice (some ⟨g, 0, none⟩) k k, .bool true]) (by simp [results, Tryz.results34, go_sem]) rfl ⟨⟨_, rfl, (by rw [← HSX.out]; exact ⟨fun _ => ⟨_, rfl, HRow.out⟩, fun h => absurd HZS.out h⟩)⟩, HXF.out⟩
      · have hnext := next_some hz
        have hat : atv (steps i (wide c M f) (c + 1)).piv c = ((steps i (wide c M f) (c + 1)).piv.idxOf c : Nat) := by unfold atv; rw [if_pos hnext]
        rw [hat]
        obtain ⟨y, hy⟩ : ∃ y, y = (steps i (wide c M f) (c + 1)).piv.idxOf c := ⟨_, rfl⟩
        rw [← hy]
        have hge : (0 : Int) ≤ (y : Int) := by omega
        have HZ := Hid.mk hz
        clear hnext hat hy hz
        go_wp2_with fail
        refine bodyPost_ret (v := .tuple #[.slice none 0 0, .bool false]) (by simp [results, Tryz.results34, go_sem]) rfl ⟨⟨_, rfl, fun h => absurd h HZ.out, fun _ => rfl⟩, HX.out⟩
end Go.Proofs.YtogakaiibijjpaaGreatDoor

/- slices.Grow, slices.Concat of rows of rationals. -/
set_option linter.unusedVariables false
set_option linter.unusedSimpArgs false
namespace Go.Proofs.YtogakaiibijjpaaGreatDoor
open Go.RowKit
open DDig DLin

/-- 'append(out, xs...)' onto a row of one sort, xs nil or not. -/
theorem append_any {P : Program} (C : Value → Prop) (w0 w : World) {ops : Array Oper} {rest : List Oper} {o : Oper} {a : Act} {Q : Exit → Act → World → Prop} (hgd : o.guard = none) (s x : Operand) (t : TypeId)
    (ho : o.op = .call { callee := .builtin .append, args := #[s, x], argTypes := #[t, t] })
    (e : TypeId) (z : Value) (size bytes : Nat) (ht : P.underlying t = some (.slice e)) (h2 : (P.info? e).map (fun i => (i.zero, i.size, i.bytes)) = some (some z, size, bytes)) (hzs : z.cells.size = size) (hsz : 0 < size) (hzc : ∀ u ∈ z.cells.toList, C u)
    (v : Value) (n : Nat) (xs : List Value) (hs : a.eval s = v) (hown : OwnC C w w0.heap.size e size v n xs)
    (B : Option Addr) (m c : Nat) (hB : B = none → m = 0 ∧ c = 0) (news : List Value) (hx : a.eval x = .slice B m c) (hl : news.length = m * size) (hnews : ∀ ad, B = some ad → ∀ j u, news[j]? = some u → w.cell? (ad.add j) = some u) (h1 : ∀ u ∈ news, u.oneCell' = true) (hnc : ∀ u ∈ news, C u)
    (h63 : n + m ≤ 9223372036854775807) (hbytes : (n + m) * bytes ≤ 140737488355328) (hX : X w0 w)
    (h : ∀ v' w', OwnC C w' w0.heap.size e size v' (n + m) (xs ++ news) → X w0 w' → (∀ b, b < w.heap.size → v.ownBlock ≠ some b → w'.heap[b]? = w.heap[b]?) → wpList P ops Q rest (a.put o.dst v') w') : wpList P ops Q (o :: rest) a w := by
  cases B with
  | some ad => exact append_C C w0 w hgd s x t ho e z size bytes ht h2 hzs hsz hzc v n xs hs hown ad m c news hx hl (hnews ad rfl) h1 hnc h63 hbytes hX h
  | none =>
    obtain ⟨rfl, rfl⟩ := hB rfl
    have hn : news = [] := List.eq_nil_of_length_eq_zero (by rw [hl, Nat.zero_mul])
    subst hn
    obtain ⟨i, hi, e1, e2, e3⟩ := info_parts h2
    have hrun := run_append_owned_none (P := P) (w := w) w0.heap.size t o.type e i size ht hi v n xs hown.1
    exact Lib.wpList_append_run w hgd s x t t ho v (.slice none 0 0) hs hx _ _ hrun (h v w (by simpa using hown) hX (fun b _ _ => rfl))

theorem zeros_C {C : Value → Prop} {z : Array Value} {n m : Nat} (hz : ∀ u ∈ z.toList, C u) : ∀ u ∈ (Builtin.zeroCells z n ++ Builtin.zeroCells z m).toList, C u := by
  intro u hu
  rw [Array.toList_append, List.mem_append] at hu
  rcases hu with hu | hu <;> exact hz u (zeroCells_mem hu)
theorem own_zeros {C : Value → Prop} (w : World) {e : TypeId} {z : Array Value} {size n c : Nat} (hz : ∀ u ∈ z.toList, C u) (hzs : z.size = size) (hn : n ≤ c) (hc : c ≤ maxLen) :
    OwnC C (w.drew.alloc (.cells (Builtin.zeroCells z n ++ Builtin.zeroCells z (c - n)) e)) w.heap.size e size (.slice (some ⟨w.heap.size, 0, none⟩) 0 c) 0 [] := by
  refine ⟨⟨by simp, Or.inr ⟨w.heap.size, c, _, rfl, Nat.le_refl _, heap_alloc_new w.drew _, by omega, hc, ?_, by simp⟩⟩, fun b hb => ?_⟩
  · simp [Builtin.zeroCells, hzs]
    rw [← Nat.add_mul]
    congr 1
    omega
  · simp [Value.ownBlock] at hb
    subst hb
    exact ⟨_, Blk.ofA (heap_alloc_new w.drew _), zeros_C hz⟩

set_option maxRecDepth 100000 in
set_option maxHeartbeats 4000000 in
theorem grow_q (w : World) (n : Nat) (hn : n ≤ 1000) :
    Calls Tryz.prog 100 #[.slice none 0 0, .int .i64 n] w (Ret w fun w' v' => OwnC NI w' w.heap.size 71 4 v' 0 []) := by
  have hn1 : ¬ (n : Int) < 0 := by omega
  by_cases h0 : 0 < n
  · have h0' : (0 : Int) < (n : Int) := by omega
    obtain ⟨i, hi, e1, e2, e3⟩ := info_parts info_Q
    have hr := Lib.run_append_nil_zeros (P := Tryz.prog) w 49 3 49 71 i _ .i64 .i64 Tryz.underlying49 Tryz.underlying3 hi e1 n h0 (by omega) (by omega) (by rw [e3]; omega)
    obtain ⟨c, hc⟩ : ∃ c, c = grownCap w n 0 71 := ⟨_, rfl⟩
    rw [← hc] at hr
    have hO := own_zeros (C := NI) w (e := 71) (n := n) (c := c) (size := 4) ni_zero rfl (by rw [hc]; exact grownCap_ge _ _ _ _) (by rw [hc]; exact grownCap_le_maxLen _ _ _ _ (by simp only [maxLen]; omega))
    have hnc : n ≤ c := by rw [hc]; exact grownCap_ge _ _ _ _
    have hx : X w (w.drew.alloc (.cells (Builtin.zeroCells (Value.agg #[.bool false, .slice none 0 0, .bool false, .slice none 0 0]).cells n ++ Builtin.zeroCells (Value.agg #[.bool false, .slice none 0 0, .bool false, .slice none 0 0]).cells (c - n)) 71)) := ((X.refl w).drew).alloc _
    have HO := Hid.mk hO
    have HR := Hid.mk hr
    have HX := Hid.mk hx
    have hnc' : (n : Int) ≤ (c : Int) := by omega
    have hc0 : (0 : Int) ≤ (c : Int) := by omega
    clear hO hr hx hc e1 e2 e3 hi
    go_enter Tryz.func100, Tryz.ntmps100
    go_wp2_with (at_builtin; refine Lib.wpList_append_run _ rfl _ _ _ _ rfl _ _ rfl rfl _ _ HR.out ?_)
    exact bodyPost_ret (v := .slice (some ⟨w.heap.size, 0, none⟩) 0 c) (by simp [results, Tryz.results100, go_sem]) rfl ⟨⟨_, rfl, HO.out⟩, HX.out⟩
  · obtain rfl : n = 0 := by omega
    go_enter Tryz.func100, Tryz.ntmps100
    go_wp2_with fail
    go_ret
    exact ⟨⟨_, rfl, OwnC.nil _ _ _ _ _⟩, X.refl w⟩

/-- The count behind the first rows of two. -/
def pre2 (n m : Nat) : Nat → Nat
  | 0 => 0
  | 1 => n
  | _ => n + m
def pre2l (xs ys : List QV) : Nat → List QV
  | 0 => []
  | 1 => xs
  | _ => xs ++ ys
theorem two_rows {xs ys : List QV} {n m : Nat} {f e : Nat → Rat} {w : World} (hl : xs.length = n) (hl' : ys.length = m) (h : ∀ j a, xs[j]? = some a → RatR w a (f j)) (h' : ∀ j a, ys[j]? = some a → RatR w a (e j)) :
    ∀ j a, (xs ++ ys)[j]? = some a → RatR w a ((fun j => if j < n then f j else e (j - n)) j) := by
  intro j a hj
  show RatR w a (if j < n then f j else e (j - n))
  by_cases hjn : j < n
  · rw [if_pos hjn]
    rw [List.getElem?_append_left (by omega)] at hj
    exact h j a hj
  · rw [if_neg hjn]
    rw [List.getElem?_append_right (by omega), hl] at hj
    exact h' _ a hj

set_option maxRecDepth 100000 in
set_option maxHeartbeats 4000000 in
theorem concat_q (w : World) (b o c : Nat) (u v : Value) (n m : Nat) (f e : Nat → Rat) (c0 : w.cell? ⟨b, o, none⟩ = some u) (c1 : w.cell? ⟨b, o + 1, none⟩ = some v) (h : SlQ w u n f) (h' : SlQ w v m e) (hn : n ≤ 500) (hm : m ≤ 500) :
    Calls Tryz.prog 79 #[.slice (some ⟨b, o, none⟩) 2 c] w (Ret w fun w' v' => SlQ w' v' (n + m) (fun j => if j < n then f j else e (j - n))) := by
  obtain ⟨A1, k1, rfl, -, hA1, h1⟩ := h
  obtain ⟨A2, k2, rfl, -, hA2, h2⟩ := h'
  obtain ⟨xs, hxl, hxr, hxc⟩ := h1.list
  obtain ⟨ys, hyl, hyr, hyc⟩ := h2.list
  have HX1 : Hid (∀ w', X w w' → ∀ ad, A1 = some ad → ∀ j u, (qcs xs)[j]? = some u → w'.cell? (ad.add j) = some u) := fun w' hx ad had j u hj => by
    by_cases h0 : 0 < n
    · obtain ⟨b', o', e', -⟩ := h1 h0
      rw [e'] at had
      injection had with had
      subst had
      rw [add_off]
      exact hx.cell (hxc b' o' e' j u hj)
    · have : xs = [] := List.eq_nil_of_length_eq_zero (by omega)
      subst this
      simp [qcs] at hj
  have HX2 : Hid (∀ w', X w w' → ∀ ad, A2 = some ad → ∀ j u, (qcs ys)[j]? = some u → w'.cell? (ad.add j) = some u) := fun w' hx ad had j u hj => by
    by_cases h0 : 0 < m
    · obtain ⟨b', o', e', -⟩ := h2 h0
      rw [e'] at had
      injection had with had
      subst had
      rw [add_off]
      exact hx.cell (hyc b' o' e' j u hj)
    · have : ys = [] := List.eq_nil_of_length_eq_zero (by omega)
      subst this
      simp [qcs] at hj
  have HR1 := Hid.mk hxr
  have HR2 := Hid.mk hyr
  have HA1 := Hid.mk hA1
  have HA2 := Hid.mk hA2
  have hq1 : (qcs xs).length = n * 4 := by rw [qcs, flat_len qvc 4 (fun _ => rfl), hxl]
  have hq2 : (qcs ys).length = m * 4 := by rw [qcs, flat_len qvc 4 (fun _ => rfl), hyl]
  have HQ1 := Hid.mk hq1
  have HQ2 := Hid.mk hq2
  have hw1 : IntKind.i64.wrap (0 + (n : Int)) = (n : Int) := by rw [IntKind.wrap_i64]; omega
  have hw1' : IntKind.i64.wrap (n : Int) = (n : Int) := by rw [IntKind.wrap_i64]; omega
  have hw2 : IntKind.i64.wrap ((n : Int) + (m : Int)) = ((n + m : Nat) : Int) := by rw [IntKind.wrap_i64]; omega
  have hn0 : ¬ (n : Int) < 0 := by omega
  have hnm0 : ¬ ((n + m : Nat) : Int) < 0 := by omega
  clear h1 h2 hxc hyc hxr hyr hA1 hA2 hq1 hq2
  go_enter Tryz.func79, Tryz.ntmps79
  go_wp2_with fail
  go_loopw [3, 11] (fun t3 t11 wr => ∃ i : Nat, i ≤ 2 ∧ t3 = .int .i64 (pre2 n m i : Nat) ∧ t11 = .int .i64 i ∧ wr = w) (fun _ t _ => 2 - (intOf t).toNat)
  case atStart => exact ⟨0, by omega, rfl, rfl, rfl⟩
  case round =>
    obtain ⟨i, hi, rfl, rfl, rfl⟩ := hrel
    by_cases hi0 : i = 0
    · subst hi0
      simp only [pre2]
      go_wp2_with fail
      go_roundw
      case rel => refine ⟨1, by omega, ?_⟩; simp [pre2]
      case measure => simp [intOf]
    · by_cases hi1 : i = 1
      · subst hi1
        simp only [pre2]
        go_wp2_with fail
        go_roundw
        case rel => refine ⟨2, by omega, ?_⟩; simp [pre2]
        case measure => simp [intOf]
      · obtain rfl : i = 2 := by omega
        simp only [pre2]
        clear hi hi0 hi1
        go_wp2_with fail
        refine (grow_q _ (n + m) (by omega)).mono ?_
        rintro e1 w1 ⟨⟨v1, rfl, ho⟩, hx1⟩
        have HO := Hid.mk ho
        have HX := Hid.mk hx1
        clear ho hx1
        obtain ⟨w5, hw5⟩ : ∃ w5, w5 = wr := ⟨_, rfl⟩
        subst hw5
        go_wp2_with fail
        go_loopw [6, 27] (fun t6 t27 wr => ∃ i : Nat, i ≤ 2 ∧ t27 = .int .i64 i ∧ OwnC NI wr w5.heap.size 71 4 t6 (pre2 n m i) (qcs (pre2l xs ys i)) ∧ X w5 wr) (fun _ t _ => 2 - (intOf t).toNat)
        case atStart => exact ⟨0, by omega, rfl, HO.out, HX.out⟩
        case round =>
          clear HO HX
          obtain ⟨i, hi, rfl, ho, hx⟩ := hrel
          have HO := Hid.mk ho
          have HX := Hid.mk hx
          clear ho hx
          by_cases hi0 : i = 0
          · subst hi0
            have k0 := HX.out.cell c0
            clear c0 c1
            go_wp2_with (at_builtin; refine append_any NI w5 _ rfl _ _ 49 rfl 71 (.agg #[.bool false, .slice none 0 0, .bool false, .slice none 0 0]) 4 64 Tryz.underlying49 info_Q rfl (by omega) ni_zero _ _ _ rfl HO.out A1 n k1 HA1.out (qcs xs) rfl HQ1.out (HX1.out _ HX.out) (qcs_one xs) (ni_qcs xs) (by simp only [pre2]; omega) (by simp only [pre2]; omega) HX.out ?_; intro v9 w9 ho9 hx9 hk9; have HO9 := Hid.mk ho9; have HX9 := Hid.mk hx9; clear ho9 hx9 hk9)
            go_roundw
            case rel => exact ⟨1, by omega, rfl, by simpa [pre2, pre2l, qcs] using HO9.out, HX9.out⟩
            case measure => simp [intOf]
          · by_cases hi1 : i = 1
            · subst hi1
              have k1' := HX.out.cell c1
              clear c0 c1
              go_wp2_with (at_builtin; refine append_any NI w5 _ rfl _ _ 49 rfl 71 (.agg #[.bool false, .slice none 0 0, .bool false, .slice none 0 0]) 4 64 Tryz.underlying49 info_Q rfl (by omega) ni_zero _ _ _ rfl HO.out A2 m k2 HA2.out (qcs ys) rfl HQ2.out (HX2.out _ HX.out) (qcs_one ys) (ni_qcs ys) (by simp only [pre2]; omega) (by simp only [pre2]; omega) HX.out ?_; intro v9 w9 ho9 hx9 hk9; have HO9 := Hid.mk ho9; have HX9 := Hid.mk hx9; clear ho9 hx9 hk9)
              go_roundw
              case rel => exact ⟨2, by omega, rfl, by simpa [pre2, pre2l, qcs] using HO9.out, HX9.out⟩
              case measure => simp [intOf]
            · obtain rfl : i = 2 := by omega
              have hrow := SlQ.own (f := fun j => if j < n then f j else e (j - n)) (fs := xs ++ ys) HO.out.1 (by simp [pre2, hxl, hyl]) (two_rows hxl hyl (fun j a ha => (HR1.out j a ha).x HX.out) (fun j a ha => (HR2.out j a ha).x HX.out))
              have HROW := Hid.mk hrow
              clear hrow hi hi0 hi1 c0 c1 HO
              go_wp2_with fail
              go_ret
              exact ⟨⟨_, rfl, HROW.out⟩, HX.out⟩
end Go.Proofs.YtogakaiibijjpaaGreatDoor

/- Package matrix: Inverse; square, Determinant and Inverse of what is not square. -/
set_option linter.unusedVariables false
set_option linter.unusedSimpArgs false
namespace Go.Proofs.YtogakaiibijjpaaGreatDoor
open Go.RowKit
open DDig DLin

theorem mat_square_no (w : World) (v : Value) (m c : Nat) (M : Mat) (h : MatQ w v m c M) (hm : m ≤ 96) (hc : c ≤ 96) (h0 : 0 < m) (hmc : c ≠ m) :
    Calls Tryz.prog 78 #[v] w (Ret w fun w' v' => v' = .int .i64 13) := by
  have H := Hid.mk h
  obtain ⟨A0, c0, rfl, p1, p2, p3⟩ := id h
  clear h p1 p2 p3
  have h0' : (0 : Int) < (m : Int) := by omega
  have hnn : ((c : Int) != (m : Int)) = true := by rw [bne_iff_ne]; omega
  go_enter Tryz.func78, Tryz.ntmps78
  go_wp2_with fail
  refine (mat_size _ _ m c M H.out (by omega) hc).mono ?_
  rintro e w1 ⟨⟨v1, rfl, rfl⟩, hx1⟩
  have HX := Hid.mk hx1
  clear hx1
  go_wp2_with fail
  refine (mat_columns _ _ m c M (H.out.x HX.out) (by omega) c (by rw [if_neg (by omega)])).mono ?_
  rintro e w2 ⟨⟨v2, rfl, rfl⟩, hx2⟩
  have HX2 := Hid.mk (HX.out.trans hx2)
  clear hx2
  go_wp2_with fail
  go_ret
  exact ⟨⟨_, rfl, rfl⟩, HX2.out⟩

/-- The zero of a rational, as a value. -/
theorem mat_det_no (w : World) (v : Value) (m c : Nat) (M : Mat) (h : MatQ w v m c M) (hm : m ≤ 96) (hc : c ≤ 96) (h0 : 0 < m) (hmc : c ≠ m) :
    Calls Tryz.prog 38 #[v] w (Ret w fun w' v' => ∃ r : QV, v' = .tuple #[r.v, .int .i64 13] ∧ RatR w' r 0) := by
  have H := Hid.mk h
  obtain ⟨A0, c0, rfl, p1, p2, p3⟩ := id h
  clear h p1 p2 p3
  go_enter Tryz.func38, Tryz.ntmps38
  go_wp2_with fail
  obtain ⟨W, hW, hX, b0, hWs⟩ := setup1 w #[.bool false, .slice none 0 0, .bool false, .slice none 0 0] 71
  rw [hW]
  clear hW
  have B0 := Hid.mk b0
  have HX := Hid.mk hX
  clear b0 hX
  refine (mat_square_no _ _ m c M (H.out.x HX.out) hm hc h0 hmc).mono ?_
  rintro e w1 ⟨⟨v1, rfl, rfl⟩, hx1⟩
  replace HX := Hid.mk (HX.out.trans hx1)
  replace B0 := Hid.mk (B0.out.x hx1)
  clear hx1
  have hb0 := B0.out
  have k0 := hb0.cell (j := 0) rfl; have k1 := hb0.cell (j := 1) rfl; have k2 := hb0.cell (j := 2) rfl; have k3 := hb0.cell (j := 3) rfl; have f0 := hb0.frozen 0; have f1 := hb0.frozen 1; have f2 := hb0.frozen 2; have f3 := hb0.frozen 3
  have K := four_cells hb0 (.bool false) (.slice none 0 0) (.bool false) (.slice none 0 0)
  have HR : Hid (RatR (put4 w1 w.heap.size ⟨false, none, 0, 0, false, none, 0, 0⟩) ⟨false, none, 0, 0, false, none, 0, 0⟩ 0) := (RatR.whole (IntR.zero w1)).put4 hb0 _
  have HXF := Hid.mk (HX.out.put4 (Nat.le_refl _) ⟨false, none, 0, 0, false, none, 0, 0⟩)
  clear hb0
  go_wp2_with fail
  exact bodyPost_ret (v := .tuple #[.agg #[.bool false, .slice none 0 0, .bool false, .slice none 0 0], .int .i64 13]) (by simp [results, Tryz.results38, go_sem, K.1, K.2.1, K.2.2.1, K.2.2.2]) rfl ⟨⟨_, rfl, ⟨false, none, 0, 0, false, none, 0, 0⟩, rfl, HR.out⟩, HXF.out⟩

theorem mat_inverse_no (w : World) (v : Value) (m c : Nat) (M : Mat) (h : MatQ w v m c M) (hm : m ≤ 96) (hc : c ≤ 96) (h0 : 0 < m) (hmc : c ≠ m) :
    Calls Tryz.prog 39 #[v] w (Ret w fun w' v' => v' = .tuple #[.slice none 0 0, .int .i64 13]) := by
  have H := Hid.mk h
  obtain ⟨A0, c0, rfl, p1, p2, p3⟩ := id h
  clear h p1 p2 p3
  go_enter Tryz.func39, Tryz.ntmps39
  go_wp2_with fail
  refine (mat_square_no _ _ m c M H.out hm hc h0 hmc).mono ?_
  rintro e w1 ⟨⟨v1, rfl, rfl⟩, hx1⟩
  have HX := Hid.mk hx1
  clear hx1
  go_wp2_with fail
  go_ret2
  exact ⟨⟨_, rfl, rfl⟩, HX.out⟩

theorem beside_row {n i : Nat} (M : Mat) (hi : i < n) : ∀ j, j < n + n → (if j < n then M i j else one i (j - n)) = beside n M i j := fun j hj => by
  unfold beside one
  by_cases h : j < n
  · rw [if_pos h, if_pos h]
  · rw [if_neg h, if_neg h]
    by_cases e : i = j - n
    · rw [if_pos e, if_pos (by omega)]
    · rw [if_neg e, if_neg (by omega)]
theorem beside_size {n b : Nat} {M : Mat} (hb : 0 < b) (h : TSz M n n b) : TSz (beside n M) n (n + n) b := fun i hi j hj => by
  unfold beside
  split
  · exact h i hi j (by omega)
  · split
    · exact RSz.one hb
    · exact RSz.zero hb

/-- What Inverse answers for a square matrix. -/
def InvP (n : Nat) (s : St) (w' : World) (r : Value) : Prop :=
  (s.piv.length = n → ∃ Q, r = .tuple #[Q, .int .i64 0] ∧ MatQ w' Q n n (fun i j => s.M i (n + j))) ∧ (s.piv.length < n → r = .tuple #[.slice none 0 0, .int .i64 20])
theorem SlQ.part {w : World} {b o k d N : Nat} {c : Nat} {f : Nat → Rat} (h : SlQ w (.slice (some ⟨b, o, Option.none⟩) N c) N f) (hN : N = k + d) : SlQ w (.slice (some ⟨b, o + k * 4, Option.none⟩) (N - k) (c - k)) d (fun j => f (k + j)) := by
  obtain rfl : d = N - k := by omega
  obtain ⟨A, c', e, h1, h2, h3⟩ := h
  injection e with e1 e2 e3
  subst e1
  subst e3
  refine ⟨_, _, rfl, by omega, by simp, fun h0 => ⟨b, o + k * 4, rfl, fun j hj => ?_⟩⟩
  obtain ⟨b', o', e', g⟩ := h3 (by omega)
  injection e' with e'
  injection e' with e1 e2
  subst e1
  subst e2
  obtain ⟨a, g0, g1, g2, g3, g4⟩ := g (k + j) (by omega)
  rw [Nat.add_mul] at g0 g1 g2 g3
  rw [← Nat.add_assoc] at g0 g1 g2 g3
  exact ⟨a, g0, g1, g2, g3, g4⟩

set_option maxRecDepth 100000 in
set_option maxHeartbeats 8000000 in
theorem mat_inverse (w : World) (v : Value) (n : Nat) (M : Mat) (h : MatQ w v n n M) (hn : n ≤ 96) (b : Nat) (hb : 0 < b) (hs : TSz M n n b) (hsz : 5 ^ (n + 1) * b ≤ 100000000000) :
    Calls Tryz.prog 39 #[v] w (Ret w (InvP n (steps n (beside n M) n))) := by
  have H := Hid.mk h
  have HS := Hid.mk (beside_size hb hs)
  obtain ⟨A0, c0, rfl, p1, p2, p3⟩ := id h
  have hnb : (n : Int) ≤ 96 := by omega
  clear h hs p1 p2 p3
  go_enter Tryz.func39, Tryz.ntmps39
  go_wp2_with fail
  refine (mat_square _ _ n M H.out hn).mono ?_
  rintro e w1 ⟨⟨v1, rfl, rfl⟩, hx1⟩
  have HX := Hid.mk hx1
  clear hx1
  go_wp2_with fail
  refine (mat_identity _ n hn).mono ?_
  rintro e w2 ⟨⟨v2, rfl, R, rfl, hR⟩, hx2⟩
  replace HX := Hid.mk (HX.out.trans hx2)
  have HI := Hid.mk hR
  obtain ⟨RA, rc, rfl, -, -, -⟩ := id hR
  clear hx2 hR
  go_wp2_with fail
  go_loopw [8, 31] (fun t8 t31 wr => ∃ (i : Nat) (us : List Value), i ≤ n ∧ t31 = .int .i64 i ∧ OwnC IsSl wr w2.heap.size 49 1 t8 i us ∧ us.length = i ∧ (∀ j u, us[j]? = some u → SlQ wr u (n + n) (beside n M j)) ∧ X w2 wr) (fun _ t _ => n - (intOf t).toNat)
  case atStart => exact ⟨0, [], Nat.zero_le _, rfl, OwnC.nil _ _ _ _ _, rfl, by simp, X.refl _⟩
  case round =>
    obtain ⟨i, us, hi, rfl, ho, hl, hu, hx⟩ := hrel
    have HO := Hid.mk ho
    have HU := Hid.mk hu
    have HX5 := Hid.mk hx
    clear ho hu hx
    obtain ⟨w5, hw5⟩ : ∃ w5, w5 = wr := ⟨_, rfl⟩
    subst hw5
    by_cases hin : i < n
    · have hin' : (i : Int) < (n : Int) := by omega
      obtain ⟨b1, o1, rfl, g1⟩ := (H.out.x (HX.out.trans HX5.out)).rows (by omega)
      obtain ⟨u1, c1, hu1⟩ := g1 i hin
      obtain ⟨b2, o2, rfl, g2⟩ := (HI.out.x HX5.out).rows (by omega)
      obtain ⟨u2, c2, hu2⟩ := g2 i hin
      obtain ⟨A1, d1, rfl, -, -, -⟩ := id hu1
      obtain ⟨A2, d2, rfl, -, -, -⟩ := id hu2
      have HU1 := Hid.mk hu1
      have HU2 := Hid.mk hu2
      clear g1 g2 hu1 hu2
      go_wp2_with fail
      have hxa : X w5 (w5.alloc (.cells #[.slice A1 n d1, .slice A2 n d2] 49)) := (X.refl _).alloc _
      have hba := Blk.new w5 #[.slice A1 n d1, .slice A2 n d2] 49
      refine (concat_q _ w5.heap.size 0 2 _ _ n n (M i) (one i) (hba.cell (j := 0) rfl) (hba.cell (j := 1) rfl) (HU1.out.x hxa) (HU2.out.x hxa) (by omega) (by omega)).mono ?_
      rintro e w6 ⟨⟨v6, rfl, hv6⟩, hx6⟩
      have hrow : SlQ w6 v6 (n + n) (beside n M i) := hv6.congr (beside_row M hin)
      obtain ⟨A6, d6, rfl, -, -, -⟩ := id hrow
      have HRow := Hid.mk hrow
      have HX6 := Hid.mk (HX5.out.trans (hxa.trans hx6))
      have HO6 := Hid.mk (HO.out.x (hxa.trans hx6))
      have HU6 := Hid.mk (fun t u ht => (HU.out t u ht).x (hxa.trans hx6))
      clear hxa hba hx6 hv6 hrow c1 c2 HU1 HU2 HX5 HO HU
      go_wp2_with (at_builtin; refine append_oneC IsSl w2 _ rfl _ _ 29 rfl 49 (.slice none 0 0) 1 24 Tryz.underlying29 info_sQ rfl (by omega) (fun u hu => ⟨none, 0, 0, by simpa [Value.cells] using hu⟩) _ _ _ rfl HO6.out _ _ _ rfl rfl (by simp [Value.oneCell']) (fun u hu => ⟨_, _, _, by simpa using hu⟩) (by omega) (by omega) HX6.out ?_; intro v9 w9 ho9 hx9 hk9; have HO9 := Hid.mk ho9; have HXa := Hid.mk hx9; have HU9 := Hid.mk (fun i u hi => (HU6.out i u hi).kApp HO6.out hk9); have HR9 := Hid.mk (HRow.out.kApp HO6.out hk9); clear ho9 hx9 hk9)
      go_roundw
      case rel => exact ⟨i + 1, us ++ [.slice A6 (n + n) d6], by omega, by go_num, HO9.out, by simp [hl], rows_snoc hl HU9.out HR9.out, HXa.out⟩
      case measure => simp [intOf]; omega
    · have hni : i = n := by omega
      have hin' : ¬ (i : Int) < (n : Int) := by omega
      have hT : MatQ w5 u8 n (n + n) (beside n M) := by
        have := SlM.own (S := SlQ) (M := beside n M) (c := n + n) HO.out.1 hl HU.out
        rwa [hni] at this
      have HT := Hid.mk hT
      obtain ⟨TA, tc, rfl, -, -, -⟩ := id hT
      replace HX := Hid.mk (HX.out.trans HX5.out)
      clear hT HO HU HX5 hin hni hi hl HI
      go_wp2_with fail
      obtain ⟨N, hN⟩ : ∃ N, N = n + n := ⟨_, rfl⟩
      have HNN := Hid.mk hN
      have hnN : n ≤ N := by omega
      have hN192 : N ≤ 192 := by omega
      have HSB := Hid.mk HS.out
      rw [← hN] at HT HSB
      clear hN
      refine (mat_reduced _ _ n n N (beside n M) HT.out (by omega) (by omega) (by omega) b hb HSB.out hsz).mono ?_
      rintro e w3 ⟨⟨v3, rfl, R, P, d, rfl, hR, hP, hd⟩, hx3⟩
      have hPR := PivR.own hP
      obtain ⟨A, pc, rfl, h1, h2, h3⟩ := id hPR
      obtain ⟨B, rc', rfl, g1, g2, g3⟩ := id hR
      have HR := Hid.mk hR
      replace HX := Hid.mk (HX.out.trans hx3)
      obtain ⟨s, hs⟩ : ∃ s, s = steps n (beside n M) n := ⟨_, rfl⟩
      have hpm : s.piv.length ≤ n := by rw [hs]; exact (inv_steps n (beside n M) n).len
      rw [← hs] at HR ⊢
      have HSX := Hid.mk hs
      clear hx3 hR hP hd h2 h3 hPR h1 g1 g2 g3 hs HS HSB HT
      go_upto_region 13 with (fail)
      obtain ⟨w4, hw4, hX34, -, -⟩ := setup1 w3 #[.bool d.s, .slice d.A d.n d.c, .bool d.t, .slice d.B d.m d.d] 71
      replace HX := Hid.mk (HX.out.trans hX34)
      replace HR := Hid.mk (HR.out.x hX34)
      rw [hw4]
      clear hX34 hw4
      by_cases hlt : s.piv.length < n
      · have hlt' : (s.piv.length : Int) < (n : Int) := by omega
        have HP : Hid (InvP n s w4 (.tuple #[.slice none 0 0, .int .i64 20])) := ⟨fun h => absurd h (by omega), fun _ => rfl⟩
        go_wp2_with fail
        refine bodyPost_ret (v := .tuple #[.slice none 0 0, .int .i64 20]) (by simp [results, Tryz.results39, go_sem]) rfl ⟨⟨_, rfl, (by rw [← HSX.out]; exact HP.out)⟩, HX.out⟩
      · have hlt' : ¬ (s.piv.length : Int) < (n : Int) := by omega
        have hpn : s.piv.length = n := by omega
        have HPN := Hid.mk hpn
        clear hpn hlt
        go_wp2_with fail
        go_loopw [14, 60] (fun t14 t60 wr => ∃ (i : Nat) (us : List Value), i ≤ n ∧ t60 = .int .i64 i ∧ OwnC IsSl wr w4.heap.size 49 1 t14 i us ∧ us.length = i ∧ (∀ j u, us[j]? = some u → SlQ wr u n ((fun i j => s.M i (n + j)) j)) ∧ X w4 wr) (fun _ t _ => n - (intOf t).toNat)
        case atStart => exact ⟨0, [], Nat.zero_le _, rfl, OwnC.nil _ _ _ _ _, rfl, by simp, X.refl _⟩
        case round =>
          obtain ⟨i, us, hi, rfl, ho, hl, hu, hx⟩ := hrel
          have HO := Hid.mk ho
          have HU := Hid.mk hu
          have HX5 := Hid.mk hx
          clear ho hu hx
          obtain ⟨w7, hw7⟩ : ∃ w7, w7 = wr := ⟨_, rfl⟩
          subst hw7
          by_cases hin : i < n
          · have hin' : (i : Int) < (n : Int) := by omega
            obtain ⟨b1, o1, rfl, g1⟩ := (HR.out.x HX5.out).rows (by omega)
            obtain ⟨u1, c1, hu1⟩ := g1 i hin
            obtain ⟨A1, d1, rfl, q1, q2, q3⟩ := id hu1
            obtain ⟨b2, o2, rfl, -⟩ := q3 (by omega)
            have HP1 : Hid (SlQ w7 (.slice (some ⟨b2, o2 + n * 4, none⟩) (N - n) (d1 - n)) n (fun j => s.M i (n + j))) := SlQ.part hu1 HNN.out
            have hk1 : (n : Int) ≤ (N : Int) := by omega
            have hk2 : (N : Int) ≤ (d1 : Int) := by omega
            have hk3 : ¬ (d1 = n) := by have := HNN.out; omega
            have hk4 : ¬ (n = d1) := by have := HNN.out; omega
            have hk5 : (0 : Int) ≤ (n : Int) := by omega
            clear g1 hu1 q1 q2 q3
            go_wp2_with fail
            refine (clone_qC _ _ n _ HP1.out (by omega)).mono ?_
            rintro e w8 ⟨⟨v8, rfl, qs, hql, ho8, hq8⟩, hx8⟩
            have hrow : SlQ w8 v8 n (fun j => s.M i (n + j)) := SlQ.own ho8.1 hql hq8
            obtain ⟨A6, d6, rfl, -, -, -⟩ := id hrow
            have HRow := Hid.mk hrow
            have HX6 := Hid.mk (HX5.out.trans hx8)
            have HO6 := Hid.mk (HO.out.x hx8)
            have HU6 := Hid.mk (fun t u ht => (HU.out t u ht).x hx8)
            clear hx8 ho8 hq8 hrow c1 HP1 HX5 HO HU
            go_wp2_with (at_builtin; refine append_oneC IsSl w4 _ rfl _ _ 29 rfl 49 (.slice none 0 0) 1 24 Tryz.underlying29 info_sQ rfl (by omega) (fun u hu => ⟨none, 0, 0, by simpa [Value.cells] using hu⟩) _ _ _ rfl HO6.out _ _ _ rfl rfl (by simp [Value.oneCell']) (fun u hu => ⟨_, _, _, by simpa using hu⟩) (by omega) (by omega) HX6.out ?_; intro v9 w9 ho9 hx9 hk9; have HO9 := Hid.mk ho9; have HXa := Hid.mk hx9; have HU9 := Hid.mk (fun i u hi => (HU6.out i u hi).kApp HO6.out hk9); have HR9 := Hid.mk (HRow.out.kApp HO6.out hk9); clear ho9 hx9 hk9)
            go_roundw
            case rel => exact ⟨i + 1, us ++ [.slice A6 n d6], by omega, by go_num, HO9.out, by simp [hl], rows_snoc (R := fun i j => s.M i (n + j)) hl HU9.out HR9.out, HXa.out⟩
            case measure => simp [intOf]; omega
          · have hni : i = n := by omega
            have hin' : ¬ (i : Int) < (n : Int) := by omega
            have hT : MatQ w7 u14 n n (fun i j => s.M i (n + j)) := by
              have := SlM.own (S := SlQ) (M := fun i j => s.M i (n + j)) (c := n) HO.out.1 hl HU.out
              rwa [hni] at this
            have HT := Hid.mk hT
            have HXF := Hid.mk (HX.out.trans HX5.out)
            have HP : Hid (InvP n s w7 (.tuple #[u14, .int .i64 0])) := ⟨fun _ => ⟨_, rfl, HT.out⟩, fun h => absurd h (by have := HPN.out; omega)⟩
            clear hT HO HU HX5 hin hni hi hl
            go_wp2_with fail
            refine bodyPost_ret (v := .tuple #[u14, .int .i64 0]) (by simp [results, Tryz.results39, go_sem]) rfl ⟨⟨_, rfl, (by rw [← HSX.out]; exact HP.out)⟩, HXF.out⟩
end Go.Proofs.YtogakaiibijjpaaGreatDoor

/- The law MatrixIdentity: the walk. -/
set_option linter.unusedVariables false
set_option linter.unusedSimpArgs false
namespace Go.Proofs.YtogakaiibijjpaaGreatDoor
open Go.RowKit
open DDig DLin

/-- A row as a table of one row. -/
theorem one_table {w : World} {u : Value} {n : Nat} {f : Nat → Rat} (h : SlQ w u n f) {g : Nat} {e : TypeId} (hb : Blk w g e [u]) : MatQ w (.slice (some ⟨g, 0, none⟩) 1 1) 1 n (fun _ => f) :=
  ⟨_, 1, rfl, Nat.le_refl _, by simp, fun _ => ⟨g, 0, rfl, fun i hi => by
    have : i = 0 := by omega
    subst this
    exact ⟨u, hb.cell rfl, h⟩⟩⟩

theorem one_size (n : Nat) : TSz one n n 1 := fun i _ j _ => by
  unfold one
  split
  · exact RSz.one (by omega)
  · exact RSz.zero (by omega)

set_option maxRecDepth 100000 in
set_option maxHeartbeats 8000000 in
theorem law_identity (w : World) (n0 : Int) (A : Option Addr) (l c0 : Nat) (N D : Nat → Int) (h : EntR w A l N D) (hl : l ≤ 9223372036854775807) (hg : Gl w) :
    Calls Tryz.prog 4 #[.int .i64 n0, .slice A l c0] w (Ret w fun _ v => v = .bool true) := by
  have H := Hid.mk h
  have HG := Hid.mk hg
  clear h hg
  go_enter Tryz.func4, Tryz.ntmps4
  go_wp2_with fail
  refine (law_known _ HG.out).mono ?_
  rintro e w1 ⟨⟨v1, rfl, rfl⟩, hx1⟩
  have HX := Hid.mk hx1
  clear hx1
  by_cases h20 : 20 < l
  · have h20' : (20 : Int) < (l : Int) := by omega
    go_wp2_with fail
    refine (law_known _ (HG.out.x HX.out)).mono ?_
    rintro e w2 ⟨⟨v2, rfl, rfl⟩, hx2⟩
    replace HX := Hid.mk (HX.out.trans hx2)
    clear hx2
    go_wp2_with fail
    go_ret
    exact ⟨⟨_, rfl, rfl⟩, HX.out⟩
  · have h20' : ¬ (20 : Int) < (l : Int) := by omega
    go_wp2_with fail
    by_cases hr : n0 < 0 ∨ 96 < n0
    · refine (mat_identity_range _ n0 hr).mono ?_
      rintro e w2 ⟨⟨v2, rfl, rfl⟩, hx2⟩
      replace HX := Hid.mk (HX.out.trans hx2)
      clear hx2
      rcases hr with hr | hr
      · go_wp2_with fail
        go_ret
        exact ⟨⟨_, rfl, rfl⟩, HX.out⟩
      · have hr0 : ¬ n0 < 0 := by omega
        go_wp2_with fail
        go_ret
        exact ⟨⟨_, rfl, rfl⟩, HX.out⟩
    · obtain ⟨n, hn⟩ : ∃ n : Nat, n0 = n := ⟨n0.toNat, by omega⟩
      subst hn
      have hn96 : n ≤ 96 := by omega
      have hr0 : ¬ (n : Int) < 0 := by omega
      have hr1 : ¬ (96 : Int) < (n : Int) := by omega
      have hnn : ((n : Int) != (n : Int)) = false := by simp
      clear hr
      refine (mat_identity _ n hn96).mono ?_
      rintro e w2 ⟨⟨v2, rfl, R, rfl, hR⟩, hx2⟩
      replace HX := Hid.mk (HX.out.trans hx2)
      have HR := Hid.mk hR
      clear hx2 hR
      go_wp2_with fail
      refine (mat_Size _ _ n n one HR.out (by omega) (by omega) n (by split <;> omega)).mono ?_
      rintro e w3 ⟨⟨v3, rfl, rfl⟩, hx3⟩
      replace HX := Hid.mk (HX.out.trans hx3)
      replace HR := Hid.mk (HR.out.x hx3)
      clear hx3
      go_wp2_with fail
      refine (law_line _ A l c0 n N D (H.out.x HX.out) (by omega) hl).mono ?_
      rintro e w4 ⟨⟨v4, rfl, hv4⟩, hx4⟩
      replace HX := Hid.mk (HX.out.trans hx4)
      replace HR := Hid.mk (HR.out.x hx4)
      have HL := Hid.mk hv4
      have HSZ : Hid (∀ j, j < n → RSz (entv l N D j) 1) := fun j hj => entv_size w H.out j
      obtain ⟨f, hf⟩ : ∃ f, f = entv l N D := ⟨_, rfl⟩
      rw [← hf] at HL HSZ
      clear hx4 hv4 hf
      go_wp2_with fail
      refine (law_list _ _ n f HL.out (by omega) 1 HSZ.out (by omega) (HG.out.x HX.out)).mono ?_
      rintro e w5 ⟨⟨v5, rfl, hv5⟩, hx5⟩
      replace HX := Hid.mk (HX.out.trans hx5)
      replace HR := Hid.mk (HR.out.x hx5)
      have HV := Hid.mk hv5
      obtain ⟨VA, vc, rfl, -, -, -⟩ := id hv5
      clear hx5 hv5 HL
      go_wp2_with fail
      refine (mat_apply _ _ _ n n n one f HR.out HV.out (by omega) (by omega) (Or.inr rfl) (by omega) 1 1 (one_size n) HSZ.out (by omega)).mono ?_
      rintro e w6 ⟨⟨v6, rfl, Y, rfl, hY⟩, hx6⟩
      replace HX := Hid.mk (HX.out.trans hx6)
      replace HV := Hid.mk (HV.out.x hx6)
      have HY : Hid (SlQ w6 Y n f) := hY.congr (fun i hi => ap_one f hi)
      obtain ⟨YA, yc, rfl, -, -, -⟩ := id hY
      clear hx6 hY HR
      go_wp2_with fail
      obtain ⟨W7, hW7, hX7, p0, p1⟩ := setup2 w6 #[.slice VA n vc] #[.slice YA n yc] 49 49
      rw [hW7]
      clear hW7
      replace HX := Hid.mk (HX.out.trans hX7)
      have hV := one_table (HV.out.x hX7) p0
      have hY := one_table (HY.out.x hX7) p1
      refine (mat_equal _ _ _ 1 n (fun _ => f) hV hY (by omega) (by omega) 1 (fun i _ j hj => HSZ.out j hj) (by omega)).mono ?_
      rintro e w8 ⟨⟨v8, rfl, rfl⟩, hx8⟩
      replace HX := Hid.mk (HX.out.trans hx8)
      clear hx8 hV hY p0 p1 hX7
      go_wp2_with fail
      go_ret
      exact ⟨⟨_, rfl, rfl⟩, HX.out⟩
end Go.Proofs.YtogakaiibijjpaaGreatDoor

/- Two rows of the call's own side by side: what 'append' onto one leaves of the other. -/
set_option linter.unusedVariables false
set_option linter.unusedSimpArgs false
namespace Go.Proofs.YtogakaiibijjpaaGreatDoor
open Go.RowKit
open DDig

/-- Where 'append(out, x)' leaves its row: in the block it had, or in a new one. -/
theorem run_append_where {P : Program} (w : World) (base : Nat) (t ty e : TypeId) (z : Value) (size bytes : Nat) (ht : P.underlying t = some (.slice e)) (h2 : (P.info? e).map (fun i => (i.zero, i.size, i.bytes)) = some (some z, size, bytes))
    (v : Value) (n : Nat) (xs : List Value) (hown : w.ownsRow base e size v n xs)
    (a : Addr) (m c : Nat) (news : List Value) (hl : news.length = m * size) (hnews : ∀ j u, news[j]? = some u → w.cell? (a.add j) = some u) (h1 : ∀ u ∈ news, u.oneCell' = true) (h0 : 0 < m)
    (h63 : n + m ≤ maxLen) (hbytes : (n + m) * bytes ≤ 140737488355328) (v' : Value) (w' : World) (hr : (Builtin.append_ #[t, t] ty #[v, .slice (some a) m c]).run P w = .ok v' w') :
    ∀ b, v'.ownBlock = some b → v.ownBlock = some b ∨ w.heap.size ≤ b := by
  obtain ⟨i, hi, e1, e2, e3⟩ := info_parts h2
  subst e2
  subst e3
  have hsmall : n + m ≤ 9223372036854775807 := by simp only [maxLen] at h63; omega
  rcases hown.2 with ⟨rfl, rfl⟩ | ⟨g, cap, cur, rfl, hbg, hgg, hnc', hcm, hcs, htake⟩
  · have hr' := run_append_nil (P := P) w t ty e i z ht hi e1 a m c news hl hnews h0 (by omega) (by have hb := hbytes; simp only [Nat.zero_add] at hb; omega)
    rw [hr'] at hr
    injection hr with hv hw
    subst hv
    intro b hb
    simp [Value.ownBlock] at hb
    exact Or.inr (by omega)
  · by_cases hroom : n + m ≤ cap
    · have hfit : n * i.size + news.length ≤ cur.size := by rw [hl, hcs, ← Nat.add_mul]; exact Nat.mul_le_mul_right _ hroom
      have hr' := run_append_room (P := P) w t ty e i ht hi g n cap cur hgg a m c news hl hnews h1 hroom hfit
      rw [hr'] at hr
      injection hr with hv hw
      subst hv
      intro b hb
      left
      simpa [Value.ownBlock] using hb
    · have holds : ∀ j u, xs[j]? = some u → w.cell? ((⟨g, 0, none⟩ : Addr).add j) = some u := hown.cells (g := g) rfl
      have hr' := run_append_grow (P := P) w t ty e i z ht hi e1 ⟨g, 0, none⟩ n cap xs hown.1 holds a m c news hl hnews (by omega) (by omega) (growslice_fits (by omega) hbytes)
      rw [hr'] at hr
      injection hr with hv hw
      subst hv
      intro b hb
      simp [Value.ownBlock] at hb
      exact Or.inr (by omega)

/-- 'append(out, x)' onto a row of one sort; and where its row lies. -/
theorem append_oneW {P : Program} (C : Value → Prop) (w0 w : World) {ops : Array Oper} {rest : List Oper} {o : Oper} {a : Act} {Q : Exit → Act → World → Prop} (hgd : o.guard = none) (s x : Operand) (t : TypeId)
    (ho : o.op = .call { callee := .builtin .append, args := #[s, x], argTypes := #[t, t] })
    (e : TypeId) (z : Value) (size bytes : Nat) (ht : P.underlying t = some (.slice e)) (h2 : (P.info? e).map (fun i => (i.zero, i.size, i.bytes)) = some (some z, size, bytes)) (hzs : z.cells.size = size) (hsz : 0 < size) (hzc : ∀ u ∈ z.cells.toList, C u)
    (v : Value) (n : Nat) (xs : List Value) (hs : a.eval s = v) (hown : OwnC C w w0.heap.size e size v n xs)
    (cs : Array Value) (e' : TypeId) (c : Nat) (hx : a.eval x = .slice (some ⟨w.heap.size, 0, none⟩) 1 c) (hl : cs.size = size) (h1 : ∀ u ∈ cs.toList, u.oneCell' = true) (hnc : ∀ u ∈ cs.toList, C u)
    (hb : (n + 1) * bytes ≤ 140737488355328) (h63 : n + 1 ≤ 9223372036854775807) (hX : X w0 w)
    (h : ∀ v' w', OwnC C w' w0.heap.size e size v' (n + 1) (xs ++ cs.toList) → X w0 w' → (∀ b, b < w.heap.size → v.ownBlock ≠ some b → w'.heap[b]? = w.heap[b]?) → (∀ b, v'.ownBlock = some b → v.ownBlock = some b ∨ w.heap.size ≤ b) → wpList P ops Q rest (a.put o.dst v') w') : wpList P ops Q (o :: rest) a (w.alloc (.cells cs e')) := by
  refine wpList_plain hgd fun _ hK => ?_
  have hnews : ∀ j u, cs.toList[j]? = some u → (w.alloc (.cells cs e')).cell? ((⟨w.heap.size, 0, none⟩ : Addr).add j) = some u := by
    intro j u hj
    have := (Blk.new w cs e').cell hj
    have e2 : (⟨w.heap.size, 0, none⟩ : Addr).add j = ⟨w.heap.size, j, none⟩ := by unfold Addr.add; split <;> simp_all
    rw [e2]; exact this
  have hown2 := hown.x ((X.refl w).alloc (.cells cs e'))
  obtain ⟨v', w', hr, h3, h4⟩ := run_append_C (P := P) C (w.alloc (.cells cs e')) w0.heap.size t o.type e z size bytes ht h2 hzs hsz hzc v n xs hown2 ⟨w.heap.size, 0, none⟩ 1 c cs.toList (by simpa using hl) hnews h1 hnc (by simp only [maxLen]; omega) hb (hX.alloc _).size
  have hwh := run_append_where (P := P) (w.alloc (.cells cs e')) w0.heap.size t o.type e z size bytes ht h2 v n xs hown2.1 ⟨w.heap.size, 0, none⟩ 1 c cs.toList (by simpa using hl) hnews h1 (by omega) (by simp only [maxLen]; omega) hb v' w' hr
  unfold Oper.wp execOp
  simp only [ho, resolve, invoke, builtin, Sem.run_bind, Sem.run_pure, Result.andThen_ok, List.map_toArray, List.map_cons, List.map_nil, hs, hx, hr]
  refine hK _ _ (h v' w' h3 ((hX.alloc _).grown h4 (own_ge hown.1)) (fun b hb1 hb2 => ?_) (fun b hb1 => ?_))
  · rw [h4.block b (by simp; omega) (fun e => hb2 e.symm)]
    exact heap_alloc_old w _ hb1
  · rcases hwh b hb1 with h | h
    · exact Or.inl h
    · right; simp at h; omega

/-- Rows that lie in blocks of their own each. -/
def Apart (u v : Value) : Prop := ∀ b, u.ownBlock = some b → v.ownBlock ≠ some b
theorem OwnC.keep {C : Value → Prop} {w w' : World} {base : Nat} {e : TypeId} {size n : Nat} {u v : Value} {xs : List Value} (h : OwnC C w base e size v n xs) (hd : Apart u v) (hk : ∀ b, b < w.heap.size → u.ownBlock ≠ some b → w'.heap[b]? = w.heap[b]?) : OwnC C w' base e size v n xs := by
  have key : ∀ g, v.ownBlock = some g → g < w.heap.size → w'.heap[g]? = w.heap[g]? := fun g hg hl => hk g hl (fun e => hd g e hg)
  refine ⟨⟨h.1.1, ?_⟩, fun g hg => ?_⟩
  · rcases h.1.2 with h1 | ⟨g, cap, cur, rfl, a1, a2, a3⟩
    · exact Or.inl h1
    · have hg : g < w.heap.size := (Array.getElem?_eq_some_iff.1 a2).1
      exact Or.inr ⟨g, cap, cur, rfl, a1, by rw [key g rfl hg]; exact a2, a3⟩
  · obtain ⟨cs, h1, h2⟩ := h.2 g hg
    refine ⟨cs, ?_, h2⟩
    unfold Blk
    rw [key g hg h1.lt]
    exact h1
theorem Apart.grow {w : World} {u u' v : Value} {C : Value → Prop} {base : Nat} {e : TypeId} {size n : Nat} {xs : List Value} (h : Apart u v) (hv : OwnC C w base e size v n xs) (hw : ∀ b, u'.ownBlock = some b → u.ownBlock = some b ∨ w.heap.size ≤ b) : Apart u' v := fun b hb hvb => by
  rcases hw b hb with h1 | h1
  · exact h b h1 hvb
  · obtain ⟨cs, h2, -⟩ := hv.2 b hvb
    have := h2.lt
    omega
theorem Apart.symm {u v : Value} (h : Apart u v) : Apart v u := fun b h1 h2 => h b h2 h1
theorem Apart.nil (v : Value) : Apart (.slice none 0 0) v := fun b h => by simp [Value.ownBlock] at h
end Go.Proofs.YtogakaiibijjpaaGreatDoor

/- What a determinant's and a solution's sizes are. -/
set_option linter.unusedVariables false
namespace Go.Proofs.YtogakaiibijjpaaGreatDoor
open DDig DLin
/-- The size of a determinant by its first row. -/
def dsz : Nat → Nat → Nat
  | 0, _ => 1
  | n + 1, b => (n + 1) * (b + dsz n b + 1) + 1
theorem dsz_succ (n b : Nat) : dsz (n + 1) b = (n + 1) * (b + dsz n b + 1) + 1 := rfl
theorem sg_cases (k : Nat) : DLin.sg k = if k % 2 = 1 then -1 else 1 := by
  induction k with
  | zero => rfl
  | succ k ih =>
    have : DLin.sg (k + 1) = - DLin.sg k := rfl
    rw [this, ih]
    by_cases h : k % 2 = 1
    · rw [if_pos h, if_neg (by omega), Rat.neg_neg]
    · rw [if_neg h, if_pos (by omega)]
theorem sg_size (k : Nat) (x : Rat) {b : Nat} (h : RSz x b) : RSz (DLin.sg k * x) b := by
  rw [sg_cases]
  split
  · rw [Rat.neg_mul, Rat.one_mul]; exact h.neg
  · rw [Rat.one_mul]; exact h
theorem sm_size {f : Nat → Rat} {b n : Nat} (h : ∀ k, k < n → RSz (f k) b) : ∀ i, i ≤ n → RSz (sm i f) (i * (b + 1) + 1)
  | 0, _ => RSz.zero (by omega)
  | i + 1, hi => by
    have h1 := sm_size h i (by omega)
    have h2 := h1.add (h i (by omega))
    rw [sm_succ]
    exact h2.mono (by rw [Nat.succ_mul]; omega)
theorem minor_size {M : Mat} {n b : Nat} (h : TSz M (n + 1) (n + 1) b) (k : Nat) : TSz (minor M k) n n b := fun i hi j hj => h _ (by omega) _ (skip_lt hj)
theorem det_size {b : Nat} (hb : 0 < b) : ∀ (n : Nat) (M : Mat), TSz M n n b → RSz (det n M) (dsz n b)
  | 0, _, _ => RSz.one (show 0 < 1 by decide)
  | n + 1, M, h => by
    rw [det_succ, dsz_succ]
    exact sm_size (fun k hk => sg_size k _ ((h 0 (by omega) k hk).mul (det_size hb n _ (minor_size h k)))) (n + 1) (Nat.le_refl _)
end Go.Proofs.YtogakaiibijjpaaGreatDoor

/- The law MatrixDeterminants: the walk, its first part. -/
set_option linter.unusedVariables false
set_option linter.unusedSimpArgs false
namespace Go.Proofs.YtogakaiibijjpaaGreatDoor
open Go.RowKit
open DDig DLin

/-- The numbers of a table, and 0 beyond its rows. -/
def tabz (n0 : Nat) (L : Nat → Nat) (N D : Nat → Nat → Int) (i : Nat) : Nat → Rat := if i < n0 then tabv L N D i else fun _ => 0
theorem tabz_size {w : World} {A : Option Addr} {n0 : Nat} {L : Nat → Nat} {N D : Nat → Nat → Int} (h : RowsR w A n0 L N D) (m c : Nat) : TSz (tabz n0 L N D) m c 1 := fun i _ j _ => by
  unfold tabz
  split
  · next hi =>
    obtain ⟨b, o, -, g⟩ := h (by omega)
    obtain ⟨B, d, -, h1, -⟩ := g i hi
    exact entv_size w h1 j
  · exact RSz.zero (by omega)
/-- A row of entries and its numbers. -/
def RowE (w : World) (v : Value) (f : Nat → Rat) : Prop := ∃ (B : Option Addr) (l d : Nat) (N D : Nat → Int), v = .slice B l d ∧ EntR w B l N D ∧ l ≤ 9223372036854775807 ∧ entv l N D = f
theorem RowE.none (w : World) : RowE w (.slice Option.none 0 0) (fun _ => 0) := ⟨Option.none, 0, 0, fun _ => 0, fun _ => 0, rfl, ⟨fun j hj => by omega, fun h => by omega⟩, by omega, by funext j; unfold entv; rw [if_neg (by omega)]⟩
theorem dsz_le4 {m : Nat} (h : m ≤ 4) : dsz m 1 ≤ 1000 := by
  have : m = 0 ∨ m = 1 ∨ m = 2 ∨ m = 3 ∨ m = 4 := by omega
  rcases this with rfl | rfl | rfl | rfl | rfl <;> decide
theorem rat_compare_same (w : World) (a b : QV) (x : Rat) (ha : RatR w a x) (hb : RatR w b x) (k : Nat) (hx : RSz x k) (hk : k + k + 1 ≤ 549755813888) :
    Calls Tryz.prog 47 #[a.v, b.v] w (Ret w fun w' v => v = .int .i64 0) := by
  have := rat_compare w a b x x ha hb k k hx hx hk
  rw [rcmp_self] at this
  exact this
theorem own_lit (C : Value → Prop) {w0 w : World} {g n : Nat} {e : TypeId} {cs : List Value} (hb : Blk w g e cs) (hn : cs.length = n) (hm : n ≤ maxLen) (hg : w0.heap.size ≤ g) (hC : ∀ u ∈ cs, C u) : OwnC C w w0.heap.size e 1 (.slice (some ⟨g, 0, none⟩) n n) n cs := by
  refine ⟨⟨by omega, Or.inr ⟨g, n, cs.toArray, rfl, hg, ?_, by omega, hm, by simp [hn], by simp [← hn]⟩⟩, fun b hb' => ?_⟩
  · exact hb
  · simp [Value.ownBlock] at hb'
    subst hb'
    exact ⟨cs, hb, hC⟩
theorem swap_rows {w : World} {us : List Value} {u0 u1 : Value} {n : Nat} {M : Mat} (hl : us.length = n) (hu : ∀ j u, us[j]? = some u → SlQ w u n (M j)) (h0 : us[0]? = some u0) (h1 : us[1]? = some u1) :
    ∀ j u, ([u1, u0] ++ us.drop 2)[j]? = some u → SlQ w u n (swapped M 0 1 j) := by
  intro j u hj
  by_cases e0 : j = 0
  · subst e0
    simp at hj
    subst hj
    have := hu 1 _ h1
    simpa [swapped] using this
  · by_cases e1 : j = 1
    · subst e1
      simp at hj
      subst hj
      have := hu 0 _ h0
      simpa [swapped] using this
    · rw [List.getElem?_append_right (by simp; omega)] at hj
      simp only [List.length_cons, List.length_nil, List.getElem?_drop] at hj
      rw [show 2 + (j - (0 + 1 + 1)) = j by omega] at hj
      have := hu j _ hj
      simpa [swapped, e0, e1] using this

set_option maxRecDepth 100000 in
set_option maxHeartbeats 8000000 in
theorem law_determinants (w : World) (C : Int) (A : Option Addr) (n0 c0 : Nat) (L : Nat → Nat) (N D : Nat → Nat → Int) (h : RowsR w A n0 L N D) (hC : 0 ≤ C ∧ C ≤ 255) (hn0 : n0 ≤ 9223372036854775807)
    (C' : Int) (A' : Option Addr) (n0' c0' : Nat) (L' : Nat → Nat) (N' D' : Nat → Nat → Int) (h' : RowsR w A' n0' L' N' D') (hC' : 0 ≤ C' ∧ C' ≤ 255) (hn0' : n0' ≤ 9223372036854775807) (z : Int) (hz : 0 ≤ z ∧ z ≤ 255) (hg : Gl w) :
    Calls Tryz.prog 11 #[.agg #[.int .u8 C, .slice A n0 c0], .agg #[.int .u8 C', .slice A' n0' c0'], .int .u8 z] w (Ret w fun _ v => v = .bool true) := by
  have H := Hid.mk h
  have H' := Hid.mk h'
  have HG := Hid.mk hg
  clear h h' hg
  obtain ⟨n, hn⟩ : ∃ n : Nat, (n : Int) = z % 5 := ⟨(z % 5).toNat, by omega⟩
  have hn5 : n ≤ 4 := by omega
  have hm1 : z.tmod 5 = z % 5 := Int.tmod_eq_emod_of_nonneg hz.1
  have hm2 : IntKind.u8.wrap (z % 5) = z % 5 := by rw [IntKind.wrap_u8]; omega
  have hm3 : IntKind.i64.wrap (z % 5) = z % 5 := by rw [IntKind.wrap_i64]; omega
  obtain ⟨MA, hMA⟩ : ∃ M, M = tabz n0 L N D := ⟨_, rfl⟩
  obtain ⟨MB, hMB⟩ : ∃ M, M = tabz n0' L' N' D' := ⟨_, rfl⟩
  have HSA : Hid (TSz MA n n 1) := by rw [hMA]; exact Hid.mk (tabz_size H.out n n)
  have HSB : Hid (TSz MB n n 1) := by rw [hMB]; exact Hid.mk (tabz_size H'.out n n)
  have HMA := Hid.mk hMA
  have HMB := Hid.mk hMB
  have HN := Hid.mk hn
  clear hMA hMB
  go_enter Tryz.func11, Tryz.ntmps11
  go_upto_region 1 with (fail)
  obtain ⟨W, hW, hX, b0, b1⟩ := setup2 w #[.int .u8 C, .slice A n0 c0] #[.int .u8 C', .slice A' n0' c0'] 24 24
  rw [hW]
  clear hW
  have B0 := Hid.mk b0
  have B1 := Hid.mk b1
  have HXW := Hid.mk hX
  clear b0 b1 hX
  go_wp2_with fail
  refine (law_known _ (HG.out.x HXW.out)).mono ?_
  rintro e w1 ⟨⟨v1, rfl, rfl⟩, hx1⟩
  have HX := Hid.mk (HXW.out.trans hx1)
  replace B0 := Hid.mk (B0.out.x hx1)
  replace B1 := Hid.mk (B1.out.x hx1)
  clear hx1 HXW
  go_upto_region 4 with (fail)
  rw [← hn]
  clear hm1 hm2 hm3 hn
  go_wp2_with fail
  go_loopw [8, 9, 10] (fun t8 t9 t10 wr => ∃ (i : Nat) (us vs : List Value), i ≤ n ∧ t10 = .int .i64 i ∧ OwnC IsSl wr w1.heap.size 51 1 t8 i us ∧ OwnC IsSl wr w1.heap.size 51 1 t9 i vs ∧ Apart t8 t9 ∧ us.length = i ∧ vs.length = i ∧ (∀ j u, us[j]? = some u → SlF wr u n (MA j)) ∧ (∀ j u, vs[j]? = some u → SlF wr u n (MB j)) ∧ X w1 wr) (fun _ _ t _ => n - (intOf t).toNat)
  case atStart => exact ⟨0, [], [], Nat.zero_le _, rfl, OwnC.nil _ _ _ _ _, OwnC.nil _ _ _ _ _, Apart.nil _, rfl, rfl, by simp, by simp, X.refl _⟩
  case round =>
    obtain ⟨i, us, vs, hi, rfl, ho, ho', hd, hl, hl', hu, hu', hx⟩ := hrel
    have HO := Hid.mk ho
    have HO' := Hid.mk ho'
    have HAP := Hid.mk hd
    have HU := Hid.mk hu
    have HU' := Hid.mk hu'
    have HX5 := Hid.mk hx
    clear ho ho' hd hu hu' hx
    by_cases hin : i < n
    · have hin' : (i : Int) < (n : Int) := by omega
      have hi0 : (0 : Int) ≤ (i : Int) := by omega
      obtain ⟨w5, hw5⟩ : ∃ w5, w5 = wr := ⟨_, rfl⟩
      subst hw5
      have hb0 := B0.out.x HX5.out
      have k0 := hb0.cell (j := 0) rfl; have k1 := hb0.cell (j := 1) rfl
      clear hb0
      go_upto_if 46 with (fail)
      go_cut [11] (fun t11 wc => RowE wc t11 (MA i) ∧ X w5 wc)
      case first =>
        by_cases h1 : i < n0
        · have h1' : (i : Int) < (n0 : Int) := by omega
          obtain ⟨b, o, rfl, gg⟩ := (H.out.x (HX.out.trans HX5.out)) (by omega)
          obtain ⟨B, d, e0, he, hL⟩ := gg i h1
          have HR : Hid (RowE w5 (.slice B (L i) d) (MA i)) := ⟨B, L i, d, N i, D i, rfl, he, hL, by rw [HMA.out]; unfold tabz; rw [if_pos h1]; rfl⟩
          clear gg he
          go_wp2_with fail
          go_meet
          exact ⟨HR.out, X.refl _⟩
        · have h1' : ¬ (i : Int) < (n0 : Int) := by omega
          have HR : Hid (RowE w5 (.slice none 0 0) (MA i)) := by
            rw [HMA.out]; unfold tabz; rw [if_neg h1]; exact Hid.mk (RowE.none w5)
          clear h1
          go_wp2_with fail
          go_meet
          exact ⟨HR.out, X.refl _⟩
      case rest =>
        obtain ⟨hrow, hxc⟩ := hcut
        have HXc := Hid.mk (HX5.out.trans hxc)
        have HRow := Hid.mk hrow
        replace HO := Hid.mk (HO.out.x hxc)
        replace HO' := Hid.mk (HO'.out.x hxc)
        replace HU := Hid.mk (fun t u ht => (HU.out t u ht).x hxc)
        replace HU' := Hid.mk (fun t u ht => (HU'.out t u ht).x hxc)
        clear hrow hxc k0 k1 HX5
        have hb1 := B1.out.x HXc.out
        have k0 := hb1.cell (j := 0) rfl; have k1 := hb1.cell (j := 1) rfl
        clear hb1
        obtain ⟨w6, hw6⟩ : ∃ w6, w6 = wc := ⟨_, rfl⟩
        subst hw6
        go_upto_if 56 with (fail)
        go_cut [12] (fun t12 wc => RowE w t12 (MB i) ∧ X w6 wc)
        case first =>
          by_cases h1 : i < n0'
          · have h1' : (i : Int) < (n0' : Int) := by omega
            obtain ⟨b, o, rfl, gg⟩ := H'.out (by omega)
            obtain ⟨B, d, e0', he, hL⟩ := gg i h1
            have e0 := (HX.out.trans HXc.out).cell e0'
            clear e0'
            have HR : Hid (RowE w (.slice B (L' i) d) (MB i)) := ⟨B, L' i, d, N' i, D' i, rfl, he, hL, by rw [HMB.out]; unfold tabz; rw [if_pos h1]; rfl⟩
            clear gg he
            go_wp2_with fail
            go_meet
            exact ⟨HR.out, X.refl _⟩
          · have h1' : ¬ (i : Int) < (n0' : Int) := by omega
            have HR : Hid (RowE w (.slice none 0 0) (MB i)) := by
              rw [HMB.out]; unfold tabz; rw [if_neg h1]; exact Hid.mk (RowE.none w)
            clear h1
            go_wp2_with fail
            go_meet
            exact ⟨HR.out, X.refl _⟩
        case rest =>
          obtain ⟨hrow2, hxc⟩ := hcut
          obtain ⟨P1, l1, d1, N1, D1, rfl, he1, hl1, hf1⟩ := HRow.out
          obtain ⟨P2, l2, d2, N2, D2, rfl, he2, hl2, hf2⟩ := hrow2
          have HE1 := Hid.mk (he1.x hxc)
          have HE2 := Hid.mk he2
          have HF1 := Hid.mk hf1
          have HF2 := Hid.mk hf2
          replace HXc := Hid.mk (HXc.out.trans hxc)
          replace HO := Hid.mk (HO.out.x hxc)
          replace HO' := Hid.mk (HO'.out.x hxc)
          replace HU := Hid.mk (fun t u ht => (HU.out t u ht).x hxc)
          replace HU' := Hid.mk (fun t u ht => (HU'.out t u ht).x hxc)
          clear hxc k0 k1 he1 he2 hf1 hf2 HRow
          go_wp2_with fail
          refine (law_line _ P1 l1 d1 n N1 D1 HE1.out (by omega) hl1).mono ?_
          rintro e w7 ⟨⟨v7, rfl, hv7⟩, hx7⟩
          rw [HF1.out] at hv7
          obtain ⟨RA, ra, rfl, -, -, -⟩ := id hv7
          have HR1 := Hid.mk hv7
          replace HXc := Hid.mk (HXc.out.trans hx7)
          replace HO := Hid.mk (HO.out.x hx7)
          replace HO' := Hid.mk (HO'.out.x hx7)
          replace HU := Hid.mk (fun t u ht => (HU.out t u ht).x hx7)
          replace HU' := Hid.mk (fun t u ht => (HU'.out t u ht).x hx7)
          clear hx7 hv7
          go_wp2_with (at_builtin; refine append_oneW IsSl w1 _ rfl (.tmp 62) (.tmp 66) 26 rfl 51 (.slice none 0 0) 1 24 Tryz.underlying26 info_sF rfl (by omega) (fun u hu => ⟨none, 0, 0, by simpa [Value.cells] using hu⟩) _ _ _ rfl HO.out _ _ _ rfl rfl (by simp [Value.oneCell']) (fun u hu => ⟨_, _, _, by simpa using hu⟩) (by omega) (by omega) HXc.out ?_; intro v9 w9 ho9 hx9 hk9 hwh; have HO9 := Hid.mk ho9; have HXa := Hid.mk hx9; have HU9 := Hid.mk (fun i u hi => (HU.out i u hi).kApp HO.out hk9); have HV9 := Hid.mk (fun i u hi => (HU'.out i u hi).kApp HO.out hk9); have HR9 := Hid.mk (HR1.out.kApp HO.out hk9); have HP9 := Hid.mk (HO'.out.keep HAP.out hk9); have HA9 := Hid.mk (HAP.out.grow HO'.out hwh); clear ho9 hx9 hk9 hwh)
          refine (law_line _ P2 l2 d2 n N2 D2 (HE2.out.x (HX.out.trans HXa.out)) (by omega) hl2).mono ?_
          rintro e wA ⟨⟨vA, rfl, hvA⟩, hxA⟩
          rw [HF2.out] at hvA
          obtain ⟨RB, rb, rfl, -, -, -⟩ := id hvA
          have HRB := Hid.mk hvA
          have HXB := Hid.mk (HXa.out.trans hxA)
          replace HO9 := Hid.mk (HO9.out.x hxA)
          replace HP9 := Hid.mk (HP9.out.x hxA)
          replace HU9 := Hid.mk (fun t u ht => (HU9.out t u ht).x hxA)
          replace HV9 := Hid.mk (fun t u ht => (HV9.out t u ht).x hxA)
          replace HR9 := Hid.mk (HR9.out.x hxA)
          clear hxA hvA HXc HXa HO HO' HU HU' HR1 HE1 HE2 HF1 HF2 HAP
          go_wp2_with (at_builtin; refine append_oneW IsSl w1 _ rfl (.tmp 68) (.tmp 72) 26 rfl 51 (.slice none 0 0) 1 24 Tryz.underlying26 info_sF rfl (by omega) (fun u hu => ⟨none, 0, 0, by simpa [Value.cells] using hu⟩) _ _ _ rfl HP9.out _ _ _ rfl rfl (by simp [Value.oneCell']) (fun u hu => ⟨_, _, _, by simpa using hu⟩) (by omega) (by omega) HXB.out ?_; intro vC wC hoC hxC hkC hwC; have HOC := Hid.mk hoC; have HXC := Hid.mk hxC; have HUC := Hid.mk (fun i u hi => (HU9.out i u hi).kApp HP9.out hkC); have HVC := Hid.mk (fun i u hi => (HV9.out i u hi).kApp HP9.out hkC); have HRC := Hid.mk (HR9.out.kApp HP9.out hkC); have HRD := Hid.mk (HRB.out.kApp HP9.out hkC); have HPC := Hid.mk (HO9.out.keep HA9.out.symm hkC); have HAC := Hid.mk ((HA9.out.symm.grow HO9.out hwC).symm); clear hoC hxC hkC hwC)
          go_roundw
          case rel => exact ⟨i + 1, us ++ [.slice RA n ra], vs ++ [.slice RB n rb], by omega, by go_num, HPC.out, HOC.out, HAC.out, by simp [hl], by simp [hl'], rows_snoc (S := SlF) hl HUC.out HRC.out, rows_snoc (S := SlF) hl' HVC.out HRD.out, HXC.out⟩
          case measure => simp [intOf]; omega
    · have hni : i = n := by omega
      have hin' : ¬ (i : Int) < (n : Int) := by omega
      have hTA : MatF wr u8 n n MA := by
        have := SlM.own (S := SlF) (M := MA) (c := n) HO.out.1 hl HU.out
        rwa [hni] at this
      have hTB : MatF wr u9 n n MB := by
        have := SlM.own (S := SlF) (M := MB) (c := n) HO'.out.1 hl' HU'.out
        rwa [hni] at this
      have HTA := Hid.mk hTA
      have HTB := Hid.mk hTB
      replace HX := Hid.mk (HX.out.trans HX5.out)
      clear hTA hTB HO HO' HU HU' HX5 HAP hin hni hi hl hl' B0 B1 H H' HMA HMB
      go_wp2_with fail
      refine (law_own _ _ n n MA HTA.out (by omega) (by omega) 1 HSA.out (by omega) (HG.out.x HX.out)).mono ?_
      rintro e w2 ⟨⟨v2, rfl, hv2⟩, hx2⟩
      replace HX := Hid.mk (HX.out.trans hx2)
      replace HTB := Hid.mk (HTB.out.x hx2)
      have HA := Hid.mk hv2
      obtain ⟨AA, aa, rfl, -, -, -⟩ := id hv2
      clear hx2 hv2 HTA
      go_wp2_with fail
      refine (law_own _ _ n n MB HTB.out (by omega) (by omega) 1 HSB.out (by omega) (HG.out.x HX.out)).mono ?_
      rintro e w3 ⟨⟨v3, rfl, hv3⟩, hx3⟩
      replace HX := Hid.mk (HX.out.trans hx3)
      replace HA := Hid.mk (HA.out.x hx3)
      have HB := Hid.mk hv3
      obtain ⟨BA, ba, rfl, -, -, -⟩ := id hv3
      clear hx3 hv3 HTB
      go_wp2_with fail
      refine (mat_mul _ _ _ n n n n MA MB HA.out HB.out (by omega) (by omega) (by omega) (by omega) (Or.inr rfl) n (by split <;> omega) 1 1 HSA.out HSB.out (by omega)).mono ?_
      rintro e w4 ⟨⟨v4, rfl, R, rfl, hR⟩, hx4⟩
      replace HX := Hid.mk (HX.out.trans hx4)
      replace HA := Hid.mk (HA.out.x hx4)
      replace HB := Hid.mk (HB.out.x hx4)
      have HAB := Hid.mk hR
      obtain ⟨CA, ca, rfl, -, -, -⟩ := id hR
      clear hx4 hR
      have hp5 := pow_small (m := n + 1) (by omega)
      have HP5 : Hid (5 ^ (n + 1) * 20 ≤ 1000000) := by (show 5 ^ (n + 1) * 20 ≤ 1000000; omega)
      have HP1 : Hid (5 ^ (n + 1) * 1 ≤ 100000) := by (show 5 ^ (n + 1) * 1 ≤ 100000; omega)
      clear hp5
      go_wp2_with fail
      refine (mat_det _ _ n MA HA.out (by omega) 1 (by omega) HSA.out (Nat.le_trans HP1.out (by omega))).mono ?_
      rintro e w5 ⟨⟨v5, rfl, dA, rfl, hdA⟩, hx5⟩
      replace HX := Hid.mk (HX.out.trans hx5)
      go_upto_region 17 with (fail)
      obtain ⟨W5, hW5, hX5, hX5', b5, hd5⟩ := store4 (t := 71) HX.out hdA
      rw [hW5]
      have hxx := hx5.trans hX5
      replace HX := Hid.mk hX5'
      replace HA := Hid.mk (HA.out.x hxx)
      replace HB := Hid.mk (HB.out.x hxx)
      replace HAB := Hid.mk (HAB.out.x hxx)
      have D1 := Hid.mk b5
      have R1 := Hid.mk hd5
      clear hW5 hX5 hX5' b5 hd5 hdA hx5 hxx
      go_wp2_with fail
      refine (mat_det _ _ n MB HB.out (by omega) 1 (by omega) HSB.out (Nat.le_trans HP1.out (by omega))).mono ?_
      rintro e w6 ⟨⟨v6, rfl, dB, rfl, hdB⟩, hx6⟩
      replace HX := Hid.mk (HX.out.trans hx6)
      go_upto_region 18 with (fail)
      obtain ⟨W6, hW6, hX6, hX6', b6, hd6⟩ := store4 (t := 71) HX.out hdB
      rw [hW6]
      have hxx := hx6.trans hX6
      replace HX := Hid.mk hX6'
      replace HA := Hid.mk (HA.out.x hxx)
      replace HAB := Hid.mk (HAB.out.x hxx)
      replace D1 := Hid.mk (D1.out.x hxx)
      replace R1 := Hid.mk (R1.out.x hxx)
      have D2 := Hid.mk b6
      have R2 := Hid.mk hd6
      clear hW6 hX6 hX6' b6 hd6 hdB hx6 hxx HB
      have HTP : Hid (TSz (prodv n MA MB) n n 20) := fun i hi j hj => (dot_size (k := 1) (l := 1) (fun t ht => HSA.out i hi t ht) (fun t ht => HSB.out t ht j hj) n (Nat.le_refl _)).mono (by omega)
      go_wp2_with fail
      refine (mat_det _ _ n (prodv n MA MB) HAB.out (by omega) 20 (by omega) HTP.out (Nat.le_trans HP5.out (by omega))).mono ?_
      rintro e w7 ⟨⟨v7, rfl, dC, rfl, hdC⟩, hx7⟩
      replace HX := Hid.mk (HX.out.trans hx7)
      go_upto_region 19 with (fail)
      obtain ⟨wf, hWf, hX7, hX7', b7, hd7⟩ := store4 (t := 71) HX.out hdC
      rw [hWf]
      have hxx := hx7.trans hX7
      replace HX := Hid.mk hX7'
      replace HA := Hid.mk (HA.out.x hxx)
      replace D1 := Hid.mk (D1.out.x hxx)
      replace R1 := Hid.mk (R1.out.x hxx)
      replace D2 := Hid.mk (D2.out.x hxx)
      replace R2 := Hid.mk (R2.out.x hxx)
      have D3 := Hid.mk b7
      have R3 : Hid (RatR wf dC (det n MA * det n MB)) := by
        have e1 : det n (prodv n MA MB) = det n MA * det n MB := det_product n MA MB
        rw [← e1]; exact Hid.mk hd7
      clear hWf hX7 hX7' b7 hd7 hdC hx7 hxx HAB
      have HDA : Hid (RSz (det n MA) 1000) := (det_size (by omega) n MA HSA.out).mono (dsz_le4 hn5)
      have HDB : Hid (RSz (det n MB) 1000) := (det_size (by omega) n MB HSB.out).mono (dsz_le4 hn5)
      have HDC : Hid (RSz (det n MA * det n MB) 2000) := (HDA.out.mul HDB.out).mono (by omega)
      obtain ⟨p1, hp1⟩ : ∃ p, p = w5.heap.size := ⟨_, rfl⟩
      obtain ⟨p2, hp2⟩ : ∃ p, p = w6.heap.size := ⟨_, rfl⟩
      obtain ⟨p3, hp3⟩ : ∃ p, p = w7.heap.size := ⟨_, rfl⟩
      rw [← hp1] at D1 ⊢
      rw [← hp2] at D2 ⊢
      rw [← hp3] at D3 ⊢
      clear hp1 hp2 hp3 HSB HTP
      obtain ⟨xa, hxa⟩ : ∃ x, x = det n MA := ⟨_, rfl⟩
      obtain ⟨xb, hxb⟩ : ∃ x, x = det n MB := ⟨_, rfl⟩
      rw [← hxa] at HDA HDC R1 R3
      rw [← hxb] at HDB HDC R2 R3
      have HXA := Hid.mk hxa
      clear hxa hxb
      have HC := Hid.mk (fun w' (h : X wf w') => (⟨(D1.out.x h).cell (j := 0) rfl, (D1.out.x h).cell (j := 1) rfl, (D1.out.x h).cell (j := 2) rfl, (D1.out.x h).cell (j := 3) rfl, (D2.out.x h).cell (j := 0) rfl, (D2.out.x h).cell (j := 1) rfl, (D2.out.x h).cell (j := 2) rfl, (D2.out.x h).cell (j := 3) rfl, (D3.out.x h).cell (j := 0) rfl, (D3.out.x h).cell (j := 1) rfl, (D3.out.x h).cell (j := 2) rfl, (D3.out.x h).cell (j := 3) rfl⟩ : w'.cell? ⟨p1, 0, none⟩ = some (.bool dA.s) ∧ w'.cell? ⟨p1, 1, none⟩ = some (.slice dA.A dA.n dA.c) ∧ w'.cell? ⟨p1, 2, none⟩ = some (.bool dA.t) ∧ w'.cell? ⟨p1, 3, none⟩ = some (.slice dA.B dA.m dA.d) ∧ w'.cell? ⟨p2, 0, none⟩ = some (.bool dB.s) ∧ w'.cell? ⟨p2, 1, none⟩ = some (.slice dB.A dB.n dB.c) ∧ w'.cell? ⟨p2, 2, none⟩ = some (.bool dB.t) ∧ w'.cell? ⟨p2, 3, none⟩ = some (.slice dB.B dB.m dB.d) ∧ w'.cell? ⟨p3, 0, none⟩ = some (.bool dC.s) ∧ w'.cell? ⟨p3, 1, none⟩ = some (.slice dC.A dC.n dC.c) ∧ w'.cell? ⟨p3, 2, none⟩ = some (.bool dC.t) ∧ w'.cell? ⟨p3, 3, none⟩ = some (.slice dC.B dC.m dC.d)))
      have hz0 : X wf wf.drew := ⟨rfl, rfl, rfl, Nat.le_refl _, fun _ _ => rfl⟩
      have hS0 := HC.out wf (X.refl _)
      go_region_held3 (fun w' => w'.cell? ⟨p1, 0, none⟩ = some (.bool dA.s) ∧ w'.cell? ⟨p1, 1, none⟩ = some (.slice dA.A dA.n dA.c) ∧ w'.cell? ⟨p1, 2, none⟩ = some (.bool dA.t) ∧ w'.cell? ⟨p1, 3, none⟩ = some (.slice dA.B dA.m dA.d) ∧ w'.cell? ⟨p2, 0, none⟩ = some (.bool dB.s) ∧ w'.cell? ⟨p2, 1, none⟩ = some (.slice dB.A dB.n dB.c) ∧ w'.cell? ⟨p2, 2, none⟩ = some (.bool dB.t) ∧ w'.cell? ⟨p2, 3, none⟩ = some (.slice dB.B dB.m dB.d) ∧ w'.cell? ⟨p3, 0, none⟩ = some (.bool dC.s) ∧ w'.cell? ⟨p3, 1, none⟩ = some (.slice dC.A dC.n dC.c) ∧ w'.cell? ⟨p3, 2, none⟩ = some (.bool dC.t) ∧ w'.cell? ⟨p3, 3, none⟩ = some (.slice dC.B dC.m dC.d))
        (go_keep)
        (first
          | (have hguard := hz1; go_at_call 47; refine (rat_compare_same _ dC r1 (xa * xb) (by exact R3.out.x hz1) hr1 2000 HDC.out (by omega)).mono ?_; rintro e w2 ⟨⟨v2, rfl, rfl⟩, hx2⟩; have hz2 : X wf w2 := hz1.trans hx2; have hr1 := hr1.x hx2; have hS2 := HC.out w2 hz2)
          | (have hguard := hz0; go_at_call 48; refine (rat_mul _ dA dB xa xb (by exact R1.out.x hz0) (by exact R2.out.x hz0) 1000 1000 HDA.out HDB.out (by omega)).mono ?_; rintro e w1 ⟨⟨v1, rfl, r1, rfl, hr1⟩, hx1⟩; have hz1 : X wf w1 := hz0.trans hx1; have hS1 := HC.out w1 hz1))
      have HX2 := Hid.mk (HX.out.trans hz2)
      replace HA := Hid.mk (HA.out.x hz2)
      replace D1 := Hid.mk (D1.out.x hz2)
      replace R1 := Hid.mk (R1.out.x hz2)
      clear hz0 hz1 hz2 hx1 hx2 hS0 hS1 hS2 HC hr1 HX D2 D3 R2 R3 HDB HDC
      obtain ⟨wg, hwg⟩ : ∃ wg, wg = w2 := ⟨_, rfl⟩
      subst hwg
      go_upto_if 122 with (fail)
      go_cut [] (fun wc => X wg wc)
      case first =>
        by_cases hn1 : 1 < n
        · have hn1' : (1 : Int) < (n : Int) := by omega
          have hn00 : 0 < n := by omega
          have hnn0 : (0 : Int) < (n : Int) := by omega
          obtain ⟨A', k', e', q1, q2, q3⟩ := id HA.out
          injection e' with e1 e2 e3
          subst e1
          subst e3
          obtain ⟨us', hul, hur, huc⟩ := RowM.list q3
          obtain ⟨b, o, rfl, -⟩ := q3 (by omega)
          have g0 : us'[0]? = some us'[0] := List.getElem?_eq_getElem (by omega)
          have g1 : us'[1]? = some us'[1] := List.getElem?_eq_getElem (by omega)
          have c0 := huc b o rfl 0 _ g0
          have c1 := huc b o rfl 1 _ g1
          obtain ⟨u0, hu0⟩ : ∃ u, u = us'[0] := ⟨_, rfl⟩
          obtain ⟨u1, hu1⟩ : ∃ u, u = us'[1] := ⟨_, rfl⟩
          rw [← hu0] at c0 g0
          rw [← hu1] at c1 g1
          rw [Nat.add_zero] at c0
          clear hu0 hu1
          have HSWR := Hid.mk (swap_rows (M := MA) hul hur g0 g1)
          obtain ⟨A0, d0, rfl, -, -, -⟩ := id (hur 0 _ g0)
          obtain ⟨A1, d1, rfl, -, -, -⟩ := id (hur 1 _ g1)
          have hsl : ∀ u ∈ us', IsSl u := by
            intro u hu
            obtain ⟨j, hj, rfl⟩ := List.getElem_of_mem hu
            obtain ⟨A, c, e, -⟩ := hur j _ (List.getElem?_eq_getElem hj)
            exact ⟨A, n, c, e⟩
          have HS1 : Hid (∀ u ∈ us'.drop 2, IsSl u) := fun u hu => hsl u (List.mem_of_mem_drop hu)
          have HS2 : Hid (∀ u ∈ us'.drop 2, u.oneCell' = true) := fun u hu => by
            obtain ⟨A, m, c, rfl⟩ := hsl u (List.mem_of_mem_drop hu)
            rfl
          have HLN : Hid ((us'.drop 2).length = (n - 2) * 1) := by rw [List.length_drop, hul, Nat.mul_one]; exact Hid.mk rfl
          have HN1 : Hid (∀ w', X wg w' → ∀ ad, (if aa = 2 then some (⟨b, o, none⟩ : Addr) else some ⟨b, o + 2, none⟩) = some ad → ∀ j u, (us'.drop 2)[j]? = some u → w'.cell? (ad.add j) = some u) := fun w' h ad had j u hj => by
            rw [List.getElem?_drop] at hj
            have hj2 := (List.getElem?_eq_some_iff.1 hj).1
            rw [if_neg (by omega)] at had
            injection had with had
            subst had
            rw [add_off, Nat.add_assoc]; exact h.cell (huc b o rfl _ _ hj)
          have HC := Hid.mk (fun w' (h : X wg w') => (⟨h.cell c0, h.cell c1⟩ : w'.cell? ⟨b, o, none⟩ = some (.slice A0 n d0) ∧ w'.cell? ⟨b, o + 1, none⟩ = some (.slice A1 n d1)))
          have HZ1 : Hid (X wg (wg.alloc (.cells #[.slice A1 n d1, .slice A0 n d0] 49)).drew) := ((X.refl wg).alloc _).drew
          have HE : Hid (OwnC IsSl (wg.alloc (.cells #[.slice A1 n d1, .slice A0 n d0] 49)).drew wg.heap.size 49 1 (.slice (some ⟨wg.heap.size, 0, none⟩) 2 2) 2 [.slice A1 n d1, .slice A0 n d0]) := own_lit IsSl (w0 := wg) ((Blk.new wg #[.slice A1 n d1, .slice A0 n d0] _).x (X.refl _).drew) rfl (by simp only [maxLen]; omega) (Nat.le_refl _) (fun u hu => by
            simp at hu
            rcases hu with rfl | rfl
            · exact ⟨_, _, _, rfl⟩
            · exact ⟨_, _, _, rfl⟩)
          have hS0 := HC.out wg (X.refl _)
          have hk0 : (0 : Int) ≤ 2 := by omega
          have hk1 : (2 : Int) ≤ (n : Int) := by omega
          have hk2 : (n : Int) ≤ (aa : Int) := by omega
          have hk3 : 2 ≤ n := by omega
          have hk4 : n ≤ aa := by omega
          have HSW1 : Hid (TSz (swapped MA 0 1) n n 1) := fun i hi j hj => by
            unfold swapped
            split
            · exact HSA.out 1 (by omega) j hj
            · split
              · exact HSA.out 0 (by omega) j hj
              · exact HSA.out i hi j hj
          clear hul hur huc q1 q2 q3 g0 g1 c0 c1 hsl
          go_wp2_with fail
          go_region_held3 (fun w' => w'.cell? ⟨b, o, none⟩ = some (.slice A0 n d0) ∧ w'.cell? ⟨b, o + 1, none⟩ = some (.slice A1 n d1))
            (go_keep)
            (first | (refine step_append_any IsSl wg _ rfl (.tmp 129) (.tmp 131) 29 rfl 49 (.slice none 0 0) 1 24 Tryz.underlying29 info_sQ rfl (by omega) (fun u hu => ⟨none, 0, 0, by simpa [Value.cells] using hu⟩) _ _ _ rfl HE.out (if aa = 2 then some ⟨b, o, none⟩ else some ⟨b, o + 2, none⟩) (n - 2) (aa - 2) (by intro hB; split at hB <;> cases hB) (us'.drop 2) rfl HLN.out (HN1.out _ HZ1.out) HS2.out HS1.out (by omega) (by omega) HZ1.out ?_; intro v9 w9 ho9 hx9 hk9; have hS1 := HC.out w9 hx9; have HO9 := Hid.mk ho9; have HX9 := Hid.mk hx9; clear ho9 hx9 hk9))
          have hsw : MatQ w9 v9 n n (swapped MA 0 1) := by
            have h1 := HO9.out.1
            rw [show 2 + (n - 2) = n by omega] at h1
            exact SlM.own (S := SlQ) h1 (by rw [List.length_append, HLN.out]; show 2 + (n - 2) * 1 = n; omega) (fun j u hj => (HSWR.out j u hj).x HX9.out)
          have HSW := Hid.mk hsw
          replace D1 := Hid.mk (D1.out.x HX9.out)
          replace R1 := Hid.mk (R1.out.x HX9.out)
          clear hsw hS0 hS1 HC HO9 HSWR HN1 HLN HS1 HS2 HE HZ1 HA
          generalize (if aa = 2 then some (⟨b, o, none⟩ : Addr) else some ⟨b, o + 2, none⟩) = Bv
          go_wp2_with fail
          refine (mat_det _ _ n (swapped MA 0 1) HSW.out (by omega) 1 (by omega) HSW1.out (Nat.le_trans HP1.out (by omega))).mono ?_
          rintro e wh ⟨⟨vh, rfl, dS, rfl, hdS⟩, hxh⟩
          have HXh := Hid.mk (HX9.out.trans hxh)
          go_upto_region 24 with (fail)
          obtain ⟨wj, hWj, hXj, hXj', bj, hdj⟩ := store4 (t := 71) HXh.out hdS
          rw [hWj]
          have hxx := hxh.trans hXj
          have HXJ := Hid.mk hXj'
          replace D1 := Hid.mk (D1.out.x hxx)
          replace R1 := Hid.mk (R1.out.x hxx)
          have D4 := Hid.mk bj
          have R4 : Hid (RatR wj dS (-xa)) := by
            have e1 : det n (swapped MA 0 1) = - det n MA := det_swap MA (by omega) (by omega) (by omega)
            rw [HXA.out, ← e1]; exact Hid.mk hdj
          clear hWj hXj hXj' bj hdj hdS hxh hxx HSW HXh
          obtain ⟨p4, hp4⟩ : ∃ p, p = wh.heap.size := ⟨_, rfl⟩
          rw [← hp4] at D4 ⊢
          clear hp4
          have HC := Hid.mk (fun w' (h : X wj w') => (⟨(D1.out.x h).cell (j := 0) rfl, (D1.out.x h).cell (j := 1) rfl, (D1.out.x h).cell (j := 2) rfl, (D1.out.x h).cell (j := 3) rfl, (D4.out.x h).cell (j := 0) rfl, (D4.out.x h).cell (j := 1) rfl, (D4.out.x h).cell (j := 2) rfl, (D4.out.x h).cell (j := 3) rfl⟩ : w'.cell? ⟨p1, 0, none⟩ = some (.bool dA.s) ∧ w'.cell? ⟨p1, 1, none⟩ = some (.slice dA.A dA.n dA.c) ∧ w'.cell? ⟨p1, 2, none⟩ = some (.bool dA.t) ∧ w'.cell? ⟨p1, 3, none⟩ = some (.slice dA.B dA.m dA.d) ∧ w'.cell? ⟨p4, 0, none⟩ = some (.bool dS.s) ∧ w'.cell? ⟨p4, 1, none⟩ = some (.slice dS.A dS.n dS.c) ∧ w'.cell? ⟨p4, 2, none⟩ = some (.bool dS.t) ∧ w'.cell? ⟨p4, 3, none⟩ = some (.slice dS.B dS.m dS.d)))
          have hz0 : X wj wj.drew := ⟨rfl, rfl, rfl, Nat.le_refl _, fun _ _ => rfl⟩
          have hS0 := HC.out wj (X.refl _)
          go_region_held3 (fun w' => w'.cell? ⟨p1, 0, none⟩ = some (.bool dA.s) ∧ w'.cell? ⟨p1, 1, none⟩ = some (.slice dA.A dA.n dA.c) ∧ w'.cell? ⟨p1, 2, none⟩ = some (.bool dA.t) ∧ w'.cell? ⟨p1, 3, none⟩ = some (.slice dA.B dA.m dA.d) ∧ w'.cell? ⟨p4, 0, none⟩ = some (.bool dS.s) ∧ w'.cell? ⟨p4, 1, none⟩ = some (.slice dS.A dS.n dS.c) ∧ w'.cell? ⟨p4, 2, none⟩ = some (.bool dS.t) ∧ w'.cell? ⟨p4, 3, none⟩ = some (.slice dS.B dS.m dS.d))
            (go_keep)
            (first
              | (have hguard := hz1; go_at_call 47; refine (rat_compare_same _ dS r1 (-xa) (by exact R4.out.x hz1) hr1 1000 HDA.out.neg (by omega)).mono ?_; rintro e w2 ⟨⟨v2, rfl, rfl⟩, hx2⟩; have hz2 : X wj w2 := hz1.trans hx2; have hr1 := hr1.x hx2; have hS2 := HC.out w2 hz2)
              | (have hguard := hz0; go_at_call 49; refine (rat_neg _ dA xa (by exact R1.out.x hz0)).mono ?_; rintro e w1 ⟨⟨v1, rfl, r1, rfl, hr1⟩, hx1⟩; have hz1 : X wj w1 := hz0.trans hx1; have hS1 := HC.out w1 hz1))
          have HXK := Hid.mk (HXJ.out.trans hz2)
          clear hz0 hz1 hz2 hx1 hx2 hS0 hS1 hS2 HC hr1
          go_wp2_with fail
          go_meet
          exact HXK.out
        · have hn1' : ¬ (1 : Int) < (n : Int) := by omega
          go_wp2_with fail
          go_meet
          exact X.refl _
      case rest =>
        replace HX2 := Hid.mk (HX2.out.trans hcut)
        replace HA := Hid.mk (HA.out.x hcut)
        replace D1 := Hid.mk (D1.out.x hcut)
        replace R1 := Hid.mk (R1.out.x hcut)
        clear hcut
        go_wp2_with fail
        refine (mat_inverse _ _ n MA HA.out (by omega) 1 (by omega) HSA.out (Nat.le_trans HP1.out (by omega))).mono ?_
        rintro e wh ⟨⟨vh, rfl, hP⟩, hxh⟩
        replace HX2 := Hid.mk (HX2.out.trans hxh)
        replace HA := Hid.mk (HA.out.x hxh)
        replace D1 := Hid.mk (D1.out.x hxh)
        replace R1 := Hid.mk (R1.out.x hxh)
        obtain ⟨s, hs⟩ : ∃ s, s = steps n (beside n MA) n := ⟨_, rfl⟩
        have hpl : s.piv.length ≤ n := by rw [hs]; exact (inv_steps n (beside n MA) n).len
        have hdp : xa = 0 ↔ s.piv.length < n := by
          have e1 : det n MA = det n (beside n MA) := det_congr (fun i hi j hj => by unfold beside; rw [if_pos hj])
          rw [HXA.out, e1, hs]
          exact det_pivots _
        have hir : s.piv.length = n → ∀ i, i < n → ∀ k, k < n → prodv n MA (fun i j => s.M i (n + j)) i k = one i k := by
          intro h
          rw [hs] at h ⊢
          exact inverse_right h
        have HIS : Hid (TSz (fun i j => s.M i (n + j)) n n 1000000) := by
          rw [hs]
          refine Hid.mk (fun i hi j hj => ?_)
          obtain ⟨h1, h2, h3⟩ := steps_size (b := 1) (by omega) (beside_size (by omega) HSA.out) n (by omega)
          have h4 : 5 ^ (steps n (beside n MA) n).piv.length ≤ 5 ^ (n + 1) := Nat.pow_le_pow_right (by omega) (by omega)
          have h5 := HP1.out
          exact (h1 i hi (n + j) (by omega)).mono (by omega)
        rw [← hs] at hP
        have HP := Hid.mk hP
        have HIR := Hid.mk hir
        clear hs hP hir hxh
        have hb1 := D1.out
        have k0 := hb1.cell (j := 0) rfl; have k1 := hb1.cell (j := 1) rfl; have k2 := hb1.cell (j := 2) rfl; have k3 := hb1.cell (j := 3) rfl
        clear hb1 D1
        by_cases hz0 : xa = 0
        · have hlt := hdp.1 hz0
          obtain rfl := HP.out.2 hlt
          have hsg : Int.sign xa.num = 0 := by rw [hz0]; rfl
          clear hdp hlt hpl HP HIR
          go_wp2_with fail
          refine (rat_sign_at _ dA xa 0 R1.out hsg).mono ?_
          rintro e wi ⟨⟨vi, rfl, rfl⟩, hxi⟩
          replace HX2 := Hid.mk (HX2.out.trans hxi)
          clear hxi k0 k1 k2 k3 hz0 hsg
          go_wp2_with fail
          go_ret
          exact ⟨⟨_, rfl, rfl⟩, HX2.out⟩
        · have hge : s.piv.length = n := by
            have : ¬ s.piv.length < n := fun h => hz0 (hdp.2 h)
            omega
          obtain ⟨Q, rfl, hQ⟩ := HP.out.1 hge
          have hone := HIR.out hge
          have HQ := Hid.mk hQ
          have HONE := Hid.mk hone
          obtain ⟨QA, qa, rfl, -, -, -⟩ := id hQ
          obtain ⟨sg', hsg⟩ : ∃ sg, Int.sign xa.num = sg := ⟨_, rfl⟩
          have hsn : (sg' == 0) = false := by
            rw [beq_eq_false_iff_ne, ← hsg]
            intro h
            rw [Int.sign_eq_zero_iff_zero] at h
            exact hz0 (rat_num_zero.1 h)
          have HSG := Hid.mk hsg
          clear hdp hpl HP HIR hge hone hQ hz0 hsg
          go_wp2_with fail
          refine (rat_sign_at _ dA xa sg' R1.out HSG.out).mono ?_
          rintro e wi ⟨⟨vi, rfl, rfl⟩, hxi⟩
          replace HX2 := Hid.mk (HX2.out.trans hxi)
          replace HA := Hid.mk (HA.out.x hxi)
          replace HQ := Hid.mk (HQ.out.x hxi)
          clear hxi k0 k1 k2 k3
          go_wp2_with fail
          refine (mat_mul _ _ _ n n n n MA _ HA.out HQ.out (by omega) (by omega) (by omega) (by omega) (Or.inr rfl) n (by split <;> omega) 1 1000000 HSA.out HIS.out (by omega)).mono ?_
          rintro e wj ⟨⟨vj, rfl, R, rfl, hR⟩, hxj⟩
          replace HX2 := Hid.mk (HX2.out.trans hxj)
          have HR1 : Hid (MatQ wj R n n one) := hR.congr (fun i hi j hj => HONE.out i hi j hj)
          clear hxj hR HQ HA
          go_wp2_with fail
          refine (mat_identity _ n (by omega)).mono ?_
          rintro e wk ⟨⟨vk, rfl, R2, rfl, hR2⟩, hxk⟩
          replace HX2 := Hid.mk (HX2.out.trans hxk)
          replace HR1 := Hid.mk (HR1.out.x hxk)
          have HR2 := Hid.mk hR2
          clear hxk hR2
          go_wp2_with fail
          refine (mat_equal _ _ _ n n one HR1.out HR2.out (by omega) (by omega) 1 (one_size n) (by omega)).mono ?_
          rintro e wl ⟨⟨vl, rfl, rfl⟩, hxl⟩
          replace HX2 := Hid.mk (HX2.out.trans hxl)
          clear hxl HR1 HR2
          go_wp2_with fail
          go_ret
          exact ⟨⟨_, rfl, rfl⟩, HX2.out⟩
end Go.Proofs.YtogakaiibijjpaaGreatDoor

/- For every input MatrixDeterminants returns true and leaves its arguments as they read; no condition. -/
set_option linter.unusedVariables false
set_option linter.unusedSimpArgs false
namespace Go.Proofs.YtogakaiibijjpaaGreatDoor
open Go.ChangeShapes Go.WideShapes Go.ChangeAt Go.RowKit Go.Deep Go.Joins

theorem matrixDeterminants_reads (os : Os) {H : Type} (enc : TypeId × Value → H) : ∃ places, DataW.whole enc Tryz.prog ((World.laidAll Tryz.prog os Rows.matrixDeterminantsRow.laid).forCall (fun _ _ => 0) ⟨#[], #[.agg #[.int .u8 0, .slice none 0 0], .agg #[.int .u8 0, .slice none 0 0], .int .u8 0], []⟩).memory Tryz.f11.params.toList Rows.matrixDeterminantsSpec.vars false #[(.agg #[.int .u8 0, .slice none 0 0] : Value), .agg #[.int .u8 0, .slice none 0 0], .int .u8 0].toList 8 = some ([.agg [.lit (.int .u8 0), .nil], .agg [.lit (.int .u8 0), .nil], .lit (.int .u8 0)], [], places) :=
  ⟨[], by kernel_rfl⟩

set_option maxRecDepth 100000 in
theorem matrixDeterminants_lifted (os : Os) (started : os.Started) (H : Type) (enc : TypeId × Value → H) (F : Stop.Interp) :
    ReturnsInHanded {} Tryz.checked os 11 .any ((OpenSpec.ofChange Rows.matrixDeterminantsSpec).preRow enc Tryz.prog Tryz.f11 Rows.matrixDeterminantsRow.domain false Rows.matrixDeterminantsRow.laid) (((OpenSpec.ofChange Rows.matrixDeterminantsSpec).at F).post enc Tryz.prog Tryz.f11 false true false false) := by
  obtain ⟨places, hx⟩ := matrixDeterminants_reads os enc
  refine returnsInHanded_of_row (C := Tryz.checked) (s := OpenSpec.ofChange Rows.matrixDeterminantsSpec) own started (by kernel_rfl) Tryz.func11
    (witness_row_atRef (enc := enc) (C := Tryz.checked) false (World.laidAll Tryz.prog os Rows.matrixDeterminantsRow.laid) #[.agg #[.int .u8 0, .slice none 0 0], .agg #[.int .u8 0, .slice none 0 0], .int .u8 0] (World.laidAll_os _ _ _) (by kernel_rfl) (by kernel_rfl) (by kernel_rfl)
      (OpenSpec.preRow_of_cond 8 hx (by kernel_rfl) (fun k hk => by cases hk) (by kernel_rfl) (by rw [MakeChecks.laidMetH_plain _ _ _ (by kernel_rfl)]; exact laidMet_laidAll _ (by kernel_rfl) (by kernel_rfl)))) ?_
  intro W base args ds gs before hval0 hW _ _ _ hL hsh _
  have hval : ∀ (j : Nat) t v, Tryz.f11.params[j]? = some t → args[j]? = some v → Value.okWide Tryz.prog W .any base t v := hval0
  have hW' := hW
  obtain ⟨p, q, hA0, hV, rfl, hfz, hnd⟩ := hW
  have hA : DataW.TrodAll enc Tryz.prog W 0 (fun _ => true) true Tryz.f11.params.toList args.toList ds p := hA0
  rw [Tryz.params11] at hA hval
  obtain ⟨v0, vs0, d0, ds0, p0, q0, hargs, rfl, rfl, h0, r0⟩ := trodAll_cons hA
  obtain ⟨v1, vs1, d1, ds1, p1, q1, rfl, rfl, rfl, h1, r1⟩ := trodAll_cons r0
  obtain ⟨v2, vs2, d2, ds2, p2, q2, rfl, rfl, rfl, h2, r2⟩ := trodAll_cons r1
  obtain ⟨rfl, rfl, rfl⟩ := trodAll_nil r2
  obtain rfl : args = #[v0, v1, v2] := by cases args; simp_all
  obtain ⟨rfl, rfl⟩ := trodVars_none hV
  have hlt := fun x hx => hW'.lt x hx
  obtain ⟨C0, A0, n0, c0, L0, N0, D0, rfl, hC0, hn0, hR0⟩ := open_table (hval 0 24 v0 rfl rfl) h0
  obtain ⟨C1, A1, n1, c1, L1, N1, D1, rfl, hC1, hn1, hR1⟩ := open_table (hval 1 24 v1 rfl rfl) h1
  obtain ⟨z2, rfl, rfl, rfl, wz2⟩ := open_int Tryz.underlying5 (hval 2 5 v2 rfl rfl) h2
  have hL1 := laidMetH.filter (fun x => x.1 == "internal/strconv.uint64pow10") hL
  rw [show (Rows.matrixDeterminantsRow.laid.filter fun x => x.1 == "internal/strconv.uint64pow10") = [("internal/strconv.uint64pow10", Rows.laid_internal_strconv_uint64pow10)] by kernel_rfl] at hL1
  have hg : Gl W := ⟨pow_tab hL1, max_shape hsh⟩
  refine (law_determinants W C0 A0 n0 c0 L0 N0 D0 hR0 hC0 hn0 C1 A1 n1 c1 L1 N1 D1 hR1 hC1 hn1 z2 (wf_u8 wz2) hg).mono ?_
  rintro e W' ⟨⟨v, rfl, rfl⟩, hb⟩
  exact ⟨_, rfl, _, _, _, [], _, [], hW', trodAll_mk1 (shut_bool Tryz.underlying4 _), (trodAll_cons_mk (Below.trod laidOut (by kernel_rfl) (of_decide_eq_true (by kernel_rfl)) h0 hb (fun x hx => hlt x (by simp [hx]))) (trodAll_cons_mk (Below.trod laidOut (by kernel_rfl) (of_decide_eq_true (by kernel_rfl)) h1 hb (fun x hx => hlt x (by simp [hx]))) (trodAll_cons_mk (shut_int Tryz.underlying5 wz2) trodAll_mk0))), rfl, hb.frame _, fun h => by cases h⟩

theorem matrixDeterminants_said : Rows.MatrixDeterminantsSaid :=
  OpenClaim.holds_of_cond 11 Tryz.f11 rfl rfl rfl rfl rfl rfl rfl ⟨rfl, rfl, rfl, rfl, rfl⟩ rfl rfl rfl rfl rfl (by kernel_rfl) Tryz.func11 (by kernel_rfl)
    (of_decide_eq_true (by kernel_rfl)) (by unfold Func.isWrapper; first | (rw [if_pos (by decide +kernel)]; kernel_rfl) | (rw [if_neg (by decide +kernel)]; exact ⟨rfl, rfl⟩))
    (fun os started H enc _ F => by rw [OpenClaim.pre_eq_preRow]; exact matrixDeterminants_lifted os started H enc F)

theorem matrixDeterminants_plain (f : FuncId) (fn : Func) (hf : Tryz.pinned.checked.prog.funcNamed "dowel/dowellaw05.MatrixDeterminants" = some f) (hfn : Tryz.pinned.checked.prog.funcs[f]? = some fn) :
    true = Tryz.pinned.checked.prog.looks [] ∧ ∀ (j : Nat) t, fn.params[j]? = some t → Tryz.pinned.checked.prog.wantsStandIn t = false := by
  obtain rfl : f = 11 := Option.some.inj ((show Tryz.prog.funcNamed "dowel/dowellaw05.MatrixDeterminants" = some 11 by kernel_rfl).symm.trans hf) |>.symm
  obtain rfl : fn = Tryz.f11 := (Option.some.inj (Tryz.func11.symm.trans hfn)).symm
  refine ⟨by kernel_rfl, fun j t ht => ?_⟩
  rw [Tryz.params11] at ht
  have hm : t ∈ [24, 5] := by
    have := Array.mem_of_getElem? ht
    simp at this ⊢
    omega
  have hall : ([24, 5].all fun u => !Tryz.prog.wantsStandIn u) = true := by kernel_rfl
  exact (show Tryz.prog.wantsStandIn t = false by simpa using List.all_eq_true.1 hall t hm)

theorem matrixDeterminants_card : Rows.MatrixDeterminantsCardSaid :=
  Claim7.holds_tied_plain_at .later [] _ _ _ _ matrixDeterminants_said (fun _ h => by cases h) (by kernel_rfl) (fun _ h => by cases h) matrixDeterminants_row_tie rfl ⟨rfl, rfl⟩ (by kernel_rfl) rfl matrixDeterminants_plain (by kernel_rfl)
#print axioms matrixDeterminants_card
end Go.Proofs.YtogakaiibijjpaaGreatDoor
