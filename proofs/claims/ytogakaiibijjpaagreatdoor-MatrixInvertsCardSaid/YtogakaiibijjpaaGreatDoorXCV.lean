/- For every input MatrixInverts returns true and leaves its arguments as they read; no condition. -/
import Derived.Test.YtogakaiibijjpaaGreatDoorW9
import Derived.Lib.AppendZeros
/- The reference: Solve. -/
set_option linter.unusedVariables false
set_option linter.unusedSimpArgs false
namespace Go.Proofs.YtogakaiibijjpaaGreatDoor
open Go.RowKit
open DDig DLin

theorem str_fcs (fs : List FV) : ∀ u ∈ fcs fs, IsStr u := by
  intro u hu
  simp only [fcs, List.mem_flatMap] at hu
  obtain ⟨a, -, h⟩ := hu
  simp at h
  rcases h with rfl | rfl
  · exact ⟨_, rfl⟩
  · exact ⟨_, rfl⟩
theorem own_empty (C : Value → Prop) {w0 w : World} {g : Nat} {e : TypeId} {size : Nat} (hb : Blk w g e []) (hg : w0.heap.size ≤ g) : OwnC C w w0.heap.size e size (.slice (some ⟨g, 0, none⟩) 0 0) 0 [] := by
  refine ⟨⟨by simp, Or.inr ⟨g, 0, #[], rfl, hg, ?_, by omega, by omega, by simp, by simp⟩⟩, fun b hb' => ?_⟩
  · exact hb
  · simp [Value.ownBlock] at hb'
    subst hb'
    exact ⟨[], hb, by simp⟩

theorem FCs_ext {fs : List FV} {c i : Nat} {M : Mat} {f : Nat → Rat} {a : FV} (hl : fs.length = c) (hq : ∀ j b, fs[j]? = some b → FR b (M i j)) (ha : FR a (f i)) : ∀ j b, (fs ++ [a])[j]? = some b → FR b (wide c M f i j) :=
  frs_snoc hl (fun j b hj => by
    have hjl : j < fs.length := (List.getElem?_eq_some_iff.1 hj).1
    have : ¬ j = c := by omega
    show FR b (if j = c then f i else M i j)
    rw [if_neg this]
    exact hq j b hj) (by show FR a (if c = c then f i else M i c); rw [if_pos rfl]; exact ha)

/-- 'append(out, xs...)' onto a row of one sort, xs nil or not, at a step of a region that draws its order. -/
theorem step_append_any {P : Program} (C : Value → Prop) (w0 w : World) {ops : Array Oper} {o : Oper} {a : Act} {K : Act → World → Prop} {Q : Exit → Act → World → Prop} {E : Prop} (hgd : o.guard = none) (s x : Operand) (t : TypeId)
    (ho : o.op = .call { callee := .builtin .append, args := #[s, x], argTypes := #[t, t] })
    (e : TypeId) (z : Value) (size bytes : Nat) (ht : P.underlying t = some (.slice e)) (h2 : (P.info? e).map (fun i => (i.zero, i.size, i.bytes)) = some (some z, size, bytes)) (hzs : z.cells.size = size) (hsz : 0 < size) (hzc : ∀ u ∈ z.cells.toList, C u)
    (v : Value) (n : Nat) (xs : List Value) (hs : a.eval s = v) (hown : OwnC C w w0.heap.size e size v n xs)
    (B : Option Addr) (m c : Nat) (hB : B = none → m = 0 ∧ c = 0) (news : List Value) (hx : a.eval x = .slice B m c) (hl : news.length = m * size) (hnews : ∀ ad, B = some ad → ∀ j u, news[j]? = some u → w.cell? (ad.add j) = some u) (h1 : ∀ u ∈ news, u.oneCell' = true) (hnc : ∀ u ∈ news, C u)
    (h63 : n + m ≤ 9223372036854775807) (hbytes : (n + m) * bytes ≤ 140737488355328) (hX : X w0 w)
    (h : ∀ v' w', OwnC C w' w0.heap.size e size v' (n + m) (xs ++ news) → X w0 w' → (∀ b, b < w.heap.size → v.ownBlock ≠ some b → w'.heap[b]? = w.heap[b]?) → K (a.put o.dst v') w') :
    if Region.wanted o (yielded ops a.tmps) = true then Oper.wp P o a w K Q else E := by
  cases B with
  | some ad => exact step_append_C C w0 w hgd s x t ho e z size bytes ht h2 hzs hsz hzc v n xs hs hown ad m c news hx hl (hnews ad rfl) h1 hnc h63 hbytes hX h
  | none =>
    obtain ⟨rfl, rfl⟩ := hB rfl
    have hn : news = [] := List.eq_nil_of_length_eq_zero (by rw [hl, Nat.zero_mul])
    subst hn
    have hw : Region.wanted o (yielded ops a.tmps) = true := by simp [Region.wanted, hgd]
    rw [if_pos hw]
    obtain ⟨i, hi, e1, e2, e3⟩ := info_parts h2
    have hrun := run_append_owned_none (P := P) (w := w) w0.heap.size t o.type e i size ht hi v n xs hown.1
    unfold Oper.wp
    simp [execOp, ho, resolve, invoke, builtin, hs, hx, hrun, Result.andThen]
    exact h v w (by simpa using hown) hX (fun b _ _ => rfl)

theorem own_ne {g g' n c : Nat} (h : g ≠ g') : (Value.slice (some ⟨g, 0, none⟩) n c).ownBlock ≠ some g' := by
  intro e
  simp [Value.ownBlock] at e
  exact h e

theorem Blk.kept {w w' : World} {g : Nat} {e : TypeId} {cs : List Value} {v : Value} (h : Blk w g e cs) (hk : ∀ b, b < w.heap.size → v.ownBlock ≠ some b → w'.heap[b]? = w.heap[b]?) (hv : v.ownBlock ≠ some g) : Blk w' g e cs := by
  unfold Blk
  rw [hk g h.lt hv]
  exact h

/-- What the reference's Solve answers. -/
def SolveF (m c : Nat) (s : St) (w' : World) (r : Value) : Prop :=
  ((∀ i, s.piv.length ≤ i → i < m → s.M i c = 0) → ∃ Y, r = .tuple #[Y, .bool true] ∧ SlF w' Y c (solv s c)) ∧ ((¬ ∀ i, s.piv.length ≤ i → i < m → s.M i c = 0) → r = .tuple #[.slice none 0 0, .bool false])

set_option maxRecDepth 100000 in
set_option maxHeartbeats 8000000 in
theorem ref_solve (w : World) (v u : Value) (m c : Nat) (M : Mat) (f : Nat → Rat) (h : MatF w v m c M) (h' : SlF w u m f) (hm : m ≤ 100) (hc : c ≤ 100) (hmc : m = 0 → c = 0) (b : Nat) (hb : 0 < b) (hs : TSz M m c b) (hs' : ∀ i, i < m → RSz (f i) b) (hsz : 5 ^ (m + 1) * b ≤ 10000000000) :
    Calls Tryz.prog 34 #[v, u] w (Ret w (SolveF m c (steps m (wide c M f) c))) := by
  have H := Hid.mk h
  have HS := Hid.mk (tsz_wide hs hs')
  have HMC := Hid.mk hmc
  obtain ⟨A0, c0, rfl, -, -, p3⟩ := id h
  obtain ⟨B0, d0, rfl, -, -, p6⟩ := id h'
  have HA := Hid.mk p3
  have HB := Hid.mk p6
  clear h p3 p6 h' hs hs' hmc
  go_enter Tryz.func34, Tryz.ntmps34
  go_wp2_with fail
  go_loopw [6, 7] (fun t6 t7 wr => ∃ (i : Nat) (us : List Value), i ≤ m ∧ t7 = .int .i64 i ∧ OwnC IsSl wr w.heap.size 51 1 t6 i us ∧ us.length = i ∧ (∀ j u, us[j]? = some u → SlF wr u (c + 1) (wide c M f j)) ∧ X w wr) (fun _ t _ => m - (intOf t).toNat)
  case atStart => exact ⟨0, [], Nat.zero_le _, rfl, OwnC.nil _ _ _ _ _, rfl, by simp, X.refl _⟩
  case round =>
    obtain ⟨i, us, hi, rfl, ho, hl, hu, hx⟩ := hrel
    have HO := Hid.mk ho
    have HU := Hid.mk hu
    have HX := Hid.mk hx
    clear ho hu hx
    by_cases him : i < m
    · have him' : (i : Int) < (m : Int) := by omega
      obtain ⟨b0, o0, rfl, gg⟩ := HA.out (by omega)
      obtain ⟨x, c1, hx⟩ := gg i him
      obtain ⟨B1, d1, rfl, -, hB1, hrow⟩ := id hx
      obtain ⟨fs, hfl, hfr, hcl⟩ := hrow.list
      obtain ⟨b2, o2, rfl, gg2⟩ := HB.out (by omega)
      obtain ⟨a, e0, e1, ha⟩ := gg2 i (by omega)
      have HRa := Hid.mk ha
      have HFR := Hid.mk hfr
      have HB1 := Hid.mk hB1
      have hfl2 : (fcs fs).length = c * 2 := by rw [fcs, flat_len fvc 2 (fun _ => rfl), hfl]
      have HN : Hid (∀ w', X w w' → ∀ ad, B1 = some ad → ∀ j u, (fcs fs)[j]? = some u → w'.cell? (ad.add j) = some u) := by
        intro w' hx ad had j u hu
        by_cases h0 : 0 < c
        · obtain ⟨b', o', e, -⟩ := hrow h0
          rw [e] at had
          injection had with had
          subst had
          rw [add_off]
          exact hx.cell (hcl b' o' e j u hu)
        · have : fs = [] := List.eq_nil_of_length_eq_zero (by omega)
          subst this
          simp [fcs] at hu
      have HC := Hid.mk (fun w' (h : X w w') => (⟨h.cell c1, h.cell e0, h.cell e1⟩ : w'.cell? ⟨b0, o0 + i, none⟩ = some (.slice B1 c d1) ∧ w'.cell? ⟨b2, o2 + i * 2, none⟩ = some (.string a.p) ∧ w'.cell? ⟨b2, o2 + i * 2 + 1, none⟩ = some (.string a.q)))
      have hib : (i + 1) * 24 ≤ 140737488355328 := by omega
      have hcb : (c + 1) * 32 ≤ 140737488355328 := by omega
      have hcb2 : (0 + c) * 32 ≤ 140737488355328 := by omega
      have hz1 : X wr (wr.alloc (.cells #[] 84)).drew := ((X.refl wr).alloc _).drew
      have hz2 : X wr ((wr.alloc (.cells #[] 84)).alloc (.cells #[.string a.p, .string a.q] 84)).drew := (((X.refl wr).alloc _).alloc _).drew
      have hz3 : X wr ((wr.alloc (.cells #[.string a.p, .string a.q] 84)).alloc (.cells #[] 84)).drew := (((X.refl wr).alloc _).alloc _).drew
      have hE1 : OwnC IsStr (wr.alloc (.cells #[] 84)).drew wr.heap.size 84 2 (.slice (some ⟨wr.heap.size, 0, none⟩) 0 0) 0 [] := own_empty IsStr (w0 := wr) ((Blk.new wr #[] 84).x (X.refl _).drew) (Nat.le_refl _)
      have hE2 : OwnC IsStr ((wr.alloc (.cells #[] 84)).alloc (.cells #[.string a.p, .string a.q] 84)).drew wr.heap.size 84 2 (.slice (some ⟨wr.heap.size, 0, none⟩) 0 0) 0 [] := own_empty IsStr (w0 := wr) ((Blk.new wr #[] 84).x ((X.refl _).alloc _).drew) (Nat.le_refl _)
      have hE3 : OwnC IsStr ((wr.alloc (.cells #[.string a.p, .string a.q] 84)).alloc (.cells #[] 84)).drew wr.heap.size 84 2 (.slice (some ⟨wr.heap.size + 1, 0, none⟩) 0 0) 0 [] := own_empty IsStr (w0 := wr) ((Blk.new_at _ #[] 84 (by simp)).x (X.refl _).drew) (by omega)
      have hL2 : Blk ((wr.alloc (.cells #[] 84)).alloc (.cells #[.string a.p, .string a.q] 84)).drew (wr.heap.size + 1) 84 (fvc a) := (Blk.new_at _ #[.string a.p, .string a.q] 84 (by simp)).x (X.refl _).drew
      have hL3 : Blk ((wr.alloc (.cells #[.string a.p, .string a.q] 84)).alloc (.cells #[] 84)).drew wr.heap.size 84 (fvc a) := (Blk.new wr #[.string a.p, .string a.q] 84).x ((X.refl _).alloc _).drew
      have HE1 := Hid.mk hE1
      have HE2 := Hid.mk hE2
      have HE3 := Hid.mk hE3
      have HL2 := Hid.mk hL2
      have HL3 := Hid.mk hL3
      have HZ1 := Hid.mk hz1
      have HZ2 := Hid.mk hz2
      have HZ3 := Hid.mk hz3
      have hS0 := HC.out wr HX.out
      have hguard0 : True := trivial
      clear gg hx gg2 c1 e0 e1 ha hfr hcl hrow hB1 hE1 hE2 hE3 hL2 hL3 hz1 hz2 hz3
      go_wp2_with fail
      go_region_held3 (fun w' => w'.cell? ⟨b0, o0 + i, none⟩ = some (.slice B1 c d1) ∧ w'.cell? ⟨b2, o2 + i * 2, none⟩ = some (.string a.p) ∧ w'.cell? ⟨b2, o2 + i * 2 + 1, none⟩ = some (.string a.q))
        (go_keep)
        (first
          | (refine step_append_oneC IsSl w _ rfl (.tmp 20) (.tmp 33) 26 rfl 51 (.slice none 0 0) 1 24 Tryz.underlying26 info_sF rfl (by omega) (fun u hu => ⟨none, 0, 0, by simpa [Value.cells] using hu⟩) _ _ _ rfl hO3 _ _ _ rfl rfl (by simp [Value.oneCell']) (fun u hu => ⟨RA, c + 1, rc, by simpa using hu⟩) (by omega) (by omega) (HX.out.trans hx3) ?_; intro v4 w4 ho4 hx4 hk4; have hS3 := HC.out w4 hx4; have HO4 := Hid.mk ho4; have HX4 := Hid.mk hx4; have HU4 := Hid.mk (fun j u hj => ((HU.out j u hj).x hx3).kApp hO3 hk4); have HR4 := Hid.mk (hrow.kApp hO3 hk4); clear ho4 hx4 hk4)
          | (refine step_append_oneC IsStr wr _ rfl (.tmp 26) (.tmp 31) 51 rfl 84 (.agg #[.string ⟨#[]⟩, .string ⟨#[]⟩]) 2 32 Tryz.underlying51 info_F rfl (by omega) str_zero _ _ _ rfl ho2 _ _ _ rfl rfl (by simp [Value.oneCell']) (fun u hu => (by exact str_fvc a u hu)) (by omega) (by omega) hx2 ?_; intro v3 w3 ho3 hx3 hk3; have hS2 := HC.out w3 (HX.out.trans hx3); have hrow : SlF w3 v3 (c + 1) (wide c M f i) := SlF.own (fs := fs ++ [a]) (by rw [fcs_snoc]; simpa using ho3.1) (by simp [hfl]) (FCs_ext hfl HFR.out HRa.out); obtain ⟨RA, rc, rfl, p1, p2, p3⟩ := id hrow; have hO3 := HO.out.x hx3)
          | (refine step_append_any IsStr wr _ rfl (.tmp 26) (.tmp 31) 51 rfl 84 (.agg #[.string ⟨#[]⟩, .string ⟨#[]⟩]) 2 32 Tryz.underlying51 info_F rfl (by omega) str_zero _ _ _ rfl ho2 _ 1 1 (by simp) (fvc a) rfl rfl hlit (by simp [Value.oneCell']) (fun u hu => (by exact str_fvc a u hu)) (by omega) (by omega) hx2 ?_; intro v3 w3 ho3 hx3 hk3; have hS2 := HC.out w3 (HX.out.trans hx3); have hrow : SlF w3 v3 (c + 1) (wide c M f i) := SlF.own (fs := fs ++ [a]) (by rw [fcs_snoc]; simpa using ho3.1) (by simp [hfl]) (FCs_ext hfl HFR.out HRa.out); obtain ⟨RA, rc, rfl, p1, p2, p3⟩ := id hrow; have hO3 := HO.out.x hx3)
          | (have hguard := hguard0; refine step_append_any IsStr wr _ rfl (.tmp 21) (.tmp 25) 51 rfl 84 (.agg #[.string ⟨#[]⟩, .string ⟨#[]⟩]) 2 32 Tryz.underlying51 info_F rfl (by omega) str_zero _ _ _ rfl HE1.out B1 c d1 HB1.out (fcs fs) rfl hfl2 (HN.out _ (HX.out.trans HZ1.out)) (fcs_one fs) (str_fcs fs) (by omega) (by omega) HZ1.out ?_; intro v2 w2 ho2 hx2 hk2; have hS1 := HC.out w2 (HX.out.trans hx2); rw [Nat.zero_add, List.nil_append] at ho2)
          | (have hguard := hguard0; refine step_append_any IsStr wr _ rfl (.tmp 21) (.tmp 25) 51 rfl 84 (.agg #[.string ⟨#[]⟩, .string ⟨#[]⟩]) 2 32 Tryz.underlying51 info_F rfl (by omega) str_zero _ _ _ rfl HE2.out B1 c d1 HB1.out (fcs fs) rfl hfl2 (HN.out _ (HX.out.trans HZ2.out)) (fcs_one fs) (str_fcs fs) (by omega) (by omega) HZ2.out ?_; intro v2 w2 ho2 hx2 hk2; have hS1 := HC.out w2 (HX.out.trans hx2); have hlit : ∀ ad, some (⟨wr.heap.size + 1, 0, none⟩ : Addr) = some ad → ∀ j u, (fvc a)[j]? = some u → w2.cell? (ad.add j) = some u := (fun ad had => by injection had with had; subst had; exact lit_cells (HL2.out.kept hk2 (own_ne (by omega)))); rw [Nat.zero_add, List.nil_append] at ho2)
          | (have hguard := hguard0; refine step_append_any IsStr wr _ rfl (.tmp 21) (.tmp 25) 51 rfl 84 (.agg #[.string ⟨#[]⟩, .string ⟨#[]⟩]) 2 32 Tryz.underlying51 info_F rfl (by omega) str_zero _ _ _ rfl HE3.out B1 c d1 HB1.out (fcs fs) rfl hfl2 (HN.out _ (HX.out.trans HZ3.out)) (fcs_one fs) (str_fcs fs) (by omega) (by omega) HZ3.out ?_; intro v2 w2 ho2 hx2 hk2; have hS1 := HC.out w2 (HX.out.trans hx2); have hlit : ∀ ad, some (⟨wr.heap.size, 0, none⟩ : Addr) = some ad → ∀ j u, (fvc a)[j]? = some u → w2.cell? (ad.add j) = some u := (fun ad had => by injection had with had; subst had; exact lit_cells (HL3.out.kept hk2 (own_ne (by omega)))); rw [Nat.zero_add, List.nil_append] at ho2))
      all_goals
        go_wp2_with fail
        go_roundw
        case rel => exact ⟨i + 1, us ++ [.slice RA (c + 1) rc], by omega, by go_num, HO4.out, by simp [hl], rows_snoc (S := SlF) hl HU4.out HR4.out, HX4.out⟩
        case measure => simp [intOf]; omega
    · obtain rfl : i = m := by omega
      have hT : MatF wr u6 i (c + 1) (wide c M f) := SlM.own (S := SlF) (M := wide c M f) (c := c + 1) HO.out.1 hl HU.out
      obtain ⟨TA, tc, rfl, -, -, -⟩ := id hT
      have HT := Hid.mk hT
      have him' : ¬ (i : Int) < (i : Int) := by omega
      clear him hi hT HO HU
      go_wp2_with fail
      refine (ref_columns _ _ i c M (H.out.x HX.out) (by omega) c (by have := HMC.out; split <;> omega)).mono ?_
      rintro e w2 ⟨⟨v2, rfl, rfl⟩, hx2⟩
      replace HX := Hid.mk (HX.out.trans hx2)
      replace HT := Hid.mk (HT.out.x hx2)
      clear hx2
      go_wp2_with fail
      refine (ref_reduce _ _ i (c + 1) (wide c M f) HT.out (by omega) (by omega) b hb HS.out hsz).mono ?_
      rintro e w3 ⟨⟨v3, rfl, R, P, rfl, hR, hP⟩, hx3⟩
      replace HX := Hid.mk (HX.out.trans hx3)
      have HR := Hid.mk hR
      have HP := Hid.mk hP
      have hple : (steps i (wide c M f) (c + 1)).piv.length ≤ 1000000 := by
        have := (inv_steps i (wide c M f) (c + 1)).len
        omega
      clear hx3 hR hP HT
      go_wp2_with fail
      refine (ref_at _ _ _ c HP.out hple).mono ?_
      rintro e w4 ⟨⟨v4, rfl, rfl⟩, hx4⟩
      replace HX := Hid.mk (HX.out.trans hx4)
      replace HR := Hid.mk (HR.out.x hx4)
      replace HP := Hid.mk (HP.out.x hx4)
      clear hx4
      by_cases hz : ∀ t, (steps i (wide c M f) c).piv.length ≤ t → t < i → (steps i (wide c M f) c).M t c = 0
      · have hnext := next_none hz
        rw [hnext] at HR HP ⊢
        obtain ⟨s, hs⟩ : ∃ s, s = steps i (wide c M f) c := ⟨_, rfl⟩
        have hnp : c ∉ s.piv := fun h => by rw [hs] at h; exact absurd (piv_lt c h) (by omega)
        have hat : atv s.piv c = -1 := by unfold atv; rw [if_neg hnp]
        have hpl : s.piv.length ≤ i := by rw [hs]; exact (inv_steps i (wide c M f) c).len
        have HSX := Hid.mk hs
        have HZ := Hid.mk hz
        rw [← hs] at HR HP ⊢
        rw [hat]
        obtain ⟨PA, pc, rfl, -, -, -⟩ := id HP.out
        obtain ⟨RA, rc, rfl, -, -, -⟩ := id HR.out
        clear hs hz hnext hnp hat hple
        go_wp2_with (at_make; refine make_blkz _ rfl _ _ 51 rfl 84 (.agg #[.string ⟨#[]⟩, .string ⟨#[]⟩]) 2 32 Tryz.underlying51 info_F rfl .i64 .i64 _ _ c rfl rfl rfl rfl (by omega) (by omega) ?_; intro w6 cs hb1 hb2 hb3 hb4 hx6; have HF := Hid.mk (FFil.start (solv s c) hb1 hb2); have HX6 := Hid.mk hx6; clear hb1 hb2 hb3 hb4 hx6)
        obtain ⟨g, hg⟩ : ∃ g, g = w4.heap.size := ⟨_, rfl⟩
        rw [← hg] at HF ⊢
        have HG := Hid.mk hg
        clear hg
        go_loopw [12] (fun t12 wr => ∃ k : Nat, k ≤ c ∧ t12 = .int .i64 k ∧ FFil wr g c k (solv s c) ∧ X w4 wr) (fun t _ => c - (intOf t).toNat)
        case atStart => exact ⟨0, Nat.zero_le _, rfl, HF.out, HX6.out⟩
        case round =>
          clear HF HX6
          obtain ⟨k, hk, rfl, hF, hx⟩ := hrel
          have HF := Hid.mk hF
          have HX5 := Hid.mk hx
          clear hF hx
          by_cases hkn : k < c
          · have hkn' : (k : Int) < (c : Int) := by omega
            obtain ⟨v0, v1, c0, c1, f0, f1⟩ := HF.out.cells hkn
            have HF1 := Hid.mk ((HF.out.congr (e := fun t => if t = k then 0 else solv s c t) (fun j hj => by
              have : j ≠ k := by omega
              simp [this])).put hkn (r := ⟨⟨#[48]⟩, ⟨#[49]⟩⟩) (by simpa using fzero))
            have HX6 := Hid.mk (HX5.out.put2at (g := g) (by rw [HG.out]; exact Nat.le_refl _) (k * 2) ⟨⟨#[48]⟩, ⟨#[49]⟩⟩)
            clear HF
            go_wp2_with fail
            refine (ref_at _ _ s.piv k (HP.out.x HX6.out) (by omega)).mono ?_
            rintro e w7 ⟨⟨v7, rfl, rfl⟩, hx7⟩
            have HF2 := Hid.mk (HF1.out.x hx7)
            have HX7 := Hid.mk (HX6.out.trans hx7)
            clear HF1 HX6 hx7 c0 c1 f0 f1
            by_cases hmem : k ∈ s.piv
            · have hil := List.idxOf_lt_length_iff.2 hmem
              have hat : atv s.piv k = (s.piv.idxOf k : Nat) := by unfold atv; rw [if_pos hmem]
              have hq : solv s c k = s.M (s.piv.idxOf k) c := by unfold solv; rw [if_pos hmem]
              obtain ⟨y, hy⟩ : ∃ y, y = s.piv.idxOf k := ⟨_, rfl⟩
              rw [← hy] at hil hat hq
              rw [hat]
              have HQ := Hid.mk hq
              have hge : (0 : Int) ≤ (y : Int) := by omega
              have hil' : (y : Int) < (s.piv.length : Int) := by omega
              have hcc' : (c : Int) < (((c + 1 : Nat)) : Int) := by omega
              obtain ⟨b1, o1, d1, b2, o2, a, rfl, c0, e0, e1, ha⟩ := (HR.out.x HX7.out).elem hil (show c < c + 1 by omega)
              obtain ⟨v0, v1, k0, k1, f0, f1⟩ := HF2.out.cells hkn
              have HF3 := Hid.mk ((HF2.out.upd (k := k) (by omega) ha).congr (e := solv s c) (fun j hj => by
                by_cases e : j = k
                · simp [e, HQ.out]
                · simp [e]))
              have HX8 := Hid.mk (HX7.out.put2at (g := g) (by rw [HG.out]; exact Nat.le_refl _) (k * 2) a)
              clear hmem hat hq hy ha HF2
              go_wp2_with fail
              go_roundw
              case rel => exact ⟨k + 1, by omega, by go_num, HF3.out, HX8.out⟩
              case measure => simp [intOf]; omega
            · have hat : atv s.piv k = -1 := by unfold atv; rw [if_neg hmem]
              rw [hat]
              have HF3 := Hid.mk (HF2.out.congr (e := solv s c) (fun j hj => by
                by_cases e : j = k
                · have : solv s c k = 0 := by unfold solv; rw [if_neg hmem]
                  simp [e, this]
                · simp [e]))
              clear hat hmem
              go_wp2_with fail
              go_roundw
              case rel => exact ⟨k + 1, by omega, by go_num, HF3.out, HX7.out⟩
              case measure => simp [intOf]; omega
          · obtain rfl : k = c := by omega
            have hkn' : ¬ (k : Int) < (k : Int) := by omega
            have HRow : Hid (SlF wr (.slice (some ⟨g, 0, none⟩) k k) k (solv s k)) := ⟨_, k, rfl, Nat.le_refl _, by simp, HF.out.row⟩
            have HXF := Hid.mk (HX.out.trans HX5.out)
            have HZS : Hid (∀ t, s.piv.length ≤ t → t < i → s.M t k = 0) := by rw [HSX.out]; exact HZ.out
            clear hkn hk HF
            go_wp2_with fail
            refine bodyPost_ret (v := .tuple #[.slice (some ⟨g, 0, none⟩) k k, .bool true]) (by simp [results, Tryz.results34, go_sem]) rfl ⟨⟨_, rfl, (by rw [← HSX.out]; exact ⟨fun _ => ⟨_, rfl, HRow.out⟩, fun h => absurd HZS.out h⟩)⟩, HXF.out⟩
      · have hnext := next_some hz
        have hat : atv (steps i (wide c M f) (c + 1)).piv c = ((steps i (wide c M f) (c + 1)).piv.idxOf c : Nat) := by unfold atv; rw [if_pos hnext]
        rw [hat]
        obtain ⟨y, hy⟩ : ∃ y, y = (steps i (wide c M f) (c + 1)).piv.idxOf c := ⟨_, rfl⟩
        rw [← hy]
        have hge : (0 : Int) ≤ (y : Int) := by omega
        have HZ := Hid.mk hz
        clear hnext hat hy hz
        go_wp2_with fail
        refine bodyPost_ret (v := .tuple #[.slice none 0 0, .bool false]) (by simp [results, Tryz.results34, go_sem]) rfl ⟨⟨_, rfl, fun h => absurd h HZ.out, fun _ => rfl⟩, HX.out⟩
end Go.Proofs.YtogakaiibijjpaaGreatDoor

/- What a determinant's and a solution's sizes are. -/
set_option linter.unusedVariables false
namespace Go.Proofs.YtogakaiibijjpaaGreatDoor
open DDig DLin
/-- The size of a determinant by its first row. -/
def dsz : Nat → Nat → Nat
  | 0, _ => 1
  | n + 1, b => (n + 1) * (b + dsz n b + 1) + 1
theorem dsz_succ (n b : Nat) : dsz (n + 1) b = (n + 1) * (b + dsz n b + 1) + 1 := rfl
theorem sg_cases (k : Nat) : DLin.sg k = if k % 2 = 1 then -1 else 1 := by
  induction k with
  | zero => rfl
  | succ k ih =>
    have : DLin.sg (k + 1) = - DLin.sg k := rfl
    rw [this, ih]
    by_cases h : k % 2 = 1
    · rw [if_pos h, if_neg (by omega), Rat.neg_neg]
    · rw [if_neg h, if_pos (by omega)]
theorem sg_size (k : Nat) (x : Rat) {b : Nat} (h : RSz x b) : RSz (DLin.sg k * x) b := by
  rw [sg_cases]
  split
  · rw [Rat.neg_mul, Rat.one_mul]; exact h.neg
  · rw [Rat.one_mul]; exact h
theorem sm_size {f : Nat → Rat} {b n : Nat} (h : ∀ k, k < n → RSz (f k) b) : ∀ i, i ≤ n → RSz (sm i f) (i * (b + 1) + 1)
  | 0, _ => RSz.zero (by omega)
  | i + 1, hi => by
    have h1 := sm_size h i (by omega)
    have h2 := h1.add (h i (by omega))
    rw [sm_succ]
    exact h2.mono (by rw [Nat.succ_mul]; omega)
theorem minor_size {M : Mat} {n b : Nat} (h : TSz M (n + 1) (n + 1) b) (k : Nat) : TSz (minor M k) n n b := fun i hi j hj => h _ (by omega) _ (skip_lt hj)
theorem det_size {b : Nat} (hb : 0 < b) : ∀ (n : Nat) (M : Mat), TSz M n n b → RSz (det n M) (dsz n b)
  | 0, _, _ => RSz.one (show 0 < 1 by decide)
  | n + 1, M, h => by
    rw [det_succ, dsz_succ]
    exact sm_size (fun k hk => sg_size k _ ((h 0 (by omega) k hk).mul (det_size hb n _ (minor_size h k)))) (n + 1) (Nat.le_refl _)
end Go.Proofs.YtogakaiibijjpaaGreatDoor

/- The reference: Determinant. -/
set_option linter.unusedVariables false
set_option linter.unusedSimpArgs false
namespace Go.Proofs.YtogakaiibijjpaaGreatDoor
open Go.RowKit
open DDig DLin

theorem fcs_take {fs : List FV} {k j : Nat} {u : Value} (h : (fcs (fs.take k))[j]? = some u) : (fcs fs)[j]? = some u := by
  have e : fcs fs = fcs (fs.take k) ++ fcs (fs.drop k) := by rw [fcs, fcs, fcs, ← List.flatMap_append, List.take_append_drop]
  rw [e]
  exact app_get h
theorem fcs_drop {fs : List FV} {k j : Nat} {u : Value} (hk : k ≤ fs.length) (h : (fcs (fs.drop k))[j]? = some u) : (fcs fs)[k * 2 + j]? = some u := by
  have e : fcs fs = fcs (fs.take k) ++ fcs (fs.drop k) := by rw [fcs, fcs, fcs, ← List.flatMap_append, List.take_append_drop]
  have hl : (fcs (fs.take k)).length = k * 2 := by rw [fcs, flat_len fvc 2 (fun _ => rfl), List.length_take, Nat.min_eq_left hk]
  rw [e, List.getElem?_append_right (by omega), hl, Nat.add_sub_cancel_left]
  exact h
theorem minor_row {fs : List FV} {M : Mat} {i k n : Nat} (hl : fs.length = n + 1) (hk : k < n + 1) (h : ∀ j a, fs[j]? = some a → FR a (M (i + 1) j)) : ∀ j a, (fs.take k ++ fs.drop (k + 1))[j]? = some a → FR a (minor M k i j) := by
  intro j a hj
  have ht : (fs.take k).length = k := by rw [List.length_take]; omega
  show FR a (M (i + 1) (skip k j))
  unfold skip
  by_cases hjk : j < k
  · rw [if_pos hjk]
    rw [List.getElem?_append_left (by omega), List.getElem?_take_of_lt hjk] at hj
    exact h j a hj
  · rw [if_neg hjk]
    rw [List.getElem?_append_right (by omega), ht, List.getElem?_drop] at hj
    rw [show k + 1 + (j - k) = j + 1 by omega] at hj
    exact h (j + 1) a hj

set_option maxRecDepth 100000 in
set_option maxHeartbeats 8000000 in
theorem ref_det : ∀ (n : Nat) (w : World) (v : Value) (M : Mat) (b : Nat), MatF w v n n M → n ≤ 100 → 0 < b → TSz M n n b → dsz n b ≤ 10000000000 →
    Calls Tryz.prog 42 #[v] w (Ret w fun w' r => ∃ a : FV, r = a.v ∧ FR a (det n M)) := by
  intro n
  induction n with
  | zero =>
    intro w v M b h hn hb hs hsz
    obtain ⟨A0, c0, rfl, -, -, -⟩ := id h
    clear h hs hsz hb hn
    go_enter Tryz.func42, Tryz.ntmps42
    go_wp2_with fail
    obtain ⟨W, hW, hX, b0, -⟩ := setup1 w #[.string ⟨#[49]⟩, .string ⟨#[49]⟩] 84
    rw [hW]
    have c0 := b0.cell (j := 0) rfl
    have c1 := b0.cell (j := 1) rfl
    exact bodyPost_ret (v := FV.v ⟨⟨#[49]⟩, ⟨#[49]⟩⟩) (by simp [results, Tryz.results42, go_sem, c0, c1]) rfl ⟨⟨_, rfl, _, rfl, fone⟩, hX⟩
  | succ n ih =>
    intro w v M b h hn hb hs hsz
    obtain ⟨m, hm⟩ : ∃ m, m = n + 1 := ⟨_, rfl⟩
    have HM := Hid.mk hm
    rw [← hm] at h
    have H := Hid.mk h
    obtain ⟨A0, c0, rfl, -, -, p3⟩ := id h
    have HA := Hid.mk p3
    have HS := Hid.mk hs
    have HSZ := Hid.mk hsz
    have IH := Hid.mk ih
    have hb0 : ((m : Int) == 0) = false := by rw [beq_eq_false_iff_ne]; omega
    have hm101 : m ≤ 101 := by omega
    clear h p3 hs hsz ih hm
    go_enter Tryz.func42, Tryz.ntmps42
    go_upto_region 4 with (fail)
    obtain ⟨W, hW, hX, b0, b1⟩ := setup2f w #[.string ⟨#[]⟩, .string ⟨#[]⟩] #[.string ⟨#[48]⟩, .string ⟨#[49]⟩] 84 84
    rw [hW]
    clear hW
    have B0 := Hid.mk b0
    have B1 := Hid.mk b1
    have HXW := Hid.mk hX
    clear b0 b1 hX
    go_wp2_with fail
    go_loopw [4] (fun t4 wr => ∃ (k : Nat) (r : FV), k ≤ m ∧ t4 = .int .i64 k ∧ Blk wr w.heap.size 84 [.string ⟨#[]⟩, .string ⟨#[]⟩] ∧ Blk wr (w.heap.size + 1) 84 (fvc r) ∧ FR r (sm k fun k => DLin.sg k * (M 0 k * det n (minor M k))) ∧ X w wr) (fun t _ => m - (intOf t).toNat)
    case atStart => exact ⟨0, ⟨⟨#[48]⟩, ⟨#[49]⟩⟩, Nat.zero_le _, rfl, B0.out, B1.out, fzero, HXW.out⟩
    case round =>
      clear B0 B1 HXW
      obtain ⟨k, r, hk, rfl, hb0', hb1', hr, hx⟩ := hrel
      have HR := Hid.mk hr
      have HX := Hid.mk hx
      have B0 := Hid.mk hb0'
      have B1 := Hid.mk hb1'
      clear hr hx hb0' hb1'
      by_cases hkm : k < m
      · have hkm' : (k : Int) < (m : Int) := by omega
        obtain ⟨wo, hwo⟩ : ∃ wo, wo = wr := ⟨_, rfl⟩
        subst hwo
        go_wp2_with fail
        go_loopw [5, 6] (fun t5 t6 wr => ∃ (i q : Nat) (us : List Value), q = i + 1 ∧ q ≤ m ∧ t6 = .int .i64 q ∧ OwnC IsSl wr wo.heap.size 51 1 t5 i us ∧ us.length = i ∧ (∀ j u, us[j]? = some u → SlF wr u n (minor M k j)) ∧ X wo wr) (fun _ t _ => m - (intOf t).toNat)
        case atStart => exact ⟨0, 1, [], rfl, by omega, rfl, OwnC.nil _ _ _ _ _, rfl, by simp, X.refl _⟩
        case round =>
          obtain ⟨i, q, us, hq, hqm, rfl, ho, hl, hu, hx⟩ := hrel
          have HO := Hid.mk ho
          have HU := Hid.mk hu
          have HX5 := Hid.mk hx
          have HQ := Hid.mk hq
          clear ho hu hx
          by_cases hin : q < m
          · have hin' : (q : Int) < (m : Int) := by omega
            obtain ⟨b0, o0, rfl, gg⟩ := HA.out (by omega)
            obtain ⟨x, c1, hx⟩ := gg q hin
            obtain ⟨B2, d1, rfl, hd1, hB1, hrow⟩ := id hx
            obtain ⟨fs, hfl, hfr, hcl⟩ := hrow.list
            obtain ⟨b1, o1, rfl, -⟩ := hrow (by omega)
            rw [hq] at hfr
            have HFR : Hid (∀ j a, (fs.take k ++ fs.drop (k + 1))[j]? = some a → FR a (minor M k i j)) := minor_row (n := n) (by rw [hfl]; exact HM.out) (by rw [← HM.out]; exact hkm) hfr
            have hf1 : (fcs (fs.take k)).length = k * 2 := by rw [fcs, flat_len fvc 2 (fun _ => rfl), List.length_take]; congr 1; omega
            have hf2 : (fcs (fs.drop (k + 1))).length = (m - (k + 1)) * 2 := by rw [fcs, flat_len fvc 2 (fun _ => rfl), List.length_drop, hfl]
            have hf3 : (fs.take k ++ fs.drop (k + 1)).length = n := by rw [List.length_append, List.length_take, List.length_drop]; have := HM.out; omega
            have HN1 : Hid (∀ w', X wr w' → ∀ j u, (fcs (fs.take k))[j]? = some u → w'.cell? ((⟨b1, o1, none⟩ : Addr).add j) = some u) := fun w' h j u hj => by
              rw [add_off]; exact h.cell ((HX.out.trans HX5.out).cell (hcl _ _ rfl _ _ (fcs_take hj)))
            have HN2 : Hid (∀ w', X wr w' → ∀ ad, (if d1 = k + 1 then some (⟨b1, o1, none⟩ : Addr) else some ⟨b1, o1 + (k + 1) * 2, none⟩) = some ad → ∀ j u, (fcs (fs.drop (k + 1)))[j]? = some u → w'.cell? (ad.add j) = some u) := fun w' h ad had j u hj => by
              have hj2 := (List.getElem?_eq_some_iff.1 hj).1
              rw [hf2] at hj2
              rw [if_neg (by omega)] at had
              injection had with had
              subst had
              rw [add_off, Nat.add_assoc]; exact h.cell ((HX.out.trans HX5.out).cell (hcl _ _ rfl _ _ (fcs_drop (by omega) hj)))
            have HC := Hid.mk (fun w' (h : X wr w') => (h.cell ((HX.out.trans HX5.out).cell c1) : w'.cell? ⟨b0, o0 + q, none⟩ = some (.slice (some ⟨b1, o1, none⟩) m d1)))
            have HC4 := Hid.mk (fun w' (h : X wo w') => (h.cell (HX.out.cell c1) : w'.cell? ⟨b0, o0 + q, none⟩ = some (.slice (some ⟨b1, o1, none⟩) m d1)))
            have hS0 := HC.out wr (X.refl _)
            have hE1 : OwnC IsStr (wr.alloc (.cells #[] 84)).drew wr.heap.size 84 2 (.slice (some ⟨wr.heap.size, 0, none⟩) 0 0) 0 [] := own_empty IsStr (w0 := wr) ((Blk.new wr #[] 84).x (X.refl _).drew) (Nat.le_refl _)
            have hz1 : X wr (wr.alloc (.cells #[] 84)).drew := ((X.refl wr).alloc _).drew
            have HE1 := Hid.mk hE1
            have HZ1 := Hid.mk hz1
            have hk0 : (0 : Int) ≤ (k : Int) := by omega
            have hk1 : (k : Int) ≤ (d1 : Int) := by omega
            have hk2 : (0 : Int) ≤ (k : Int) + 1 := by omega
            have hk3 : (k : Int) + 1 ≤ (m : Int) := by omega
            have hk4 : (m : Int) ≤ (d1 : Int) := by omega
            have hm100 : m ≤ 101 := by have := HM.out; omega
            obtain ⟨p, hp⟩ : ∃ p, p = k + 1 := ⟨_, rfl⟩
            have hwrap : IntKind.i64.wrap ((k : Int) + 1) = (p : Int) := by rw [IntKind.wrap_i64]; omega
            rw [← hp] at HFR HN2 hf2 hf3
            have hp0 : (0 : Int) ≤ (p : Int) := by omega
            have hp1 : (p : Int) ≤ (m : Int) := by omega
            have hp2 : (p : Int) ≤ (d1 : Int) := by omega
            have HP := Hid.mk hp
            have hkn : k + (m - p) = n := by have := HM.out; omega
            have hi100 : i ≤ 101 := by have := HQ.out; omega
            clear c1 hx hrow hcl hfr gg hE1 hz1 hq hk2 hk3 hp
            · go_wp2_with fail
              go_region_held3 (fun w' => w'.cell? ⟨b0, o0 + q, none⟩ = some (.slice (some ⟨b1, o1, none⟩) m d1))
                (go_keep)
                (first
                  | (refine step_append_any IsStr wr _ rfl (.tmp 26) (.tmp 32) 51 rfl 84 (.agg #[.string ⟨#[]⟩, .string ⟨#[]⟩]) 2 32 Tryz.underlying51 info_F rfl (by omega) str_zero _ _ _ rfl HE1.out (some ⟨b1, o1, none⟩) k d1 (by simp) (fcs (fs.take k)) rfl hf1 (fun ad had => by injection had with had; subst had; exact HN1.out _ HZ1.out) (fcs_one _) (str_fcs _) (by clear hf1 hf2 hf3; omega) (by clear hf1 hf2 hf3; omega) HZ1.out ?_; intro v2 w2 ho2 hx2 hk2; have hS1 := HC.out w2 hx2; rw [Nat.zero_add, List.nil_append] at ho2)
                  | (refine step_append_any IsStr wr w2 rfl (.tmp 33) (.tmp 40) 51 rfl 84 (.agg #[.string ⟨#[]⟩, .string ⟨#[]⟩]) 2 32 Tryz.underlying51 info_F rfl (by omega) str_zero _ _ _ rfl ho2 (if d1 = p then some ⟨b1, o1, none⟩ else some ⟨b1, o1 + p * 2, none⟩) (m - p) (d1 - p) (by intro hB; split at hB <;> cases hB) (fcs (fs.drop p)) rfl hf2 (HN2.out _ hx2) (fcs_one _) (str_fcs _) (by clear hf1 hf2 hf3; omega) (by clear hf1 hf2 hf3; omega) hx2 ?_; intro v3 w3 ho3 hx3 hk3; have hS2 := HC.out w3 hx3; have hrow : SlF w3 v3 n (minor M k i) := SlF.own (fs := fs.take k ++ fs.drop p) (by rw [hkn] at ho3; rw [fcs, List.flatMap_append]; exact ho3.1) hf3 HFR.out; obtain ⟨RA, rc, rfl, q1, q2, q3⟩ := id hrow; have hO3 := HO.out.x hx3)
                  | (refine step_append_oneC IsSl wo _ rfl (.tmp 25) (.tmp 42) 26 rfl 51 (.slice none 0 0) 1 24 Tryz.underlying26 info_sF rfl (by omega) (fun u hu => ⟨none, 0, 0, by simpa [Value.cells] using hu⟩) _ _ _ rfl hO3 _ _ _ rfl rfl (by simp [Value.oneCell']) (fun u hu => ⟨RA, n, rc, by simpa using hu⟩) (by omega) (by omega) (HX5.out.trans hx3) ?_; intro v4 w4 ho4 hx4 hk4; have hS3 := HC4.out w4 hx4; have HO4 := Hid.mk ho4; have HX4 := Hid.mk hx4; have HU4 := Hid.mk (fun j u hj => ((HU.out j u hj).x hx3).kApp hO3 hk4); have HR4 := Hid.mk (hrow.kApp hO3 hk4); clear ho4 hx4 hk4))
              all_goals
                go_wp2_with fail
                go_roundw
                case rel => exact ⟨i + 1, q + 1, us ++ [.slice RA n rc], by have := HQ.out; omega, by omega, by go_num, HO4.out, by simp [hl], rows_snoc (S := SlF) hl HU4.out HR4.out, HX4.out⟩
                case measure => simp [intOf]; omega
          · have hin' : ¬ (q : Int) < (m : Int) := by omega
            have hi : i = n := by have := HQ.out; have := HM.out; omega
            have hT : MatF wr u5 n n (minor M k) := by
              have := SlM.own (S := SlF) (M := minor M k) (c := n) HO.out.1 hl HU.out
              rwa [hi] at this
            have HT := Hid.mk hT
            replace HX := Hid.mk (HX.out.trans HX5.out)
            replace B0 := Hid.mk (B0.out.x HX5.out)
            replace B1 := Hid.mk (B1.out.x HX5.out)
            obtain ⟨b3, o3, d3, b2, o2, a, rfl, c0, e0, e1, ha⟩ := (H.out.x HX.out).elem (i := 0) (by omega) hkm
            have HRA := Hid.mk ha
            have hm0 : 0 < m := by omega
            have hm0' : (0 : Int) < (m : Int) := by omega
            obtain ⟨TA, tc, rfl, -, -, -⟩ := id hT
            have HSM : Hid (TSz (minor M k) n n b) := minor_size HS.out k
            have HSD : Hid (dsz n b ≤ 10000000000 ∧ RSz (M 0 k) b ∧ RSz (det n (minor M k)) (dsz n b) ∧ b + dsz n b ≤ 10000000000) := by
              have h1 := HSZ.out
              rw [dsz_succ] at h1
              have h2 : b + dsz n b + 1 ≤ (n + 1) * (b + dsz n b + 1) := Nat.le_mul_of_pos_left _ (by omega)
              exact ⟨by omega, HS.out 0 (by omega) k (by have := HM.out; omega), det_size hb n _ HSM.out, by omega⟩
            clear hT HO HU hin hi hl ha HX5 hqm hq HQ
            obtain ⟨wi, hwi⟩ : ∃ wi, wi = wr := ⟨_, rfl⟩
            subst hwi
            go_upto_region 12 with (fail)
            go_cut [7] (fun t7 wc => ∃ (p : Nat) (r' : FV), t7 = .pointer (some ⟨p, 0, none⟩) ∧ wi.heap.size ≤ p ∧ Blk wc p 84 (fvc r') ∧ FR r' (M 0 k * det n (minor M k)) ∧ X wi wc)
            case first =>
              have HC := Hid.mk (fun w' (h : X wi w') => (⟨h.cell c0, h.cell e0, h.cell e1⟩ : w'.cell? ⟨b3, o3, none⟩ = some (.slice (some ⟨b2, o2, none⟩) m d3) ∧ w'.cell? ⟨b2, o2 + k * 2, none⟩ = some (.string a.p) ∧ w'.cell? ⟨b2, o2 + k * 2 + 1, none⟩ = some (.string a.q)))
              have hS0 := HC.out wi (X.refl _)
              have HZA : Hid (X wi wi.drew) := (X.refl wi).drew
              have HZB : Hid (X wi (wi.alloc (.cells #[.string ⟨#[]⟩, .string ⟨#[]⟩] 84)).drew) := ((X.refl wi).alloc _).drew
              have HBB : Hid (Blk (wi.alloc (.cells #[.string ⟨#[]⟩, .string ⟨#[]⟩] 84)).drew wi.heap.size 84 [.string ⟨#[]⟩, .string ⟨#[]⟩]) := (Blk.new wi _ _).x (X.refl _).drew
              clear c0 e0 e1
              go_region_held3 (fun w' => w'.cell? ⟨b3, o3, none⟩ = some (.slice (some ⟨b2, o2, none⟩) m d3) ∧ w'.cell? ⟨b2, o2 + k * 2, none⟩ = some (.string a.p) ∧ w'.cell? ⟨b2, o2 + k * 2 + 1, none⟩ = some (.string a.q))
                (go_keep)
                (first
                  | (go_at_call 42; refine (IH.out _ _ (minor M k) b (HT.out.x HZA.out) (by omega) hb HSM.out HSD.out.1).mono ?_; rintro e w5 ⟨⟨v5, rfl, r5, rfl, hr5⟩, hx5⟩; have hz5 := HZA.out.trans hx5; have hS1 := HC.out w5 hz5; have HR5 := Hid.mk hr5; clear hr5 hx5)
                  | (go_at_call 42; refine (IH.out _ _ (minor M k) b (HT.out.x HZB.out) (by omega) hb HSM.out HSD.out.1).mono ?_; rintro e w5 ⟨⟨v5, rfl, r5, rfl, hr5⟩, hx5⟩; have hbk := HBB.out.x hx5; have hz5 := HZB.out.trans hx5; have hS1 := HC.out w5 hz5; have HR5 := Hid.mk hr5; clear hr5 hx5)
                  | (go_at_call 59; have hbk' := hbk; refine (ref_fmul _ a r5 _ _ HRA.out HR5.out b (dsz n b) HSD.out.2.1 HSD.out.2.2.1 (by have := HSD.out.2.2.2; omega)).mono ?_; rintro e w6 ⟨⟨v6, rfl, r6, rfl, hr6⟩, hx6⟩; have hbF := hbk.x hx6; have hz6 := hz5.trans hx6; have hS2 := HC.out w6 hz6; have HR6 := Hid.mk hr6; have k0 := hbF.cell (j := 0) rfl; have k1 := hbF.cell (j := 1) rfl; have f0 := hbF.frozen 0; have f1 := hbF.frozen 1; have hS3 := HC.out _ ((hz6.set (p := ⟨wi.heap.size, 0, none⟩) (Nat.le_refl _) (.string r6.p)).set (p := ⟨wi.heap.size, 1, none⟩) (Nat.le_refl _) (.string r6.q)); clear hr6 hx6 hbk hbk')
                  | (go_at_call 59; refine (ref_fmul w5 a r5 _ _ HRA.out HR5.out b (dsz n b) HSD.out.2.1 HSD.out.2.2.1 (by have := HSD.out.2.2.2; omega)).mono ?_; rintro e w6 ⟨⟨v6, rfl, r6, rfl, hr6⟩, hx6⟩; have hz6 := hz5.trans hx6; have hS2 := HC.out w6 hz6; have HR6 := Hid.mk hr6; clear hr6 hx6)
                  | (go_at_call 59; refine (ref_fmul (w5.alloc (.cells #[.string ⟨#[]⟩, .string ⟨#[]⟩] 84)) a r5 _ _ HRA.out HR5.out b (dsz n b) HSD.out.2.1 HSD.out.2.2.1 (by have := HSD.out.2.2.2; omega)).mono ?_; rintro e w6 ⟨⟨v6, rfl, r6, rfl, hr6⟩, hx6⟩; have hbF : Blk w6 w5.heap.size 84 [.string ⟨#[]⟩, .string ⟨#[]⟩] := (Blk.new w5 _ _).x hx6; have hz6 := (hz5.alloc _).trans hx6; have hS2 := HC.out w6 hz6; have HR6 := Hid.mk hr6; have k0 := hbF.cell (j := 0) rfl; have k1 := hbF.cell (j := 1) rfl; have f0 := hbF.frozen 0; have f1 := hbF.frozen 1; have hsz5 := hz5.size; have hS3 := HC.out _ ((hz6.set (p := ⟨w5.heap.size, 0, none⟩) hsz5 (.string r6.p)).set (p := ⟨w5.heap.size, 1, none⟩) hsz5 (.string r6.q)); clear hr6 hx6))
              all_goals
                go_wp2_with fail
                go_meet
                first
                  | exact ⟨w6.heap.size, r6, rfl, hz6.size, Blk.new w6 _ _, HR6.out, hz6.alloc _⟩
                  | exact ⟨w5.heap.size, r6, rfl, hsz5, (hbF.set 0 (.string r6.p)).set 1 (.string r6.q), HR6.out, (hz6.set (p := ⟨w5.heap.size, 0, none⟩) hsz5 (.string r6.p)).set (p := ⟨w5.heap.size, 1, none⟩) hsz5 (.string r6.q)⟩
                  | exact ⟨wi.heap.size, r6, rfl, Nat.le_refl _, (hbF.set 0 (.string r6.p)).set 1 (.string r6.q), HR6.out, (hz6.set (p := ⟨wi.heap.size, 0, none⟩) (Nat.le_refl _) (.string r6.p)).set (p := ⟨wi.heap.size, 1, none⟩) (Nat.le_refl _) (.string r6.q)⟩
            case rest =>
              obtain ⟨p, r7, rfl, hp, hbk, hr7, hxc⟩ := hcut
              have HPW := Hid.mk hp
              have HPN : Hid (w.heap.size + 1 < p) := by
                have h1 := (B1.out).lt
                exact Nat.lt_of_lt_of_le h1 hp
              replace HX := Hid.mk (HX.out.trans hxc)
              replace B0 := Hid.mk (B0.out.x hxc)
              replace B1 := Hid.mk (B1.out.x hxc)
              have BK := Hid.mk hbk
              have HR7 := Hid.mk hr7
              obtain ⟨x, hx⟩ : ∃ x, x = M 0 k * det n (minor M k) := ⟨_, rfl⟩
              obtain ⟨s, hs⟩ : ∃ s, s = sm k fun k => DLin.sg k * (M 0 k * det n (minor M k)) := ⟨_, rfl⟩
              have HNEXT : Hid (s + DLin.sg k * x = sm (k + 1) fun k => DLin.sg k * (M 0 k * det n (minor M k))) := by rw [sm_succ, hs, hx]; exact Hid.mk rfl
              have HSX : Hid (RSz x (b + dsz n b)) := by rw [hx]; exact Hid.mk (HSD.out.2.1.mul HSD.out.2.2.1)
              have HSS : Hid (RSz s (k * (b + dsz n b + 1) + 1) ∧ k * (b + dsz n b + 1) + 1 + (b + dsz n b) ≤ 20000000000) := by
                refine Hid.mk ⟨?_, ?_⟩
                · rw [hs]
                  exact sm_size (n := m) (fun t ht => sg_size t _ ((HS.out 0 (by omega) t (by have := HM.out; omega)).mul (det_size hb n _ (minor_size HS.out t)))) k (by omega)
                · have h1 := HSZ.out
                  rw [dsz_succ, ← HM.out] at h1
                  have h2 := HSD.out.2.2.2
                  have h3 : (k + 1) * (b + dsz n b + 1) ≤ m * (b + dsz n b + 1) := Nat.mul_le_mul_right _ hkm
                  rw [Nat.succ_mul] at h3
                  omega
              rw [← hx] at HR7
              rw [← hs] at HR
              obtain ⟨B, hB⟩ : ∃ B, B = b + dsz n b := ⟨_, rfl⟩
              rw [← hB] at HSX HSS
              have HBB : Hid (B ≤ 10000000000) := by rw [hB]; exact Hid.mk HSD.out.2.2.2
              clear hp hbk hr7 hxc c0 e0 e1 hx hs hB HT HRA H HA HSM HSD
              have hne0 : p ≠ w.heap.size := by have := HPN.out; omega
              have hne1 : p ≠ w.heap.size + 1 := by have := HPN.out; omega
              have hge : w.heap.size ≤ p := by have := HPN.out; omega
              have hb4 := BK.out
              have k0 := hb4.cell (j := 0) rfl; have k1 := hb4.cell (j := 1) rfl; have f0 := hb4.frozen 0; have f1 := hb4.frozen 1
              clear hb4
              go_upto_if 55 with (fail)
              go_cut [] (fun we => ∃ r8 : FV, Blk we p 84 (fvc r8) ∧ FR r8 (DLin.sg k * x) ∧ Blk we w.heap.size 84 [.string ⟨#[]⟩, .string ⟨#[]⟩] ∧ Blk we (w.heap.size + 1) 84 (fvc r) ∧ X w we)
              case first =>
                by_cases hodd : k % 2 = 1
                · have hsg : DLin.sg k * x = - x := by rw [sg_cases, if_pos hodd, Rat.neg_mul, Rat.one_mul]
                  have hb2 : ((k : Int) % 2 == 1) = true := by rw [beq_iff_eq]; omega
                  have HSG := Hid.mk hsg
                  clear hsg
                  go_wp2_with fail
                  refine (ref_fneg _ r7 x HR7.out B HSX.out (by have := HBB.out; omega)).mono ?_
                  rintro e w8 ⟨⟨v8, rfl, r8, rfl, hr8⟩, hx8⟩
                  have HR8 := Hid.mk hr8
                  have hb4 := BK.out.x hx8
                  clear k0 k1 f0 f1
                  have k0 := hb4.cell (j := 0) rfl; have k1 := hb4.cell (j := 1) rfl; have f0 := hb4.frozen 0; have f1 := hb4.frozen 1
                  have HF := Hid.mk (⟨(hb4.set 0 (.string r8.p)).set 1 (.string r8.q), by rw [HSG.out]; exact hr8, ((B0.out.x hx8).other (p := ⟨p, 0, none⟩) hne0 (.string r8.p)).other (p := ⟨p, 1, none⟩) hne0 (.string r8.q), ((B1.out.x hx8).other (p := ⟨p, 0, none⟩) hne1 (.string r8.p)).other (p := ⟨p, 1, none⟩) hne1 (.string r8.q), ((HX.out.trans hx8).set (p := ⟨p, 0, none⟩) hge (.string r8.p)).set (p := ⟨p, 1, none⟩) hge (.string r8.q)⟩ : _ ∧ FR r8 (DLin.sg k * x) ∧ _ ∧ _ ∧ _)
                  clear hb4 hr8 hx8
                  go_wp2_with fail
                  go_meet
                  exact ⟨r8, HF.out⟩
                · have hsg : DLin.sg k * x = x := by rw [sg_cases, if_neg hodd, Rat.one_mul]
                  have hb2 : ((k : Int) % 2 == 1) = false := by rw [beq_eq_false_iff_ne]; omega
                  have HSG := Hid.mk hsg
                  clear hsg
                  go_wp2_with fail
                  go_meet
                  exact ⟨r7, BK.out, by rw [HSG.out]; exact HR7.out, B0.out, B1.out, HX.out⟩
              case rest =>
                obtain ⟨r8, hb8, hr8, hb80, hb81, hx8⟩ := hcut
                have HR8 := Hid.mk hr8
                have HY := Hid.mk hx8
                have C0 := Hid.mk hb80
                have C1 := Hid.mk hb81
                have HSX8 : Hid (RSz (DLin.sg k * x) B) := sg_size k _ HSX.out
                clear k0 k1 f0 f1 B0 B1 BK HR7
                have k0 := hb8.cell (j := 0) rfl; have k1 := hb8.cell (j := 1) rfl; have f0 := hb8.frozen 0; have f1 := hb8.frozen 1
                have c0 := hb81.cell (j := 0) rfl; have c1 := hb81.cell (j := 1) rfl
                clear hr8 hx8 hb80 hb81 hb8
                go_wp2_with fail
                refine (ref_fadd _ r r8 s (DLin.sg k * x) HR.out HR8.out _ B HSS.out.1 HSX8.out HSS.out.2).mono ?_
                rintro e w9 ⟨⟨v9, rfl, r9, rfl, hr9⟩, hx9⟩
                have HR9 := Hid.mk hr9
                have hb9 := C1.out.x hx9
                clear c0 c1 k0 k1 f0 f1
                have k0 := hb9.cell (j := 0) rfl; have k1 := hb9.cell (j := 1) rfl; have f0 := hb9.frozen 0; have f1 := hb9.frozen 1
                have HB0 := Hid.mk (((C0.out.x hx9).other (p := ⟨w.heap.size + 1, 0, none⟩) (by simp) (.string r9.p)).other (p := ⟨w.heap.size + 1, 1, none⟩) (by simp) (.string r9.q))
                have HB1 := Hid.mk ((hb9.set 0 (.string r9.p)).set 1 (.string r9.q))
                have HXN := Hid.mk (((HY.out.trans hx9).set (p := ⟨w.heap.size + 1, 0, none⟩) (by simp) (.string r9.p)).set (p := ⟨w.heap.size + 1, 1, none⟩) (by simp) (.string r9.q))
                clear hb9 hr9 hx9
                go_wp2_with fail
                go_roundw
                case rel => exact ⟨k + 1, r9, by omega, by go_num, HB0.out, HB1.out, by rw [← HNEXT.out]; exact HR9.out, HXN.out⟩
                case measure => simp [intOf]; omega
      · obtain rfl : k = m := by omega
        have hkm' : ¬ (k : Int) < (k : Int) := by omega
        have p2 := B0.out
        have p3 := B1.out
        have c0 := p3.cell (j := 0) rfl; have c1 := p3.cell (j := 1) rfl
        have k0 := p2.cell (j := 0) rfl; have k1 := p2.cell (j := 1) rfl; have f0 := p2.frozen 0; have f1 := p2.frozen 1
        have K := two_cells (w := wr) (g := w.heap.size) (.string r.p) (.string r.q) k0 k1
        have HXF := Hid.mk ((HX.out.set (p := ⟨w.heap.size, 0, none⟩) (Nat.le_refl _) (.string r.p)).set (p := ⟨w.heap.size, 1, none⟩) (Nat.le_refl _) (.string r.q))
        have HRF : Hid (FR r (det (n + 1) M)) := by rw [det_succ, ← HM.out]; exact HR
        clear p2 p3 hkm hk
        go_wp2_with fail
        exact bodyPost_ret (v := r.v) (by simp [results, Tryz.results42, go_sem, K.1, K.2]) rfl ⟨⟨_, rfl, r, rfl, HRF.out⟩, HXF.out⟩
end Go.Proofs.YtogakaiibijjpaaGreatDoor

/- slices.Grow, slices.Concat of rows of rationals. -/
set_option linter.unusedVariables false
set_option linter.unusedSimpArgs false
namespace Go.Proofs.YtogakaiibijjpaaGreatDoor
open Go.RowKit
open DDig DLin

/-- 'append(out, xs...)' onto a row of one sort, xs nil or not. -/
theorem append_any {P : Program} (C : Value → Prop) (w0 w : World) {ops : Array Oper} {rest : List Oper} {o : Oper} {a : Act} {Q : Exit → Act → World → Prop} (hgd : o.guard = none) (s x : Operand) (t : TypeId)
    (ho : o.op = .call { callee := .builtin .append, args := #[s, x], argTypes := #[t, t] })
    (e : TypeId) (z : Value) (size bytes : Nat) (ht : P.underlying t = some (.slice e)) (h2 : (P.info? e).map (fun i => (i.zero, i.size, i.bytes)) = some (some z, size, bytes)) (hzs : z.cells.size = size) (hsz : 0 < size) (hzc : ∀ u ∈ z.cells.toList, C u)
    (v : Value) (n : Nat) (xs : List Value) (hs : a.eval s = v) (hown : OwnC C w w0.heap.size e size v n xs)
    (B : Option Addr) (m c : Nat) (hB : B = none → m = 0 ∧ c = 0) (news : List Value) (hx : a.eval x = .slice B m c) (hl : news.length = m * size) (hnews : ∀ ad, B = some ad → ∀ j u, news[j]? = some u → w.cell? (ad.add j) = some u) (h1 : ∀ u ∈ news, u.oneCell' = true) (hnc : ∀ u ∈ news, C u)
    (h63 : n + m ≤ 9223372036854775807) (hbytes : (n + m) * bytes ≤ 140737488355328) (hX : X w0 w)
    (h : ∀ v' w', OwnC C w' w0.heap.size e size v' (n + m) (xs ++ news) → X w0 w' → (∀ b, b < w.heap.size → v.ownBlock ≠ some b → w'.heap[b]? = w.heap[b]?) → wpList P ops Q rest (a.put o.dst v') w') : wpList P ops Q (o :: rest) a w := by
  cases B with
  | some ad => exact append_C C w0 w hgd s x t ho e z size bytes ht h2 hzs hsz hzc v n xs hs hown ad m c news hx hl (hnews ad rfl) h1 hnc h63 hbytes hX h
  | none =>
    obtain ⟨rfl, rfl⟩ := hB rfl
    have hn : news = [] := List.eq_nil_of_length_eq_zero (by rw [hl, Nat.zero_mul])
    subst hn
    obtain ⟨i, hi, e1, e2, e3⟩ := info_parts h2
    have hrun := run_append_owned_none (P := P) (w := w) w0.heap.size t o.type e i size ht hi v n xs hown.1
    exact Lib.wpList_append_run w hgd s x t t ho v (.slice none 0 0) hs hx _ _ hrun (h v w (by simpa using hown) hX (fun b _ _ => rfl))

theorem zeros_C {C : Value → Prop} {z : Array Value} {n m : Nat} (hz : ∀ u ∈ z.toList, C u) : ∀ u ∈ (Builtin.zeroCells z n ++ Builtin.zeroCells z m).toList, C u := by
  intro u hu
  rw [Array.toList_append, List.mem_append] at hu
  rcases hu with hu | hu <;> exact hz u (zeroCells_mem hu)
theorem own_zeros {C : Value → Prop} (w : World) {e : TypeId} {z : Array Value} {size n c : Nat} (hz : ∀ u ∈ z.toList, C u) (hzs : z.size = size) (hn : n ≤ c) (hc : c ≤ maxLen) :
    OwnC C (w.drew.alloc (.cells (Builtin.zeroCells z n ++ Builtin.zeroCells z (c - n)) e)) w.heap.size e size (.slice (some ⟨w.heap.size, 0, none⟩) 0 c) 0 [] := by
  refine ⟨⟨by simp, Or.inr ⟨w.heap.size, c, _, rfl, Nat.le_refl _, heap_alloc_new w.drew _, by omega, hc, ?_, by simp⟩⟩, fun b hb => ?_⟩
  · simp [Builtin.zeroCells, hzs]
    rw [← Nat.add_mul]
    congr 1
    omega
  · simp [Value.ownBlock] at hb
    subst hb
    exact ⟨_, Blk.ofA (heap_alloc_new w.drew _), zeros_C hz⟩

set_option maxRecDepth 100000 in
set_option maxHeartbeats 4000000 in
theorem grow_q (w : World) (n : Nat) (hn : n ≤ 1000) :
    Calls Tryz.prog 100 #[.slice none 0 0, .int .i64 n] w (Ret w fun w' v' => OwnC NI w' w.heap.size 71 4 v' 0 []) := by
  have hn1 : ¬ (n : Int) < 0 := by omega
  by_cases h0 : 0 < n
  · have h0' : (0 : Int) < (n : Int) := by omega
    obtain ⟨i, hi, e1, e2, e3⟩ := info_parts info_Q
    have hr := Lib.run_append_nil_zeros (P := Tryz.prog) w 49 3 49 71 i _ .i64 .i64 Tryz.underlying49 Tryz.underlying3 hi e1 n h0 (by omega) (by omega) (by rw [e3]; omega)
    obtain ⟨c, hc⟩ : ∃ c, c = grownCap w n 0 71 := ⟨_, rfl⟩
    rw [← hc] at hr
    have hO := own_zeros (C := NI) w (e := 71) (n := n) (c := c) (size := 4) ni_zero rfl (by rw [hc]; exact grownCap_ge _ _ _ _) (by rw [hc]; exact grownCap_le_maxLen _ _ _ _ (by simp only [maxLen]; omega))
    have hnc : n ≤ c := by rw [hc]; exact grownCap_ge _ _ _ _
    have hx : X w (w.drew.alloc (.cells (Builtin.zeroCells (Value.agg #[.bool false, .slice none 0 0, .bool false, .slice none 0 0]).cells n ++ Builtin.zeroCells (Value.agg #[.bool false, .slice none 0 0, .bool false, .slice none 0 0]).cells (c - n)) 71)) := ((X.refl w).drew).alloc _
    have HO := Hid.mk hO
    have HR := Hid.mk hr
    have HX := Hid.mk hx
    have hnc' : (n : Int) ≤ (c : Int) := by omega
    have hc0 : (0 : Int) ≤ (c : Int) := by omega
    clear hO hr hx hc e1 e2 e3 hi
    go_enter Tryz.func100, Tryz.ntmps100
    go_wp2_with (at_builtin; refine Lib.wpList_append_run _ rfl _ _ _ _ rfl _ _ rfl rfl _ _ HR.out ?_)
    exact bodyPost_ret (v := .slice (some ⟨w.heap.size, 0, none⟩) 0 c) (by simp [results, Tryz.results100, go_sem]) rfl ⟨⟨_, rfl, HO.out⟩, HX.out⟩
  · obtain rfl : n = 0 := by omega
    go_enter Tryz.func100, Tryz.ntmps100
    go_wp2_with fail
    go_ret
    exact ⟨⟨_, rfl, OwnC.nil _ _ _ _ _⟩, X.refl w⟩

/-- The count behind the first rows of two. -/
def pre2 (n m : Nat) : Nat → Nat
  | 0 => 0
  | 1 => n
  | _ => n + m
def pre2l (xs ys : List QV) : Nat → List QV
  | 0 => []
  | 1 => xs
  | _ => xs ++ ys
theorem two_rows {xs ys : List QV} {n m : Nat} {f e : Nat → Rat} {w : World} (hl : xs.length = n) (hl' : ys.length = m) (h : ∀ j a, xs[j]? = some a → RatR w a (f j)) (h' : ∀ j a, ys[j]? = some a → RatR w a (e j)) :
    ∀ j a, (xs ++ ys)[j]? = some a → RatR w a ((fun j => if j < n then f j else e (j - n)) j) := by
  intro j a hj
  show RatR w a (if j < n then f j else e (j - n))
  by_cases hjn : j < n
  · rw [if_pos hjn]
    rw [List.getElem?_append_left (by omega)] at hj
    exact h j a hj
  · rw [if_neg hjn]
    rw [List.getElem?_append_right (by omega), hl] at hj
    exact h' _ a hj

set_option maxRecDepth 100000 in
set_option maxHeartbeats 4000000 in
theorem concat_q (w : World) (b o c : Nat) (u v : Value) (n m : Nat) (f e : Nat → Rat) (c0 : w.cell? ⟨b, o, none⟩ = some u) (c1 : w.cell? ⟨b, o + 1, none⟩ = some v) (h : SlQ w u n f) (h' : SlQ w v m e) (hn : n ≤ 500) (hm : m ≤ 500) :
    Calls Tryz.prog 79 #[.slice (some ⟨b, o, none⟩) 2 c] w (Ret w fun w' v' => SlQ w' v' (n + m) (fun j => if j < n then f j else e (j - n))) := by
  obtain ⟨A1, k1, rfl, -, hA1, h1⟩ := h
  obtain ⟨A2, k2, rfl, -, hA2, h2⟩ := h'
  obtain ⟨xs, hxl, hxr, hxc⟩ := h1.list
  obtain ⟨ys, hyl, hyr, hyc⟩ := h2.list
  have HX1 : Hid (∀ w', X w w' → ∀ ad, A1 = some ad → ∀ j u, (qcs xs)[j]? = some u → w'.cell? (ad.add j) = some u) := fun w' hx ad had j u hj => by
    by_cases h0 : 0 < n
    · obtain ⟨b', o', e', -⟩ := h1 h0
      rw [e'] at had
      injection had with had
      subst had
      rw [add_off]
      exact hx.cell (hxc b' o' e' j u hj)
    · have : xs = [] := List.eq_nil_of_length_eq_zero (by omega)
      subst this
      simp [qcs] at hj
  have HX2 : Hid (∀ w', X w w' → ∀ ad, A2 = some ad → ∀ j u, (qcs ys)[j]? = some u → w'.cell? (ad.add j) = some u) := fun w' hx ad had j u hj => by
    by_cases h0 : 0 < m
    · obtain ⟨b', o', e', -⟩ := h2 h0
      rw [e'] at had
      injection had with had
      subst had
      rw [add_off]
      exact hx.cell (hyc b' o' e' j u hj)
    · have : ys = [] := List.eq_nil_of_length_eq_zero (by omega)
      subst this
      simp [qcs] at hj
  have HR1 := Hid.mk hxr
  have HR2 := Hid.mk hyr
  have HA1 := Hid.mk hA1
  have HA2 := Hid.mk hA2
  have hq1 : (qcs xs).length = n * 4 := by rw [qcs, flat_len qvc 4 (fun _ => rfl), hxl]
  have hq2 : (qcs ys).length = m * 4 := by rw [qcs, flat_len qvc 4 (fun _ => rfl), hyl]
  have HQ1 := Hid.mk hq1
  have HQ2 := Hid.mk hq2
  have hw1 : IntKind.i64.wrap (0 + (n : Int)) = (n : Int) := by rw [IntKind.wrap_i64]; omega
  have hw1' : IntKind.i64.wrap (n : Int) = (n : Int) := by rw [IntKind.wrap_i64]; omega
  have hw2 : IntKind.i64.wrap ((n : Int) + (m : Int)) = ((n + m : Nat) : Int) := by rw [IntKind.wrap_i64]; omega
  have hn0 : ¬ (n : Int) < 0 := by omega
  have hnm0 : ¬ ((n + m : Nat) : Int) < 0 := by omega
  clear h1 h2 hxc hyc hxr hyr hA1 hA2 hq1 hq2
  go_enter Tryz.func79, Tryz.ntmps79
  go_wp2_with fail
  go_loopw [3, 11] (fun t3 t11 wr => ∃ i : Nat, i ≤ 2 ∧ t3 = .int .i64 (pre2 n m i : Nat) ∧ t11 = .int .i64 i ∧ wr = w) (fun _ t _ => 2 - (intOf t).toNat)
  case atStart => exact ⟨0, by omega, rfl, rfl, rfl⟩
  case round =>
    obtain ⟨i, hi, rfl, rfl, rfl⟩ := hrel
    by_cases hi0 : i = 0
    · subst hi0
      simp only [pre2]
      go_wp2_with fail
      go_roundw
      case rel => refine ⟨1, by omega, ?_⟩; simp [pre2]
      case measure => simp [intOf]
    · by_cases hi1 : i = 1
      · subst hi1
        simp only [pre2]
        go_wp2_with fail
        go_roundw
        case rel => refine ⟨2, by omega, ?_⟩; simp [pre2]
        case measure => simp [intOf]
      · obtain rfl : i = 2 := by omega
        simp only [pre2]
        clear hi hi0 hi1
        go_wp2_with fail
        refine (grow_q _ (n + m) (by omega)).mono ?_
        rintro e1 w1 ⟨⟨v1, rfl, ho⟩, hx1⟩
        have HO := Hid.mk ho
        have HX := Hid.mk hx1
        clear ho hx1
        obtain ⟨w5, hw5⟩ : ∃ w5, w5 = wr := ⟨_, rfl⟩
        subst hw5
        go_wp2_with fail
        go_loopw [6, 27] (fun t6 t27 wr => ∃ i : Nat, i ≤ 2 ∧ t27 = .int .i64 i ∧ OwnC NI wr w5.heap.size 71 4 t6 (pre2 n m i) (qcs (pre2l xs ys i)) ∧ X w5 wr) (fun _ t _ => 2 - (intOf t).toNat)
        case atStart => exact ⟨0, by omega, rfl, HO.out, HX.out⟩
        case round =>
          clear HO HX
          obtain ⟨i, hi, rfl, ho, hx⟩ := hrel
          have HO := Hid.mk ho
          have HX := Hid.mk hx
          clear ho hx
          by_cases hi0 : i = 0
          · subst hi0
            have k0 := HX.out.cell c0
            clear c0 c1
            go_wp2_with (at_builtin; refine append_any NI w5 _ rfl _ _ 49 rfl 71 (.agg #[.bool false, .slice none 0 0, .bool false, .slice none 0 0]) 4 64 Tryz.underlying49 info_Q rfl (by omega) ni_zero _ _ _ rfl HO.out A1 n k1 HA1.out (qcs xs) rfl HQ1.out (HX1.out _ HX.out) (qcs_one xs) (ni_qcs xs) (by simp only [pre2]; omega) (by simp only [pre2]; omega) HX.out ?_; intro v9 w9 ho9 hx9 hk9; have HO9 := Hid.mk ho9; have HX9 := Hid.mk hx9; clear ho9 hx9 hk9)
            go_roundw
            case rel => exact ⟨1, by omega, rfl, by simpa [pre2, pre2l, qcs] using HO9.out, HX9.out⟩
            case measure => simp [intOf]
          · by_cases hi1 : i = 1
            · subst hi1
              have k1' := HX.out.cell c1
              clear c0 c1
              go_wp2_with (at_builtin; refine append_any NI w5 _ rfl _ _ 49 rfl 71 (.agg #[.bool false, .slice none 0 0, .bool false, .slice none 0 0]) 4 64 Tryz.underlying49 info_Q rfl (by omega) ni_zero _ _ _ rfl HO.out A2 m k2 HA2.out (qcs ys) rfl HQ2.out (HX2.out _ HX.out) (qcs_one ys) (ni_qcs ys) (by simp only [pre2]; omega) (by simp only [pre2]; omega) HX.out ?_; intro v9 w9 ho9 hx9 hk9; have HO9 := Hid.mk ho9; have HX9 := Hid.mk hx9; clear ho9 hx9 hk9)
              go_roundw
              case rel => exact ⟨2, by omega, rfl, by simpa [pre2, pre2l, qcs] using HO9.out, HX9.out⟩
              case measure => simp [intOf]
            · obtain rfl : i = 2 := by omega
              have hrow := SlQ.own (f := fun j => if j < n then f j else e (j - n)) (fs := xs ++ ys) HO.out.1 (by simp [pre2, hxl, hyl]) (two_rows hxl hyl (fun j a ha => (HR1.out j a ha).x HX.out) (fun j a ha => (HR2.out j a ha).x HX.out))
              have HROW := Hid.mk hrow
              clear hrow hi hi0 hi1 c0 c1 HO
              go_wp2_with fail
              go_ret
              exact ⟨⟨_, rfl, HROW.out⟩, HX.out⟩
end Go.Proofs.YtogakaiibijjpaaGreatDoor

/- Package matrix: Inverse; square, Determinant and Inverse of what is not square. -/
set_option linter.unusedVariables false
set_option linter.unusedSimpArgs false
namespace Go.Proofs.YtogakaiibijjpaaGreatDoor
open Go.RowKit
open DDig DLin

theorem mat_square_no (w : World) (v : Value) (m c : Nat) (M : Mat) (h : MatQ w v m c M) (hm : m ≤ 96) (hc : c ≤ 96) (h0 : 0 < m) (hmc : c ≠ m) :
    Calls Tryz.prog 78 #[v] w (Ret w fun w' v' => v' = .int .i64 13) := by
  have H := Hid.mk h
  obtain ⟨A0, c0, rfl, p1, p2, p3⟩ := id h
  clear h p1 p2 p3
  have h0' : (0 : Int) < (m : Int) := by omega
  have hnn : ((c : Int) != (m : Int)) = true := by rw [bne_iff_ne]; omega
  go_enter Tryz.func78, Tryz.ntmps78
  go_wp2_with fail
  refine (mat_size _ _ m c M H.out (by omega) hc).mono ?_
  rintro e w1 ⟨⟨v1, rfl, rfl⟩, hx1⟩
  have HX := Hid.mk hx1
  clear hx1
  go_wp2_with fail
  refine (mat_columns _ _ m c M (H.out.x HX.out) (by omega) c (by rw [if_neg (by omega)])).mono ?_
  rintro e w2 ⟨⟨v2, rfl, rfl⟩, hx2⟩
  have HX2 := Hid.mk (HX.out.trans hx2)
  clear hx2
  go_wp2_with fail
  go_ret
  exact ⟨⟨_, rfl, rfl⟩, HX2.out⟩

/-- The zero of a rational, as a value. -/
theorem mat_det_no (w : World) (v : Value) (m c : Nat) (M : Mat) (h : MatQ w v m c M) (hm : m ≤ 96) (hc : c ≤ 96) (h0 : 0 < m) (hmc : c ≠ m) :
    Calls Tryz.prog 38 #[v] w (Ret w fun w' v' => ∃ r : QV, v' = .tuple #[r.v, .int .i64 13] ∧ RatR w' r 0) := by
  have H := Hid.mk h
  obtain ⟨A0, c0, rfl, p1, p2, p3⟩ := id h
  clear h p1 p2 p3
  go_enter Tryz.func38, Tryz.ntmps38
  go_wp2_with fail
  obtain ⟨W, hW, hX, b0, hWs⟩ := setup1 w #[.bool false, .slice none 0 0, .bool false, .slice none 0 0] 71
  rw [hW]
  clear hW
  have B0 := Hid.mk b0
  have HX := Hid.mk hX
  clear b0 hX
  refine (mat_square_no _ _ m c M (H.out.x HX.out) hm hc h0 hmc).mono ?_
  rintro e w1 ⟨⟨v1, rfl, rfl⟩, hx1⟩
  replace HX := Hid.mk (HX.out.trans hx1)
  replace B0 := Hid.mk (B0.out.x hx1)
  clear hx1
  have hb0 := B0.out
  have k0 := hb0.cell (j := 0) rfl; have k1 := hb0.cell (j := 1) rfl; have k2 := hb0.cell (j := 2) rfl; have k3 := hb0.cell (j := 3) rfl; have f0 := hb0.frozen 0; have f1 := hb0.frozen 1; have f2 := hb0.frozen 2; have f3 := hb0.frozen 3
  have K := four_cells hb0 (.bool false) (.slice none 0 0) (.bool false) (.slice none 0 0)
  have HR : Hid (RatR (put4 w1 w.heap.size ⟨false, none, 0, 0, false, none, 0, 0⟩) ⟨false, none, 0, 0, false, none, 0, 0⟩ 0) := (RatR.whole (IntR.zero w1)).put4 hb0 _
  have HXF := Hid.mk (HX.out.put4 (Nat.le_refl _) ⟨false, none, 0, 0, false, none, 0, 0⟩)
  clear hb0
  go_wp2_with fail
  exact bodyPost_ret (v := .tuple #[.agg #[.bool false, .slice none 0 0, .bool false, .slice none 0 0], .int .i64 13]) (by simp [results, Tryz.results38, go_sem, K.1, K.2.1, K.2.2.1, K.2.2.2]) rfl ⟨⟨_, rfl, ⟨false, none, 0, 0, false, none, 0, 0⟩, rfl, HR.out⟩, HXF.out⟩

theorem mat_inverse_no (w : World) (v : Value) (m c : Nat) (M : Mat) (h : MatQ w v m c M) (hm : m ≤ 96) (hc : c ≤ 96) (h0 : 0 < m) (hmc : c ≠ m) :
    Calls Tryz.prog 39 #[v] w (Ret w fun w' v' => v' = .tuple #[.slice none 0 0, .int .i64 13]) := by
  have H := Hid.mk h
  obtain ⟨A0, c0, rfl, p1, p2, p3⟩ := id h
  clear h p1 p2 p3
  go_enter Tryz.func39, Tryz.ntmps39
  go_wp2_with fail
  refine (mat_square_no _ _ m c M H.out hm hc h0 hmc).mono ?_
  rintro e w1 ⟨⟨v1, rfl, rfl⟩, hx1⟩
  have HX := Hid.mk hx1
  clear hx1
  go_wp2_with fail
  go_ret2
  exact ⟨⟨_, rfl, rfl⟩, HX.out⟩

theorem beside_row {n i : Nat} (M : Mat) (hi : i < n) : ∀ j, j < n + n → (if j < n then M i j else one i (j - n)) = beside n M i j := fun j hj => by
  unfold beside one
  by_cases h : j < n
  · rw [if_pos h, if_pos h]
  · rw [if_neg h, if_neg h]
    by_cases e : i = j - n
    · rw [if_pos e, if_pos (by omega)]
    · rw [if_neg e, if_neg (by omega)]
theorem beside_size {n b : Nat} {M : Mat} (hb : 0 < b) (h : TSz M n n b) : TSz (beside n M) n (n + n) b := fun i hi j hj => by
  unfold beside
  split
  · exact h i hi j (by omega)
  · split
    · exact RSz.one hb
    · exact RSz.zero hb

/-- What Inverse answers for a square matrix. -/
def InvP (n : Nat) (s : St) (w' : World) (r : Value) : Prop :=
  (s.piv.length = n → ∃ Q, r = .tuple #[Q, .int .i64 0] ∧ MatQ w' Q n n (fun i j => s.M i (n + j))) ∧ (s.piv.length < n → r = .tuple #[.slice none 0 0, .int .i64 20])
theorem SlQ.part {w : World} {b o k d N : Nat} {c : Nat} {f : Nat → Rat} (h : SlQ w (.slice (some ⟨b, o, Option.none⟩) N c) N f) (hN : N = k + d) : SlQ w (.slice (some ⟨b, o + k * 4, Option.none⟩) (N - k) (c - k)) d (fun j => f (k + j)) := by
  obtain rfl : d = N - k := by omega
  obtain ⟨A, c', e, h1, h2, h3⟩ := h
  injection e with e1 e2 e3
  subst e1
  subst e3
  refine ⟨_, _, rfl, by omega, by simp, fun h0 => ⟨b, o + k * 4, rfl, fun j hj => ?_⟩⟩
  obtain ⟨b', o', e', g⟩ := h3 (by omega)
  injection e' with e'
  injection e' with e1 e2
  subst e1
  subst e2
  obtain ⟨a, g0, g1, g2, g3, g4⟩ := g (k + j) (by omega)
  rw [Nat.add_mul] at g0 g1 g2 g3
  rw [← Nat.add_assoc] at g0 g1 g2 g3
  exact ⟨a, g0, g1, g2, g3, g4⟩

set_option maxRecDepth 100000 in
set_option maxHeartbeats 8000000 in
theorem mat_inverse (w : World) (v : Value) (n : Nat) (M : Mat) (h : MatQ w v n n M) (hn : n ≤ 96) (b : Nat) (hb : 0 < b) (hs : TSz M n n b) (hsz : 5 ^ (n + 1) * b ≤ 100000000000) :
    Calls Tryz.prog 39 #[v] w (Ret w (InvP n (steps n (beside n M) n))) := by
  have H := Hid.mk h
  have HS := Hid.mk (beside_size hb hs)
  obtain ⟨A0, c0, rfl, p1, p2, p3⟩ := id h
  have hnb : (n : Int) ≤ 96 := by omega
  clear h hs p1 p2 p3
  go_enter Tryz.func39, Tryz.ntmps39
  go_wp2_with fail
  refine (mat_square _ _ n M H.out hn).mono ?_
  rintro e w1 ⟨⟨v1, rfl, rfl⟩, hx1⟩
  have HX := Hid.mk hx1
  clear hx1
  go_wp2_with fail
  refine (mat_identity _ n hn).mono ?_
  rintro e w2 ⟨⟨v2, rfl, R, rfl, hR⟩, hx2⟩
  replace HX := Hid.mk (HX.out.trans hx2)
  have HI := Hid.mk hR
  obtain ⟨RA, rc, rfl, -, -, -⟩ := id hR
  clear hx2 hR
  go_wp2_with fail
  go_loopw [8, 31] (fun t8 t31 wr => ∃ (i : Nat) (us : List Value), i ≤ n ∧ t31 = .int .i64 i ∧ OwnC IsSl wr w2.heap.size 49 1 t8 i us ∧ us.length = i ∧ (∀ j u, us[j]? = some u → SlQ wr u (n + n) (beside n M j)) ∧ X w2 wr) (fun _ t _ => n - (intOf t).toNat)
  case atStart => exact ⟨0, [], Nat.zero_le _, rfl, OwnC.nil _ _ _ _ _, rfl, by simp, X.refl _⟩
  case round =>
    obtain ⟨i, us, hi, rfl, ho, hl, hu, hx⟩ := hrel
    have HO := Hid.mk ho
    have HU := Hid.mk hu
    have HX5 := Hid.mk hx
    clear ho hu hx
    obtain ⟨w5, hw5⟩ : ∃ w5, w5 = wr := ⟨_, rfl⟩
    subst hw5
    by_cases hin : i < n
    · have hin' : (i : Int) < (n : Int) := by omega
      obtain ⟨b1, o1, rfl, g1⟩ := (H.out.x (HX.out.trans HX5.out)).rows (by omega)
      obtain ⟨u1, c1, hu1⟩ := g1 i hin
      obtain ⟨b2, o2, rfl, g2⟩ := (HI.out.x HX5.out).rows (by omega)
      obtain ⟨u2, c2, hu2⟩ := g2 i hin
      obtain ⟨A1, d1, rfl, -, -, -⟩ := id hu1
      obtain ⟨A2, d2, rfl, -, -, -⟩ := id hu2
      have HU1 := Hid.mk hu1
      have HU2 := Hid.mk hu2
      clear g1 g2 hu1 hu2
      go_wp2_with fail
      have hxa : X w5 (w5.alloc (.cells #[.slice A1 n d1, .slice A2 n d2] 49)) := (X.refl _).alloc _
      have hba := Blk.new w5 #[.slice A1 n d1, .slice A2 n d2] 49
      refine (concat_q _ w5.heap.size 0 2 _ _ n n (M i) (one i) (hba.cell (j := 0) rfl) (hba.cell (j := 1) rfl) (HU1.out.x hxa) (HU2.out.x hxa) (by omega) (by omega)).mono ?_
      rintro e w6 ⟨⟨v6, rfl, hv6⟩, hx6⟩
      have hrow : SlQ w6 v6 (n + n) (beside n M i) := hv6.congr (beside_row M hin)
      obtain ⟨A6, d6, rfl, -, -, -⟩ := id hrow
      have HRow := Hid.mk hrow
      have HX6 := Hid.mk (HX5.out.trans (hxa.trans hx6))
      have HO6 := Hid.mk (HO.out.x (hxa.trans hx6))
      have HU6 := Hid.mk (fun t u ht => (HU.out t u ht).x (hxa.trans hx6))
      clear hxa hba hx6 hv6 hrow c1 c2 HU1 HU2 HX5 HO HU
      go_wp2_with (at_builtin; refine append_oneC IsSl w2 _ rfl _ _ 29 rfl 49 (.slice none 0 0) 1 24 Tryz.underlying29 info_sQ rfl (by omega) (fun u hu => ⟨none, 0, 0, by simpa [Value.cells] using hu⟩) _ _ _ rfl HO6.out _ _ _ rfl rfl (by simp [Value.oneCell']) (fun u hu => ⟨_, _, _, by simpa using hu⟩) (by omega) (by omega) HX6.out ?_; intro v9 w9 ho9 hx9 hk9; have HO9 := Hid.mk ho9; have HXa := Hid.mk hx9; have HU9 := Hid.mk (fun i u hi => (HU6.out i u hi).kApp HO6.out hk9); have HR9 := Hid.mk (HRow.out.kApp HO6.out hk9); clear ho9 hx9 hk9)
      go_roundw
      case rel => exact ⟨i + 1, us ++ [.slice A6 (n + n) d6], by omega, by go_num, HO9.out, by simp [hl], rows_snoc hl HU9.out HR9.out, HXa.out⟩
      case measure => simp [intOf]; omega
    · have hni : i = n := by omega
      have hin' : ¬ (i : Int) < (n : Int) := by omega
      have hT : MatQ w5 u8 n (n + n) (beside n M) := by
        have := SlM.own (S := SlQ) (M := beside n M) (c := n + n) HO.out.1 hl HU.out
        rwa [hni] at this
      have HT := Hid.mk hT
      obtain ⟨TA, tc, rfl, -, -, -⟩ := id hT
      replace HX := Hid.mk (HX.out.trans HX5.out)
      clear hT HO HU HX5 hin hni hi hl HI
      go_wp2_with fail
      obtain ⟨N, hN⟩ : ∃ N, N = n + n := ⟨_, rfl⟩
      have HNN := Hid.mk hN
      have hnN : n ≤ N := by omega
      have hN192 : N ≤ 192 := by omega
      have HSB := Hid.mk HS.out
      rw [← hN] at HT HSB
      clear hN
      refine (mat_reduced _ _ n n N (beside n M) HT.out (by omega) (by omega) (by omega) b hb HSB.out hsz).mono ?_
      rintro e w3 ⟨⟨v3, rfl, R, P, d, rfl, hR, hP, hd⟩, hx3⟩
      have hPR := PivR.own hP
      obtain ⟨A, pc, rfl, h1, h2, h3⟩ := id hPR
      obtain ⟨B, rc', rfl, g1, g2, g3⟩ := id hR
      have HR := Hid.mk hR
      replace HX := Hid.mk (HX.out.trans hx3)
      obtain ⟨s, hs⟩ : ∃ s, s = steps n (beside n M) n := ⟨_, rfl⟩
      have hpm : s.piv.length ≤ n := by rw [hs]; exact (inv_steps n (beside n M) n).len
      rw [← hs] at HR ⊢
      have HSX := Hid.mk hs
      clear hx3 hR hP hd h2 h3 hPR h1 g1 g2 g3 hs HS HSB HT
      go_upto_region 13 with (fail)
      obtain ⟨w4, hw4, hX34, -, -⟩ := setup1 w3 #[.bool d.s, .slice d.A d.n d.c, .bool d.t, .slice d.B d.m d.d] 71
      replace HX := Hid.mk (HX.out.trans hX34)
      replace HR := Hid.mk (HR.out.x hX34)
      rw [hw4]
      clear hX34 hw4
      by_cases hlt : s.piv.length < n
      · have hlt' : (s.piv.length : Int) < (n : Int) := by omega
        have HP : Hid (InvP n s w4 (.tuple #[.slice none 0 0, .int .i64 20])) := ⟨fun h => absurd h (by omega), fun _ => rfl⟩
        go_wp2_with fail
        refine bodyPost_ret (v := .tuple #[.slice none 0 0, .int .i64 20]) (by simp [results, Tryz.results39, go_sem]) rfl ⟨⟨_, rfl, (by rw [← HSX.out]; exact HP.out)⟩, HX.out⟩
      · have hlt' : ¬ (s.piv.length : Int) < (n : Int) := by omega
        have hpn : s.piv.length = n := by omega
        have HPN := Hid.mk hpn
        clear hpn hlt
        go_wp2_with fail
        go_loopw [14, 60] (fun t14 t60 wr => ∃ (i : Nat) (us : List Value), i ≤ n ∧ t60 = .int .i64 i ∧ OwnC IsSl wr w4.heap.size 49 1 t14 i us ∧ us.length = i ∧ (∀ j u, us[j]? = some u → SlQ wr u n ((fun i j => s.M i (n + j)) j)) ∧ X w4 wr) (fun _ t _ => n - (intOf t).toNat)
        case atStart => exact ⟨0, [], Nat.zero_le _, rfl, OwnC.nil _ _ _ _ _, rfl, by simp, X.refl _⟩
        case round =>
          obtain ⟨i, us, hi, rfl, ho, hl, hu, hx⟩ := hrel
          have HO := Hid.mk ho
          have HU := Hid.mk hu
          have HX5 := Hid.mk hx
          clear ho hu hx
          obtain ⟨w7, hw7⟩ : ∃ w7, w7 = wr := ⟨_, rfl⟩
          subst hw7
          by_cases hin : i < n
          · have hin' : (i : Int) < (n : Int) := by omega
            obtain ⟨b1, o1, rfl, g1⟩ := (HR.out.x HX5.out).rows (by omega)
            obtain ⟨u1, c1, hu1⟩ := g1 i hin
            obtain ⟨A1, d1, rfl, q1, q2, q3⟩ := id hu1
            obtain ⟨b2, o2, rfl, -⟩ := q3 (by omega)
            have HP1 : Hid (SlQ w7 (.slice (some ⟨b2, o2 + n * 4, none⟩) (N - n) (d1 - n)) n (fun j => s.M i (n + j))) := SlQ.part hu1 HNN.out
            have hk1 : (n : Int) ≤ (N : Int) := by omega
            have hk2 : (N : Int) ≤ (d1 : Int) := by omega
            have hk3 : ¬ (d1 = n) := by have := HNN.out; omega
            have hk4 : ¬ (n = d1) := by have := HNN.out; omega
            have hk5 : (0 : Int) ≤ (n : Int) := by omega
            clear g1 hu1 q1 q2 q3
            go_wp2_with fail
            refine (clone_qC _ _ n _ HP1.out (by omega)).mono ?_
            rintro e w8 ⟨⟨v8, rfl, qs, hql, ho8, hq8⟩, hx8⟩
            have hrow : SlQ w8 v8 n (fun j => s.M i (n + j)) := SlQ.own ho8.1 hql hq8
            obtain ⟨A6, d6, rfl, -, -, -⟩ := id hrow
            have HRow := Hid.mk hrow
            have HX6 := Hid.mk (HX5.out.trans hx8)
            have HO6 := Hid.mk (HO.out.x hx8)
            have HU6 := Hid.mk (fun t u ht => (HU.out t u ht).x hx8)
            clear hx8 ho8 hq8 hrow c1 HP1 HX5 HO HU
            go_wp2_with (at_builtin; refine append_oneC IsSl w4 _ rfl _ _ 29 rfl 49 (.slice none 0 0) 1 24 Tryz.underlying29 info_sQ rfl (by omega) (fun u hu => ⟨none, 0, 0, by simpa [Value.cells] using hu⟩) _ _ _ rfl HO6.out _ _ _ rfl rfl (by simp [Value.oneCell']) (fun u hu => ⟨_, _, _, by simpa using hu⟩) (by omega) (by omega) HX6.out ?_; intro v9 w9 ho9 hx9 hk9; have HO9 := Hid.mk ho9; have HXa := Hid.mk hx9; have HU9 := Hid.mk (fun i u hi => (HU6.out i u hi).kApp HO6.out hk9); have HR9 := Hid.mk (HRow.out.kApp HO6.out hk9); clear ho9 hx9 hk9)
            go_roundw
            case rel => exact ⟨i + 1, us ++ [.slice A6 n d6], by omega, by go_num, HO9.out, by simp [hl], rows_snoc (R := fun i j => s.M i (n + j)) hl HU9.out HR9.out, HXa.out⟩
            case measure => simp [intOf]; omega
          · have hni : i = n := by omega
            have hin' : ¬ (i : Int) < (n : Int) := by omega
            have hT : MatQ w7 u14 n n (fun i j => s.M i (n + j)) := by
              have := SlM.own (S := SlQ) (M := fun i j => s.M i (n + j)) (c := n) HO.out.1 hl HU.out
              rwa [hni] at this
            have HT := Hid.mk hT
            have HXF := Hid.mk (HX.out.trans HX5.out)
            have HP : Hid (InvP n s w7 (.tuple #[u14, .int .i64 0])) := ⟨fun _ => ⟨_, rfl, HT.out⟩, fun h => absurd h (by have := HPN.out; omega)⟩
            clear hT HO HU HX5 hin hni hi hl
            go_wp2_with fail
            refine bodyPost_ret (v := .tuple #[u14, .int .i64 0]) (by simp [results, Tryz.results39, go_sem]) rfl ⟨⟨_, rfl, (by rw [← HSX.out]; exact HP.out)⟩, HXF.out⟩
end Go.Proofs.YtogakaiibijjpaaGreatDoor

/- The reference: Inverse. -/
set_option linter.unusedVariables false
set_option linter.unusedSimpArgs false
namespace Go.Proofs.YtogakaiibijjpaaGreatDoor
open Go.RowKit
open DDig DLin

theorem SlF.part {w : World} {b o k d N : Nat} {c : Nat} {f : Nat → Rat} (h : SlF w (.slice (some ⟨b, o, Option.none⟩) N c) N f) (hN : N = k + d) : SlF w (.slice (some ⟨b, o + k * 2, Option.none⟩) (N - k) (c - k)) d (fun j => f (k + j)) := by
  obtain rfl : d = N - k := by omega
  obtain ⟨A, c', e, h1, h2, h3⟩ := h
  injection e with e1 e2 e3
  subst e1
  subst e3
  refine ⟨_, _, rfl, by omega, by simp, fun h0 => ⟨b, o + k * 2, rfl, fun j hj => ?_⟩⟩
  obtain ⟨b', o', e', g⟩ := h3 (by omega)
  injection e' with e'
  injection e' with e1 e2
  subst e1
  subst e2
  obtain ⟨a, g0, g1, g4⟩ := g (k + j) (by omega)
  rw [Nat.add_mul] at g0 g1
  rw [← Nat.add_assoc] at g0 g1
  exact ⟨a, g0, g1, g4⟩

/-- What the reference's Inverse answers. -/
def InvF (n : Nat) (s : St) (w' : World) (r : Value) : Prop :=
  (s.piv.length = n → ∃ Y, r = .tuple #[Y, .bool true] ∧ MatF w' Y n n (fun i j => s.M i (n + j))) ∧ (s.piv.length < n → r = .tuple #[.slice none 0 0, .bool false])
theorem besides_next {n i j : Nat} (M : Mat) : beside n M i (n + j) = if i = j then 1 else 0 := by
  unfold beside
  rw [if_neg (by omega)]
  by_cases h : i = j
  · rw [if_pos h, if_pos (by omega)]
  · rw [if_neg h, if_neg (by omega)]

set_option maxRecDepth 100000 in
set_option maxHeartbeats 8000000 in
theorem ref_inverse (w : World) (v : Value) (n : Nat) (M : Mat) (h : MatF w v n n M) (hn : n ≤ 96) (b : Nat) (hb : 0 < b) (hs : TSz M n n b) (hsz : 5 ^ (n + 1) * b ≤ 10000000000) :
    Calls Tryz.prog 43 #[v] w (Ret w (InvF n (steps n (beside n M) n))) := by
  have H := Hid.mk h
  have HS := Hid.mk (beside_size hb hs)
  obtain ⟨A0, c0, rfl, p1, p2, p3⟩ := id h
  clear h hs p1 p2 p3
  go_enter Tryz.func43, Tryz.ntmps43
  go_wp2_with fail
  go_loopw [4, 5] (fun t4 t5 wr => ∃ (i : Nat) (us : List Value), i ≤ n ∧ t5 = .int .i64 i ∧ OwnC IsSl wr w.heap.size 51 1 t4 i us ∧ us.length = i ∧ (∀ j u, us[j]? = some u → SlF wr u (n + n) (beside n M j)) ∧ X w wr) (fun _ t _ => n - (intOf t).toNat)
  case atStart => exact ⟨0, [], Nat.zero_le _, rfl, OwnC.nil _ _ _ _ _, rfl, by simp, X.refl _⟩
  case round =>
    obtain ⟨i, us, hi, rfl, ho, hl, hu, hx⟩ := hrel
    have HO := Hid.mk ho
    have HU := Hid.mk hu
    have HX := Hid.mk hx
    clear ho hu hx
    obtain ⟨w5, hw5⟩ : ∃ w5, w5 = wr := ⟨_, rfl⟩
    subst hw5
    by_cases hin : i < n
    · have hin' : (i : Int) < (n : Int) := by omega
      obtain ⟨b1, o1, rfl, g1⟩ := (H.out.x HX.out).rows (by omega)
      obtain ⟨u1, c1, hu1⟩ := g1 i hin
      obtain ⟨A1, d1, rfl, q1, q2, q3⟩ := id hu1
      obtain ⟨fs, hfl, hfr, hcl⟩ := q3.list
      obtain ⟨b2, o2, rfl, -⟩ := q3 (by omega)
      have HFR := Hid.mk hfr
      have hf1 : (fcs fs).length = n * 2 := by rw [fcs, flat_len fvc 2 (fun _ => rfl), hfl]
      have HF1 := Hid.mk hf1
      have HN1 : Hid (∀ w', X w5 w' → ∀ ad, some (⟨b2, o2, none⟩ : Addr) = some ad → ∀ j u, (fcs fs)[j]? = some u → w'.cell? (ad.add j) = some u) := fun w' h ad had j u hj => by
        injection had with had
        subst had
        rw [add_off]; exact h.cell (hcl _ _ rfl _ _ hj)
      have hxa : X w5 (w5.alloc (.cells #[] 84)) := (X.refl _).alloc _
      have HXA := Hid.mk hxa
      have HE : Hid (OwnC IsStr (w5.alloc (.cells #[] 84)) w5.heap.size 84 2 (.slice (some ⟨w5.heap.size, 0, none⟩) 0 0) 0 []) := own_empty IsStr (w0 := w5) (Blk.new w5 #[] _) (Nat.le_refl _)
      have c1' := HXA.out.cell c1
      clear g1 hu1 q1 q2 q3 hfr hcl hf1 hxa
      go_wp2_with (at_builtin; refine append_any IsStr w5 _ rfl _ _ 51 rfl 84 (.agg #[.string ⟨#[]⟩, .string ⟨#[]⟩]) 2 32 Tryz.underlying51 info_F rfl (by omega) str_zero _ _ _ rfl HE.out (some ⟨b2, o2, none⟩) n d1 (by simp) (fcs fs) rfl HF1.out (HN1.out _ HXA.out) (fcs_one fs) (str_fcs fs) (by omega) (by omega) HXA.out ?_; intro v9 w9 ho9 hx9 hk9; have HO9 := Hid.mk ho9; have HX9 := Hid.mk hx9; clear ho9 hx9 hk9 c1 c1')
      go_loopw [6, 7] (fun t6 t7 wr => ∃ (j : Nat) (gs : List FV), j ≤ n ∧ t7 = .int .i64 j ∧ OwnC IsStr wr w5.heap.size 84 2 t6 (n + j) (fcs gs) ∧ gs.length = n + j ∧ (∀ j a, gs[j]? = some a → FR a (beside n M i j)) ∧ X w5 wr) (fun _ t _ => n - (intOf t).toNat)
      case atStart => exact ⟨0, fs, Nat.zero_le _, rfl, by simpa using HO9.out, by simpa using hfl, (fun j a ha => by
        have hj := (List.getElem?_eq_some_iff.1 ha).1
        have := HFR.out j a ha
        unfold beside
        rw [if_pos (by omega)]
        exact this), HX9.out⟩
      case round =>
        clear HO9 HX9 HE HXA HN1 HFR HF1 hfl
        obtain ⟨j, gs, hj, rfl, ho, hgl, hgr, hx⟩ := hrel
        have HR := Hid.mk ho
        have HG := Hid.mk hgr
        have HX5 := Hid.mk hx
        clear ho hgr hx
        by_cases hjn : j < n
        · have hjn' : (j : Int) < (n : Int) := by omega
          by_cases hij : i = j
          · have hb1 : ((i : Int) == (j : Int)) = true := by rw [beq_iff_eq]; omega
            have HFN : Hid (FR ⟨⟨#[49]⟩, ⟨#[49]⟩⟩ (beside n M i (n + j))) := by rw [besides_next, if_pos hij]; exact fone
            have HIJ := Hid.mk hij
            clear hij
            go_upto_region 12 with (fail)
            obtain ⟨wq, hwq, hXq, bq, -⟩ := setup1 wr #[.string ⟨#[49]⟩, .string ⟨#[49]⟩] 84
            rw [hwq]
            have q0 := bq.cell (j := 0) rfl
            have q1 := bq.cell (j := 1) rfl
            have HRq := Hid.mk (HR.out.x hXq)
            have HXq := Hid.mk (HX5.out.trans hXq)
            clear hwq hXq bq HX5 HR
            go_wp2_with (at_builtin; refine append_oneC IsStr w5 _ rfl _ _ 51 rfl 84 (.agg #[.string ⟨#[]⟩, .string ⟨#[]⟩]) 2 32 Tryz.underlying51 info_F rfl (by omega) str_zero _ _ _ rfl HRq.out _ _ _ rfl rfl (by simp [Value.oneCell']) (fun u hu => (by exact str_fvc ⟨⟨#[49]⟩, ⟨#[49]⟩⟩ u hu)) (by omega) (by omega) HXq.out ?_; intro v2 w2 ho2 hx2 hk2; have HO4 := Hid.mk ho2; have HX4 := Hid.mk hx2; clear ho2 hx2 hk2)
            go_roundw
            case rel => exact ⟨j + 1, gs ++ [⟨⟨#[49]⟩, ⟨#[49]⟩⟩], by omega, by go_num, by rw [fcs_snoc]; exact HO4.out, by simp [hgl]; omega, frs_snoc hgl HG.out HFN.out, HX4.out⟩
            case measure => simp [intOf]; omega
          · have hb1 : ((i : Int) == (j : Int)) = false := by rw [beq_eq_false_iff_ne]; omega
            have HFN : Hid (FR ⟨⟨#[48]⟩, ⟨#[49]⟩⟩ (beside n M i (n + j))) := by rw [besides_next, if_neg hij]; exact fzero
            clear hij
            go_upto_region 12 with (fail)
            obtain ⟨wq, hwq, hXq, bq, -⟩ := setup1 wr #[.string ⟨#[48]⟩, .string ⟨#[49]⟩] 84
            rw [hwq]
            have q0 := bq.cell (j := 0) rfl
            have q1 := bq.cell (j := 1) rfl
            have HRq := Hid.mk (HR.out.x hXq)
            have HXq := Hid.mk (HX5.out.trans hXq)
            clear hwq hXq bq HX5 HR
            go_wp2_with (at_builtin; refine append_oneC IsStr w5 _ rfl _ _ 51 rfl 84 (.agg #[.string ⟨#[]⟩, .string ⟨#[]⟩]) 2 32 Tryz.underlying51 info_F rfl (by omega) str_zero _ _ _ rfl HRq.out _ _ _ rfl rfl (by simp [Value.oneCell']) (fun u hu => (by exact str_fvc ⟨⟨#[48]⟩, ⟨#[49]⟩⟩ u hu)) (by omega) (by omega) HXq.out ?_; intro v2 w2 ho2 hx2 hk2; have HO4 := Hid.mk ho2; have HX4 := Hid.mk hx2; clear ho2 hx2 hk2)
            go_roundw
            case rel => exact ⟨j + 1, gs ++ [⟨⟨#[48]⟩, ⟨#[49]⟩⟩], by omega, by go_num, by rw [fcs_snoc]; exact HO4.out, by simp [hgl]; omega, frs_snoc hgl HG.out HFN.out, HX4.out⟩
            case measure => simp [intOf]; omega
        · have hjn' : ¬ (j : Int) < (n : Int) := by omega
          have hrow : SlF wr u6 (n + n) (beside n M i) := by
            obtain rfl : j = n := by omega
            exact SlF.own HR.out.1 hgl HG.out
          obtain ⟨RA, rc, rfl, -, -, -⟩ := id hrow
          have HRow := Hid.mk hrow
          have HO2 := Hid.mk (HO.out.x HX5.out)
          have HU2 := Hid.mk (fun t u ht => (HU.out t u ht).x HX5.out)
          have HX9 := Hid.mk (HX.out.trans HX5.out)
          clear hjn hj HX5 HO HU HX hrow HR HG hgl
          go_wp2_with (at_builtin; refine append_oneC IsSl w _ rfl _ _ 26 rfl 51 (.slice none 0 0) 1 24 Tryz.underlying26 info_sF rfl (by omega) (fun u hu => ⟨none, 0, 0, by simpa [Value.cells] using hu⟩) _ _ _ rfl HO2.out _ _ _ rfl rfl (by simp [Value.oneCell']) (fun u hu => ⟨_, _, _, by simpa using hu⟩) (by omega) (by omega) HX9.out ?_; intro v9 w9 ho9 hx9 hk9; have HO9 := Hid.mk ho9; have HXa := Hid.mk hx9; have HU9 := Hid.mk (fun i u hi => (HU2.out i u hi).kApp HO2.out hk9); have HR9 := Hid.mk (HRow.out.kApp HO2.out hk9); clear ho9 hx9 hk9)
          go_roundw
          case rel => exact ⟨i + 1, us ++ [.slice RA (n + n) rc], by omega, by go_num, HO9.out, by simp [hl], rows_snoc (S := SlF) hl HU9.out HR9.out, HXa.out⟩
          case measure => simp [intOf]; omega
    · have hni : i = n := by omega
      have hin' : ¬ (i : Int) < (n : Int) := by omega
      have hT : MatF w5 u4 n (n + n) (beside n M) := by
        have := SlM.own (S := SlF) (M := beside n M) (c := n + n) HO.out.1 hl HU.out
        rwa [hni] at this
      have HT := Hid.mk hT
      obtain ⟨TA, tc, rfl, -, -, -⟩ := id hT
      clear hT HO HU hin hni hi hl
      obtain ⟨N, hN⟩ : ∃ N, N = n + n := ⟨_, rfl⟩
      have HNN := Hid.mk hN
      have hnN : n ≤ N := by omega
      have hN192 : N ≤ 192 := by omega
      have HSB := Hid.mk HS.out
      rw [← hN] at HT HSB
      clear hN
      go_wp2_with fail
      refine (ref_reduce _ _ n N (beside n M) HT.out (by omega) (by omega) b hb HSB.out hsz).mono ?_
      rintro e w3 ⟨⟨v3, rfl, R, P, rfl, hR, hP⟩, hx3⟩
      obtain ⟨B, rc', rfl, -, -, -⟩ := id hR
      obtain ⟨PA, pc, rfl, -, -, -⟩ := id hP
      obtain ⟨s, hs⟩ : ∃ s, s = steps n (beside n M) N := ⟨_, rfl⟩
      have hpm : s.piv.length ≤ n := by rw [hs]; exact (inv_steps n (beside n M) N).len
      rw [← hs] at hR hP ⊢
      have HSX : Hid (s = steps n (beside n M) (n + n)) := by rw [hs, HNN.out]; exact Hid.mk rfl
      have HR := Hid.mk hR
      have HP := Hid.mk hP
      replace HX := Hid.mk (HX.out.trans hx3)
      clear hx3 hR hP hs HS HSB HT
      go_wp2_with fail
      go_loopw [11, 12] (fun t11 t12 wr => ∃ (i : Nat) (us : List Value), i ≤ n ∧ t12 = .int .i64 i ∧ OwnC IsSl wr w3.heap.size 51 1 t11 i us ∧ us.length = i ∧ (∀ j u, us[j]? = some u → SlF wr u n ((fun i j => s.M i (n + j)) j)) ∧ (∀ t, t < i → t < s.piv.length ∧ s.piv.getD t 0 = t) ∧ X w3 wr) (fun _ t _ => n - (intOf t).toNat)
      case atStart => exact ⟨0, [], Nat.zero_le _, rfl, OwnC.nil _ _ _ _ _, rfl, by simp, fun t ht => by omega, X.refl _⟩
      case round =>
        obtain ⟨i, us, hi, rfl, ho, hl, hu, hall, hx⟩ := hrel
        have HO := Hid.mk ho
        have HU := Hid.mk hu
        have HX5 := Hid.mk hx
        have HALL := Hid.mk hall
        clear ho hu hx hall
        by_cases hin : i < n
        · have hin' : (i : Int) < (n : Int) := by omega
          by_cases hil : i < s.piv.length
          · have hil' : ¬ (s.piv.length : Int) ≤ (i : Int) := by omega
            have hil2 : (i : Int) < (s.piv.length : Int) := by omega
            obtain ⟨p, hp⟩ : ∃ p, p = s.piv.getD i 0 := ⟨_, rfl⟩
            obtain ⟨bp, op, rfl, cp⟩ := (HP.out.x HX5.out).cell hil
            rw [← hp] at cp
            have HPP := Hid.mk hp
            clear hp
            by_cases hpi : p = i
            · have hb1 : ((p : Int) != (i : Int)) = false := by simp [hpi]
              obtain ⟨b1, o1, rfl, g1⟩ := (HR.out.x HX5.out).rows (by omega)
              obtain ⟨u1, c1, hu1⟩ := g1 i hil
              obtain ⟨A1, d1, rfl, q1, q2, q3⟩ := id hu1
              obtain ⟨b2, o2, rfl, -⟩ := q3 (by omega)
              have HP1 : Hid (SlF wr (.slice (some ⟨b2, o2 + n * 2, none⟩) (N - n) (d1 - n)) n (fun j => s.M i (n + j))) := SlF.part hu1 HNN.out
              have HA2 : Hid (∀ t, t < i + 1 → t < s.piv.length ∧ s.piv.getD t 0 = t) := fun t ht => by
                by_cases e : t = i
                · subst e
                  exact ⟨hil, by rw [← HPP.out]; exact hpi⟩
                · exact HALL.out t (by omega)
              have hk1 : (n : Int) ≤ (N : Int) := by omega
              have hk2 : (N : Int) ≤ (d1 : Int) := by omega
              have hk3 : ¬ (d1 = n) := by have := HNN.out; omega
              have hk4 : ¬ (n = d1) := by have := HNN.out; omega
              have hk5 : (0 : Int) ≤ (n : Int) := by omega
              have hkn : N - n = n := by have := HNN.out; omega
              have HKN := Hid.mk hkn
              clear g1 hu1 q1 q2 q3 hpi hkn
              go_wp2_with (at_builtin; refine append_oneC IsSl w3 _ rfl _ _ 26 rfl 51 (.slice none 0 0) 1 24 Tryz.underlying26 info_sF rfl (by omega) (fun u hu => ⟨none, 0, 0, by simpa [Value.cells] using hu⟩) _ _ _ rfl HO.out _ _ _ rfl rfl (by simp [Value.oneCell']) (fun u hu => ⟨_, _, _, by simpa using hu⟩) (by omega) (by omega) HX5.out ?_; intro v9 w9 ho9 hx9 hk9; have HO9 := Hid.mk ho9; have HXa := Hid.mk hx9; have HU9 := Hid.mk (fun i u hi => (HU.out i u hi).kApp HO.out hk9); have HR9 := Hid.mk (HP1.out.kApp HO.out hk9); clear ho9 hx9 hk9)
              go_roundw
              case rel => exact ⟨i + 1, us ++ [.slice (some ⟨b2, o2 + n * 2, none⟩) (N - n) (d1 - n)], by omega, by go_num, HO9.out, by simp [hl], rows_snoc (S := SlF) (R := fun i j => s.M i (n + j)) hl HU9.out HR9.out, HA2.out, HXa.out⟩
              case measure => simp [intOf]; omega
            · have hb1 : ((p : Int) != (i : Int)) = true := by rw [bne_iff_ne]; omega
              have HPI := Hid.mk hpi
              have HF : Hid (InvF n (steps n (beside n M) n) wr (.tuple #[.slice none 0 0, .bool false])) := ⟨fun h => by
                exfalso
                obtain ⟨e1, e2⟩ := inverse_yes (d := n) h
                apply HPI.out
                rw [HPP.out, HSX.out, e1]
                exact e2 i hin, fun _ => rfl⟩
              have HXF := Hid.mk (HX.out.trans HX5.out)
              clear hpi
              go_wp2_with fail
              refine bodyPost_ret (v := .tuple #[.slice none 0 0, .bool false]) (by simp [results, Tryz.results43, go_sem]) rfl ⟨⟨_, rfl, HF.out⟩, HXF.out⟩
          · have hil' : (s.piv.length : Int) ≤ (i : Int) := by omega
            have HIL := Hid.mk hil
            have HF : Hid (InvF n (steps n (beside n M) n) wr (.tuple #[.slice none 0 0, .bool false])) := ⟨fun h => by
              exfalso
              obtain ⟨e1, e2⟩ := inverse_yes (d := n) h
              apply HIL.out
              rw [HSX.out, e1, h]
              exact hin, fun _ => rfl⟩
            have HXF := Hid.mk (HX.out.trans HX5.out)
            clear hil
            go_wp2_with fail
            refine bodyPost_ret (v := .tuple #[.slice none 0 0, .bool false]) (by simp [results, Tryz.results43, go_sem]) rfl ⟨⟨_, rfl, HF.out⟩, HXF.out⟩
        · have hni : i = n := by omega
          have hin' : ¬ (i : Int) < (n : Int) := by omega
          have hT : MatF wr u11 n n (fun i j => s.M i (n + j)) := by
            have := SlM.own (S := SlF) (M := fun i j => s.M i (n + j)) (c := n) HO.out.1 hl HU.out
            rwa [hni] at this
          have HT := Hid.mk hT
          have HF : Hid (InvF n (steps n (beside n M) n) wr (.tuple #[u11, .bool true])) := ⟨fun h => by
            obtain ⟨e1, e2⟩ := inverse_yes (d := n) h
            rw [HSX.out, e1] at HT
            exact ⟨_, rfl, HT.out⟩, fun h => by
            exfalso
            have h2 := HALL.out
            rw [hni, HSX.out] at h2
            exact inverse_no (d := n) h h2⟩
          have HXF := Hid.mk (HX.out.trans HX5.out)
          clear hT HO HU HX5 hin hni hi hl HALL
          go_wp2_with fail
          refine bodyPost_ret (v := .tuple #[u11, .bool true]) (by simp [results, Tryz.results43, go_sem]) rfl ⟨⟨_, rfl, HF.out⟩, HXF.out⟩
end Go.Proofs.YtogakaiibijjpaaGreatDoor

/- The law MatrixInverts: the walk. -/
set_option linter.unusedVariables false
set_option linter.unusedSimpArgs false
namespace Go.Proofs.YtogakaiibijjpaaGreatDoor
open Go.RowKit
open DDig DLin

theorem dsz_small {m : Nat} (h : m ≤ 5) : dsz m 1 ≤ 1000 := by
  have : m = 0 ∨ m = 1 ∨ m = 2 ∨ m = 3 ∨ m = 4 ∨ m = 5 := by omega
  rcases this with rfl | rfl | rfl | rfl | rfl | rfl <;> decide
theorem inv_size {n b : Nat} {M : Mat} (hb : 0 < b) (hs : TSz M n n b) (hm : 5 ^ n * b ≤ 1000000) : TSz (fun i j => (steps n (beside n M) n).M i (n + j)) n n 1000000 := fun i hi j hj => by
  obtain ⟨h1, h2, h3⟩ := steps_size hb (beside_size hb hs) n (by omega)
  have h4 : 5 ^ (steps n (beside n M) n).piv.length ≤ 5 ^ n := Nat.pow_le_pow_right (by omega) h3
  have h5 := Nat.mul_le_mul_right b h4
  exact (h1 i hi (n + j) (by omega)).mono (by omega)
theorem InvP.x {n : Nat} {s : St} {w w' : World} {r : Value} (h : InvP n s w r) (hx : X w w') : InvP n s w' r :=
  ⟨fun e => by
    obtain ⟨Q, e1, e2⟩ := h.1 e
    exact ⟨Q, e1, e2.x hx⟩, h.2⟩

set_option maxRecDepth 100000 in
set_option maxHeartbeats 8000000 in
theorem law_inverts (w : World) (C : Int) (A : Option Addr) (n0 c0 : Nat) (L : Nat → Nat) (N D : Nat → Nat → Int) (h : RowsR w A n0 L N D) (hC : 0 ≤ C ∧ C ≤ 255) (hn : n0 ≤ 9223372036854775807) (hg : Gl w) :
    Calls Tryz.prog 8 #[.agg #[.int .u8 C, .slice A n0 c0]] w (Ret w fun _ v => v = .bool true) := by
  have H := Hid.mk h
  have HG := Hid.mk hg
  clear h hg
  obtain ⟨m, hm⟩ : ∃ m, m = min n0 5 := ⟨_, rfl⟩
  obtain ⟨c, hc⟩ : ∃ c, c = if m = 0 then 0 else (C % 7).toNat := ⟨_, rfl⟩
  obtain ⟨M, hM⟩ : ∃ M, M = tabv L N D := ⟨_, rfl⟩
  obtain ⟨hm5, hc6, hmc, hS⟩ := table_start H.out hC hm hc
  rw [← hM] at hS
  have HM := Hid.mk hm
  have HCc := Hid.mk hc
  have HMM := Hid.mk hM
  have HS := Hid.mk hS
  have HMC := Hid.mk hmc
  have hp5 := pow_small (m := m + 1) (by omega)
  have hp6 := pow_small (m := m) (by omega)
  have HP5 : Hid (5 ^ (m + 1) * 1 ≤ 100000) := by (show 5 ^ (m + 1) * 1 ≤ 100000; omega)
  have HP6 : Hid (5 ^ m * 1 ≤ 1000000) := by (show 5 ^ m * 1 ≤ 1000000; omega)
  have HD := Hid.mk (dsz_small hm5)
  clear hm hc hM hS hmc hp5 hp6
  go_enter Tryz.func8, Tryz.ntmps8
  go_upto_region 1 with (fail)
  obtain ⟨W, hW, hX, b0, hWs⟩ := setup1 w #[.int .u8 C, .slice A n0 c0] 24
  rw [hW]
  clear hW hWs
  have B0 := Hid.mk b0
  have HXW := Hid.mk hX
  clear b0 hX
  go_wp2_with fail
  refine (law_known _ (HG.out.x HXW.out)).mono ?_
  rintro e w1 ⟨⟨v1, rfl, rfl⟩, hx1⟩
  have HX := Hid.mk (HXW.out.trans hx1)
  have hb0 := B0.out.x hx1
  have k0 := hb0.cell (j := 0) rfl; have k1 := hb0.cell (j := 1) rfl
  clear hb0 hx1 HXW B0
  go_wp2_with fail
  refine (law_rows _ C A n0 c0 L N D (H.out.x HX.out) hC hn).mono ?_
  rintro e w2 ⟨⟨t, rfl, ht⟩, hx2⟩
  replace HX := Hid.mk (HX.out.trans hx2)
  have HT : Hid (MatF w2 t m c M) := by rw [HMM.out]; exact table_rows ht HM.out HCc.out
  obtain ⟨TA, ta, rfl, -, -, -⟩ := id HT.out
  clear ht hx2 k0 k1
  go_wp2_with fail
  refine (law_own _ _ m c M HT.out (by omega) (by omega) 1 HS.out (by omega) (HG.out.x HX.out)).mono ?_
  rintro e w4 ⟨⟨v4, rfl, hv4⟩, hx4⟩
  replace HX := Hid.mk (HX.out.trans hx4)
  replace HT := Hid.mk (HT.out.x hx4)
  have HV := Hid.mk hv4
  clear hx4 hv4
  go_wp2_with fail
  by_cases hmc : c = m
  · subst hmc
    refine (mat_det _ _ c M HV.out (by omega) 1 (by omega) HS.out (Nat.le_trans HP5.out (by omega))).mono ?_
    rintro e w5 ⟨⟨v5, rfl, d, rfl, hd⟩, hx5⟩
    replace HX := Hid.mk (HX.out.trans hx5)
    go_upto_region 5 with (fail)
    obtain ⟨W4, hW4, hX34, hX4, b4, hd4⟩ := store4 (t := 71) HX.out hd
    rw [hW4]
    replace HX := Hid.mk hX4
    have BD := Hid.mk b4
    have HDR := Hid.mk hd4
    replace HT := Hid.mk (HT.out.x (hx5.trans hX34))
    clear hW4 hX34 hX4 b4 hd4 hd hx5 HV
    go_wp2_with fail
    refine (law_own _ _ c c M HT.out (by omega) (by omega) 1 HS.out (by omega) (HG.out.x HX.out)).mono ?_
    rintro e w6 ⟨⟨v6, rfl, hv6⟩, hx6⟩
    replace HX := Hid.mk (HX.out.trans hx6)
    replace HT := Hid.mk (HT.out.x hx6)
    replace BD := Hid.mk (BD.out.x hx6)
    replace HDR := Hid.mk (HDR.out.x hx6)
    have HV := Hid.mk hv6
    clear hx6 hv6
    go_wp2_with fail
    refine (mat_inverse _ _ c M HV.out (by omega) 1 (by omega) HS.out (Nat.le_trans HP5.out (by omega))).mono ?_
    rintro e w7 ⟨⟨v7, rfl, hP⟩, hx7⟩
    replace HX := Hid.mk (HX.out.trans hx7)
    replace HT := Hid.mk (HT.out.x hx7)
    replace BD := Hid.mk (BD.out.x hx7)
    replace HDR := Hid.mk (HDR.out.x hx7)
    have HP := Hid.mk hP
    clear hx7 hP HV
    obtain ⟨s, hs⟩ : ∃ s, s = steps c (beside c M) c := ⟨_, rfl⟩
    have hpl : s.piv.length ≤ c := by rw [hs]; exact (inv_steps c (beside c M) c).len
    have HSI : Hid (TSz (fun i j => s.M i (c + j)) c c 1000000) := by rw [hs]; exact Hid.mk (inv_size (by omega) HS.out HP6.out)
    have HSX := Hid.mk hs
    rw [← hs] at HP
    obtain ⟨Xv, g, rfl⟩ : ∃ (Q : Value) (g : Int), v7 = .tuple #[Q, .int .i64 g] := by
      by_cases hz : s.piv.length = c
      · obtain ⟨Q, e, -⟩ := HP.out.1 hz
        exact ⟨_, _, e⟩
      · exact ⟨_, _, HP.out.2 (by omega)⟩
    have HPL := Hid.mk hpl
    clear hs hpl
    go_wp2_with fail
    refine (ref_columns _ _ c c M HT.out (by omega) c (by split <;> omega)).mono ?_
    rintro e w8 ⟨⟨v8, rfl, rfl⟩, hx8⟩
    replace HX := Hid.mk (HX.out.trans hx8)
    replace HT := Hid.mk (HT.out.x hx8)
    replace BD := Hid.mk (BD.out.x hx8)
    replace HDR := Hid.mk (HDR.out.x hx8)
    replace HP := Hid.mk (HP.out.x hx8)
    clear hx8
    have hnn : ((c : Int) != (c : Int)) = false := by simp
    have HSD : Hid (RSz (det c M) 1000) := (det_size (by omega) c M HS.out).mono HD.out
    have hz1 := (HDR.out.sizes HSD.out).1
    have hz2 := (HDR.out.sizes HSD.out).2
    have hbd := BD.out
    have k0 := hbd.cell (j := 0) rfl; have k1 := hbd.cell (j := 1) rfl; have k2 := hbd.cell (j := 2) rfl; have k3 := hbd.cell (j := 3) rfl
    clear hbd BD
    go_wp2_with fail
    refine (rat_number _ d (det c M) HDR.out (by omega) (by omega) (HG.out.x HX.out).1).mono ?_
    rintro e w9 ⟨⟨v9, rfl, s1, rfl, hq1⟩, hx9⟩
    replace HX := Hid.mk (HX.out.trans hx9)
    replace HT := Hid.mk (HT.out.x hx9)
    replace HP := Hid.mk (HP.out.x hx9)
    have HQ1 := Hid.mk hq1
    clear hx9 hq1 k0 k1 k2 k3 HDR hz1 hz2
    go_wp2_with fail
    refine (ref_det c _ _ M 1 HT.out (by omega) (by omega) HS.out (Nat.le_trans HD.out (by omega))).mono ?_
    rintro e wa ⟨⟨va, rfl, a, rfl, ha⟩, hxa⟩
    replace HX := Hid.mk (HX.out.trans hxa)
    replace HT := Hid.mk (HT.out.x hxa)
    replace HP := Hid.mk (HP.out.x hxa)
    have HRA := Hid.mk ha
    have hz3 := (ha.sizes HSD.out).1
    have hz4 := (ha.sizes HSD.out).2
    clear hxa ha
    go_wp2_with fail
    refine (ref_ftext _ a (det c M) HRA.out (by omega)).mono ?_
    rintro e wb ⟨⟨vb, rfl, s2, rfl, hq2⟩, hxb⟩
    replace HX := Hid.mk (HX.out.trans hxb)
    replace HT := Hid.mk (HT.out.x hxb)
    replace HP := Hid.mk (HP.out.x hxb)
    have hss := QTxt.same HQ1.out hq2
    subst hss
    clear hxb hq2 HQ1 HRA hz3 hz4
    go_wp2_with fail
    refine (ref_inverse _ _ c M HT.out (by omega) 1 (by omega) HS.out (Nat.le_trans HP5.out (by omega))).mono ?_
    rintro e wc ⟨⟨vc, rfl, hQ⟩, hxc⟩
    rw [← HSX.out] at hQ
    have HQ := Hid.mk hQ
    replace HX := Hid.mk (HX.out.trans hxc)
    replace HP := Hid.mk (HP.out.x hxc)
    clear hQ hxc HT
    by_cases hz : s.piv.length = c
    · obtain ⟨Y, rfl, hY⟩ := HQ.out.1 hz
      obtain ⟨Q, e, hq⟩ := HP.out.1 hz
      injection e with e
      simp at e
      obtain ⟨rfl, rfl⟩ := e
      have HY := Hid.mk hY
      have HQ2 := Hid.mk hq
      clear hz hY hq HQ HP
      go_wp2_with fail
      refine (law_is _ _ _ c c _ HQ2.out HY.out (by omega) (by omega) 1000000 HSI.out (by omega) (HG.out.x HX.out)).mono ?_
      rintro e wd ⟨⟨vd, rfl, rfl⟩, hxd⟩
      replace HX := Hid.mk (HX.out.trans hxd)
      clear hxd HQ2 HY
      go_wp2_with fail
      go_ret
      exact ⟨⟨_, rfl, rfl⟩, HX.out⟩
    · have hlt : s.piv.length < c := by have := HPL.out; omega
      obtain rfl := HQ.out.2 hlt
      have e := HP.out.2 hlt
      injection e with e
      simp at e
      obtain ⟨rfl, rfl⟩ := e
      clear hz hlt HQ HP
      go_wp2_with fail
      go_ret
      exact ⟨⟨_, rfl, rfl⟩, HX.out⟩
  · have hm0 : 0 < m := by
      have := HMC.out
      omega
    have HNE := Hid.mk hmc
    refine (mat_det_no _ _ m c M HV.out (by omega) (by omega) hm0 hmc).mono ?_
    rintro e w5 ⟨⟨v5, rfl, d, rfl, hd⟩, hx5⟩
    replace HX := Hid.mk (HX.out.trans hx5)
    go_upto_region 5 with (fail)
    obtain ⟨W4, hW4, hX34, hX4, b4, hd4⟩ := store4 (t := 71) HX.out hd
    rw [hW4]
    replace HX := Hid.mk hX4
    have BD := Hid.mk b4
    have HDR := Hid.mk hd4
    replace HT := Hid.mk (HT.out.x (hx5.trans hX34))
    clear hW4 hX34 hX4 b4 hd4 hd hx5 HV hmc
    go_wp2_with fail
    refine (law_own _ _ m c M HT.out (by omega) (by omega) 1 HS.out (by omega) (HG.out.x HX.out)).mono ?_
    rintro e w6 ⟨⟨v6, rfl, hv6⟩, hx6⟩
    replace HX := Hid.mk (HX.out.trans hx6)
    replace HT := Hid.mk (HT.out.x hx6)
    replace BD := Hid.mk (BD.out.x hx6)
    replace HDR := Hid.mk (HDR.out.x hx6)
    have HV := Hid.mk hv6
    clear hx6 hv6
    go_wp2_with fail
    refine (mat_inverse_no _ _ m c M HV.out (by omega) (by omega) hm0 HNE.out).mono ?_
    rintro e w7 ⟨⟨v7, rfl, rfl⟩, hx7⟩
    replace HX := Hid.mk (HX.out.trans hx7)
    replace HT := Hid.mk (HT.out.x hx7)
    replace BD := Hid.mk (BD.out.x hx7)
    replace HDR := Hid.mk (HDR.out.x hx7)
    clear hx7 HV
    go_wp2_with fail
    refine (ref_columns _ _ m c M HT.out (by omega) c (by rw [if_neg (by omega)])).mono ?_
    rintro e w8 ⟨⟨v8, rfl, rfl⟩, hx8⟩
    replace HX := Hid.mk (HX.out.trans hx8)
    replace BD := Hid.mk (BD.out.x hx8)
    replace HDR := Hid.mk (HDR.out.x hx8)
    clear hx8 HT
    have hnn : ((m : Int) != (c : Int)) = true := by rw [bne_iff_ne]; have := HNE.out; omega
    have hbd := BD.out
    have k0 := hbd.cell (j := 0) rfl; have k1 := hbd.cell (j := 1) rfl; have k2 := hbd.cell (j := 2) rfl; have k3 := hbd.cell (j := 3) rfl
    clear hbd BD
    go_wp2_with fail
    refine (rat_sign_at _ d 0 0 HDR.out rfl).mono ?_
    rintro e w9 ⟨⟨v9, rfl, rfl⟩, hx9⟩
    replace HX := Hid.mk (HX.out.trans hx9)
    clear hx9 k0 k1 k2 k3 HDR
    go_wp2_with fail
    go_ret
    exact ⟨⟨_, rfl, rfl⟩, HX.out⟩
end Go.Proofs.YtogakaiibijjpaaGreatDoor

/- For every input MatrixInverts returns true and leaves its arguments as they read; no condition. -/
set_option linter.unusedVariables false
set_option linter.unusedSimpArgs false
namespace Go.Proofs.YtogakaiibijjpaaGreatDoor
open Go.ChangeShapes Go.WideShapes Go.ChangeAt Go.RowKit Go.Deep Go.Joins

theorem matrixInverts_reads (os : Os) {H : Type} (enc : TypeId × Value → H) : ∃ places, DataW.whole enc Tryz.prog ((World.laidAll Tryz.prog os Rows.matrixInvertsRow.laid).forCall (fun _ _ => 0) ⟨#[], #[.agg #[.int .u8 0, .slice none 0 0]], []⟩).memory Tryz.f8.params.toList Rows.matrixInvertsSpec.vars false #[(.agg #[.int .u8 0, .slice none 0 0] : Value)].toList 8 = some ([.agg [.lit (.int .u8 0), .nil]], [], places) :=
  ⟨[], by kernel_rfl⟩

set_option maxRecDepth 100000 in
theorem matrixInverts_lifted (os : Os) (started : os.Started) (H : Type) (enc : TypeId × Value → H) (F : Stop.Interp) :
    ReturnsInHanded {} Tryz.checked os 8 .any ((OpenSpec.ofChange Rows.matrixInvertsSpec).preRow enc Tryz.prog Tryz.f8 Rows.matrixInvertsRow.domain false Rows.matrixInvertsRow.laid) (((OpenSpec.ofChange Rows.matrixInvertsSpec).at F).post enc Tryz.prog Tryz.f8 false true false false) := by
  obtain ⟨places, hx⟩ := matrixInverts_reads os enc
  refine returnsInHanded_of_row (C := Tryz.checked) (s := OpenSpec.ofChange Rows.matrixInvertsSpec) own started (by kernel_rfl) Tryz.func8
    (witness_row_atRef (enc := enc) (C := Tryz.checked) false (World.laidAll Tryz.prog os Rows.matrixInvertsRow.laid) #[.agg #[.int .u8 0, .slice none 0 0]] (World.laidAll_os _ _ _) (by kernel_rfl) (by kernel_rfl) (by kernel_rfl)
      (OpenSpec.preRow_of_cond 8 hx (by kernel_rfl) (fun k hk => by cases hk) (by kernel_rfl) (by rw [MakeChecks.laidMetH_plain _ _ _ (by kernel_rfl)]; exact laidMet_laidAll _ (by kernel_rfl) (by kernel_rfl)))) ?_
  intro W base args ds gs before hval0 hW _ _ _ hL hsh _
  have hval : ∀ (j : Nat) t v, Tryz.f8.params[j]? = some t → args[j]? = some v → Value.okWide Tryz.prog W .any base t v := hval0
  have hW' := hW
  obtain ⟨p, q, hA0, hV, rfl, hfz, hnd⟩ := hW
  have hA : DataW.TrodAll enc Tryz.prog W 0 (fun _ => true) true Tryz.f8.params.toList args.toList ds p := hA0
  rw [Tryz.params8] at hA hval
  obtain ⟨v0, vs0, d0, ds0, p0, q0, hargs, rfl, rfl, h0, r0⟩ := trodAll_cons hA
  obtain ⟨rfl, rfl, rfl⟩ := trodAll_nil r0
  obtain rfl : args = #[v0] := by cases args; simp_all
  obtain ⟨rfl, rfl⟩ := trodVars_none hV
  have hlt := fun x hx => hW'.lt x hx
  obtain ⟨C0, A0, n0, c0, L0, N0, D0, rfl, hC0, hn0, hR0⟩ := open_table (hval 0 24 v0 rfl rfl) h0
  have hL1 := laidMetH.filter (fun x => x.1 == "internal/strconv.uint64pow10") hL
  rw [show (Rows.matrixInvertsRow.laid.filter fun x => x.1 == "internal/strconv.uint64pow10") = [("internal/strconv.uint64pow10", Rows.laid_internal_strconv_uint64pow10)] by kernel_rfl] at hL1
  have hg : Gl W := ⟨pow_tab hL1, max_shape hsh⟩
  refine (law_inverts W C0 A0 n0 c0 L0 N0 D0 hR0 hC0 hn0 hg).mono ?_
  rintro e W' ⟨⟨v, rfl, rfl⟩, hb⟩
  exact ⟨_, rfl, _, _, _, [], _, [], hW', trodAll_mk1 (shut_bool Tryz.underlying4 _), (trodAll_cons_mk (Below.trod laidOut (by kernel_rfl) (of_decide_eq_true (by kernel_rfl)) h0 hb (fun x hx => hlt x (by simp [hx]))) trodAll_mk0), rfl, hb.frame _, fun h => by cases h⟩

theorem matrixInverts_said : Rows.MatrixInvertsSaid :=
  OpenClaim.holds_of_cond 8 Tryz.f8 rfl rfl rfl rfl rfl rfl rfl ⟨rfl, rfl, rfl, rfl, rfl⟩ rfl rfl rfl rfl rfl (by kernel_rfl) Tryz.func8 (by kernel_rfl)
    (of_decide_eq_true (by kernel_rfl)) (by unfold Func.isWrapper; first | (rw [if_pos (by decide +kernel)]; kernel_rfl) | (rw [if_neg (by decide +kernel)]; exact ⟨rfl, rfl⟩))
    (fun os started H enc _ F => by rw [OpenClaim.pre_eq_preRow]; exact matrixInverts_lifted os started H enc F)

theorem matrixInverts_plain (f : FuncId) (fn : Func) (hf : Tryz.pinned.checked.prog.funcNamed "dowel/dowellaw05.MatrixInverts" = some f) (hfn : Tryz.pinned.checked.prog.funcs[f]? = some fn) :
    true = Tryz.pinned.checked.prog.looks [] ∧ ∀ (j : Nat) t, fn.params[j]? = some t → Tryz.pinned.checked.prog.wantsStandIn t = false := by
  obtain rfl : f = 8 := Option.some.inj ((show Tryz.prog.funcNamed "dowel/dowellaw05.MatrixInverts" = some 8 by kernel_rfl).symm.trans hf) |>.symm
  obtain rfl : fn = Tryz.f8 := (Option.some.inj (Tryz.func8.symm.trans hfn)).symm
  refine ⟨by kernel_rfl, fun j t ht => ?_⟩
  rw [Tryz.params8] at ht
  have hm : t ∈ [24] := by
    have := Array.mem_of_getElem? ht
    simp at this ⊢
    omega
  have hall : ([24].all fun u => !Tryz.prog.wantsStandIn u) = true := by kernel_rfl
  exact (show Tryz.prog.wantsStandIn t = false by simpa using List.all_eq_true.1 hall t hm)

theorem matrixInverts_card : Rows.MatrixInvertsCardSaid :=
  Claim7.holds_tied_plain_at .later [] _ _ _ _ matrixInverts_said (fun _ h => by cases h) (by kernel_rfl) (fun _ h => by cases h) matrixInverts_row_tie rfl ⟨rfl, rfl⟩ (by kernel_rfl) rfl matrixInverts_plain (by kernel_rfl)
#print axioms matrixInverts_card
end Go.Proofs.YtogakaiibijjpaaGreatDoor
