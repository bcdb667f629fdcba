/- Lemmas for the proof, part 6: M7, M8, F2, Sh3, M9, K0, O1. -/
import Derived.Test.YtogakaiibijjpaaGreatDoorW5
import Derived.Shelf.Strings.Builder1
import Derived.Shelf.Strings.Builder2
import Derived.Shelf.Strings.OnBuilder
import Derived.Shelf.Strings.Trim
import Derived.Shelf.Small.Utf8
import Derived.Shelf.Small.Bits
import Derived.Shelf.Small.Strs
import Derived.Shelf.Small.Wraps
import Derived.Shelf.Strings.BuilderF
import Derived.Shelf.Strconv.Itoa0
import Derived.Shelf.Strconv.Itoa1
import Derived.Shelf.LaysM
import Derived.Shelf.Strconv.Itoa2
import Derived.Shelf.Strconv.Itoa3
import Derived.Ground.MpProg
import Derived.Shelf.Pu.ParseUintPublic10
import Derived.Shelf.Strings.Search1
import Derived.Shelf.Strings.Search2
import Derived.Shelf.Strings.Cut
import Derived.Shelf.Strings.Shaped
import Derived.Shelf.GgClosure.StringsIndexFunc
import Derived.Ground.GgwProg
import Derived.Shelf.GgClosure.StringsIndexFuncTop
import Derived.Shelf.Strings.Prefix
import Derived.Shelf.Unicode.Decode
import Derived.Shelf.Strings.Runes
import Derived.Shelf.Strings.AsciiSet
import Derived.Shelf.Bits.Mul64
import Derived.Shelf.Strings.Repeat
import Derived.Shelf.Unicode.DecodeSlow
import Derived.Shelf.Unicode.DecodeAny
import Derived.Shelf.Unicode.DecodeLast
import Derived.Shelf.Strings.FuncGrows
import Derived.Shelf.Slices.Turned
import Derived.Ground.Names2Prog
import Derived.Shelf.Slices.ReverseS
import Derived.Shelf.Slices.Cells
import Derived.Ground.SlgnProg
import Derived.Shelf.SlicesE.Clone
import Derived.Test.YtogakaiibijjpaaGreatDoorProg
import Derived.Deep.RegionHeld3
import Derived.StillTail
/- Package matrix, seventh part: reduced. -/
set_option linter.unusedVariables false
set_option linter.unusedSimpArgs false
namespace Go.Proofs.YtogakaiibijjpaaGreatDoor
open Go.RowKit
open DDig DLin

/-- What holds between two columns. -/
structure RedI (w wr : World) (M : Mat) (m n c k g q : Nat) (t8 t10 : Value) : Prop where
  k10 : t10 = .int .i64 k
  kn : k ≤ n
  tbl : Tbl wr g (Gs w q) m c (steps m M k).M
  oth : ∃ d : QV, Oth w wr q d (steps m M k).det t8 (steps m M k).piv

set_option maxRecDepth 100000 in
set_option maxHeartbeats 8000000 in
theorem mat_reduced (w : World) (v : Value) (m n c : Nat) (M : Mat) (h : MatQ w v m c M) (hm : m ≤ 256) (hc : c ≤ 1000) (hnc : n ≤ c) (b : Nat) (hb : 0 < b) (hs : TSz M m c b) (hsz : 5 ^ (m + 1) * b ≤ 100000000000) :
    Calls Tryz.prog 52 #[v, .int .i64 n] w (Ret w fun w' v' => ∃ (R P : Value) (d : QV), v' = .tuple #[R, P, d.v] ∧ MatQ w' R m c (steps m M n).M ∧ OwnC IsI64 w' w.heap.size 3 1 P (steps m M n).piv.length (pivs (steps m M n).piv) ∧ RatR w' d (steps m M n).det) := by
  have H := Hid.mk h
  have HSZ := Hid.mk (steps_size hb hs)
  clear h hs
  go_enter Tryz.func52, Tryz.ntmps52
  go_wp2_with fail
  obtain ⟨W, hW, hX, b6, hWs⟩ := setup1 w #[.bool false, .slice none 0 0, .bool false, .slice none 0 0] 71
  rw [hW]
  clear hW
  refine (clone_m w _ v m c M H.out hX (by omega)).mono ?_
  rintro e w1 ⟨⟨v1, rfl, us, hul, ho, hu⟩, hx1⟩
  have HU := Hid.mk hu
  have HO := Hid.mk ho
  replace b6 := b6.x hx1
  have B6 := Hid.mk b6
  have HX := Hid.mk (hX.trans hx1)
  clear hx1 hX ho hu b6
  go_wp2_with fail
  refine (rat_from _ 1 (by omega) (by omega)).mono ?_
  rintro e w2 ⟨⟨v2, rfl, d, rfl, hd⟩, hx2⟩
  replace HX := Hid.mk (HX.out.trans hx2)
  replace B6 := Hid.mk (B6.out.x hx2)
  replace HO := Hid.mk (HO.out.x hx2)
  have HD := Hid.mk hd
  clear hx2 hd
  go_upto_region 4 with (fail)
  obtain ⟨W3, hW3, hX23, hX3, b9, hd3⟩ := store4 (t := 71) HX.out HD.out
  rw [hW3]
  clear hW3
  obtain ⟨q, hq⟩ : ∃ q, q = w2.heap.size := ⟨_, rfl⟩
  rw [← hq] at b9 ⊢
  have hq6 : w.heap.size < q := by have := B6.out.lt; omega
  replace HD : Hid (RatR W3 d 1) := by
    have e : ((1 : Int) : Rat) = 1 := rfl
    rw [e] at hd3; exact hd3
  have B9 := Hid.mk b9
  replace B6 := Hid.mk (B6.out.x hX23)
  have hU2 : ∀ i u, us[i]? = some u → SlQ W3 u c (M i) ∧ Off (Gs w q) c u := fun i u hu => ⟨(HU.out i u hu).x hX3, (HU.out i u hu).off (Gs.le hq6)⟩
  have hO2 := HO.out.x hX23
  replace HX := Hid.mk hX3
  clear hX3 hX23 hd3 b9 HU HO hq
  rcases own_parts hO2.1 with ⟨rfl, rfl⟩ | ⟨g, cap, sp, rfl, hgb, hgl, hmc, -, -⟩
  · clear hO2 hU2
    have hst : Hid (steps 0 M n = ⟨M, [], 1⟩) := by
      have := steps_full (M := M) (m := 0) (k := 0) rfl n
      rw [Nat.zero_add] at this
      exact this
    have hb9 := B9.out
    have c0 := hb9.cell (j := 0) rfl; have c1 := hb9.cell (j := 1) rfl; have c2 := hb9.cell (j := 2) rfl; have c3 := hb9.cell (j := 3) rfl
    have hb6 := B6.out
    have k0 := hb6.cell (j := 0) rfl; have k1 := hb6.cell (j := 1) rfl; have k2 := hb6.cell (j := 2) rfl; have k3 := hb6.cell (j := 3) rfl; have f0 := hb6.frozen 0; have f1 := hb6.frozen 1; have f2 := hb6.frozen 2; have f3 := hb6.frozen 3
    have hne : ¬ w.heap.size = q := by omega
    have hne2 : ¬ q = w.heap.size := by omega
    have K := four_cells hb6 (.bool d.s) (.slice d.A d.n d.c) (.bool d.t) (.slice d.B d.m d.d)
    have HFT : Hid (MatQ (put4 W3 w.heap.size d).drew (.slice none 0 0) 0 c (steps 0 M n).M) := SlM.nil _ _ _ _
    have HFP : Hid (OwnC IsI64 (put4 W3 w.heap.size d).drew w.heap.size 3 1 (.slice none 0 0) (steps 0 M n).piv.length (pivs (steps 0 M n).piv)) := by
      rw [hst.out]
      exact OwnC.nil _ _ _ _ _
    have HFD : Hid (RatR (put4 W3 w.heap.size d).drew d (steps 0 M n).det) := by
      rw [hst.out]
      exact (HD.out.put4 hb6 d).x (X.refl _).drew
    have HFX : Hid (X w (put4 W3 w.heap.size d).drew) := (HX.out.put4 (Nat.le_refl _) d).drew
    clear hb9 hb6 hul
    go_wp2_with fail
    go_loopw [8, 10] (fun t8 t10 wr => t8 = .slice none 0 0 ∧ t10 = .int .i64 0 ∧ wr = W3) (fun _ _ _ => 0)
    case atStart => exact ⟨rfl, rfl, rfl⟩
    case round =>
      obtain ⟨rfl, rfl, rfl⟩ := hrel
      by_cases hn0 : 0 < n
      · have hn0' : (0 : Int) < (n : Int) := by omega
        go_wp2_with fail
        go_region
        go_wp2_with fail
        exact bodyPost_ret (v := .tuple #[.slice none 0 0, .slice none 0 0, d.v]) (by simp [results, Tryz.results52, go_sem, K.1, K.2.1, K.2.2.1, K.2.2.2]) rfl ⟨⟨_, rfl, _, _, d, rfl, HFT.out, HFP.out, HFD.out⟩, HFX.out⟩
      · have hn0' : ¬ (0 : Int) < (n : Int) := by omega
        go_wp2_with fail
        go_region
        go_wp2_with fail
        exact bodyPost_ret (v := .tuple #[.slice none 0 0, .slice none 0 0, d.v]) (by simp [results, Tryz.results52, go_sem, K.1, K.2.1, K.2.2.1, K.2.2.2]) rfl ⟨⟨_, rfl, _, _, d, rfl, HFT.out, HFP.out, HFD.out⟩, HFX.out⟩
  · have HT := Hid.mk (Tbl.of (cap := cap) hO2 hU2 hul)
    clear hO2 hU2 hul
    go_wp2_with fail
    go_loopw [8, 10] (fun t8 t10 wr => ∃ k, RedI w wr M m n c k g q t8 t10) (fun _ t _ => n - (intOf t).toNat)
    case atStart => exact ⟨0, rfl, Nat.zero_le _, HT.out, d, B9.out, HD.out, B6.out, OwnC.nil _ _ _ _ _, HX.out⟩
    case round =>
      obtain ⟨k, rfl, hkn, hT, d', hO⟩ := hrel
      clear HT B9 HD B6 HX
      have HT := Hid.mk hT
      have HO := Hid.mk hO
      clear hT hO
      obtain ⟨hS1, hS2, hS3⟩ := HSZ.out k (by omega)
      have HS1 := Hid.mk hS1
      have HS2 := Hid.mk hS2
      obtain ⟨s, hs⟩ : ∃ s, s = steps m M k := ⟨_, rfl⟩
      rw [← hs] at hS3 HS1 HS2 HO HT
      have HS := Hid.mk hs
      clear hs hS1 hS2
      obtain ⟨PA, pc, rfl, hpc⟩ : ∃ A cc, u8 = .slice A s.piv.length cc ∧ s.piv.length ≤ cc := by
        rcases own_parts HO.out.pv.1 with ⟨e, e2⟩ | ⟨g', cap', sp', e, -, -, e2, -, -⟩
        · rw [e2]; exact ⟨none, 0, e, by omega⟩
        · exact ⟨_, _, e, e2⟩
      have hgw : w.heap.size ≤ g := by omega
      by_cases hk : k < n ∧ s.piv.length < m
      · obtain ⟨hk1, hk2⟩ := hk
        have hk1' : (k : Int) < (n : Int) := by omega
        have hk2' : (s.piv.length : Int) < (m : Int) := by omega
        go_wp2_with fail
        obtain ⟨wo, rfl⟩ : ∃ wo : World, wo = wr := ⟨_, rfl⟩
        go_loopw [12] (fun t12 wr => ∃ i : Nat, s.piv.length ≤ i ∧ i ≤ m ∧ t12 = .int .i64 i ∧ (∀ t, s.piv.length ≤ t → t < i → s.M t k = 0) ∧ X wo wr) (fun t _ => m - (intOf t).toNat)
        case atStart => exact ⟨s.piv.length, Nat.le_refl _, by omega, rfl, fun t h1 h2 => by omega, X.refl _⟩
        case round =>
          obtain ⟨i, hri, him, rfl, hzs, hx⟩ := hrel
          replace HT := Hid.mk (HT.out.x hx)
          replace HO := Hid.mk (HO.out.go hx)
          have HXo := Hid.mk hx
          have HZS := Hid.mk hzs
          clear hx hzs
          by_cases hi : i < m
          · have hi' : (i : Int) < (m : Int) := by omega
            have hkc' : (k : Int) < (c : Int) := by omega
            obtain ⟨d2, b2, o2, a, e0, e1, e2, e3, e4, ha, hsl, hoff, hfr⟩ := HT.out.elem hi (k := k) (by omega)
            obtain ⟨sg1, hsg⟩ : ∃ z, Int.sign (s.M i k).num = z := ⟨_, rfl⟩
            have HA := Hid.mk ha
            clear ha hsl hoff
            go_wp2_with fail
            refine (rat_sign_at _ a (s.M i k) sg1 HA.out hsg).mono ?_
            rintro e w4 ⟨⟨v4, rfl, rfl⟩, hx4⟩
            by_cases hz : s.M i k = 0
            · obtain rfl : sg1 = 0 := by rw [← hsg, hz]; rfl
              have HX4 := Hid.mk (HXo.out.trans hx4)
              have HZ2 : Hid (∀ t, s.piv.length ≤ t → t < i + 1 → s.M t k = 0) := fun t h1 h2 => by
                by_cases e : t = i
                · rw [e]; exact hz
                · exact HZS.out t h1 (by omega)
              clear e0 e1 e2 e3 e4 hfr hsg hx4 hz
              go_wp2
              go_roundw
              case rel => exact ⟨i + 1, by omega, by omega, by go_num, HZ2.out, HX4.out⟩
              case measure => simp [intOf]; omega
            · have hsn : ¬ sg1 = 0 := by
                rw [← hsg, Int.sign_eq_zero_iff_zero]; exact fun h => hz (rat_num_zero.1 h)
              have hib : ((i : Int) == (m : Int)) = false := by rw [beq_eq_false_iff_ne]; omega
              replace HT := Hid.mk (HT.out.x hx4)
              replace HO := Hid.mk (HO.out.go hx4)
              have HF : Hid (findRow s.M k (m - s.piv.length) s.piv.length = some i) := findRow_some_of hz hri (by omega) HZS.out
              have HNZ := Hid.mk hz
              clear e0 e1 e2 e3 e4 hfr hsg hx4 hz HZS HA HXo wr
              go_upto_if 55 with (fail)
              go_cut [] (fun wc => ∃ d1 : QV, Tbl wc g (Gs w q) m c (swapped s.M s.piv.length i) ∧ Oth w wc q d1 (if i = s.piv.length then s.det else - s.det) (.slice PA s.piv.length pc) s.piv)
              case first =>
                by_cases hir : i = s.piv.length
                · have hnb : ((i : Int) != (s.piv.length : Int)) = false := by rw [hir]; simp
                  go_wp2_with fail
                  go_meet
                  exact ⟨d', by rw [hir, swapped_self]; exact HT.out, by rw [if_pos hir]; exact HO.out⟩
                · have hnb : ((i : Int) != (s.piv.length : Int)) = true := by rw [bne_iff_ne]; omega
                  have hrm : s.piv.length < m := by omega
                  obtain ⟨B1, d3, e0, hs1, ho1, f0⟩ := HT.out.row hi
                  obtain ⟨B2, d4, e1, hs2, ho2, f1⟩ := HT.out.row hrm
                  have hne1 : ¬ i = s.piv.length := hir
                  have hne2 : ¬ s.piv.length = i := fun h => hir h.symm
                  have HTS := Hid.mk (HT.out.swap hi hrm hs1 hs2 ho1 ho2)
                  have HOS := Hid.mk ((HO.out.put HT.out hgw i (.slice B2 c d4)).put (HT.out.put hi hs2 ho2) hgw s.piv.length (.slice B1 c d3))
                  clear hs1 hs2 ho1 ho2
                  go_wp2_with fail
                  go_region
                  obtain ⟨W5, hW5⟩ : ∃ W5 : World, W5 = ((w4.setCell ⟨g, i, none⟩ (.slice B2 c d4)).setCell ⟨g, s.piv.length, none⟩ (.slice B1 c d3)).drew := ⟨_, rfl⟩
                  rw [← hW5]
                  replace HTS := Hid.mk (HTS.out.x (X.refl _).drew)
                  replace HOS := Hid.mk (HOS.out.go (X.refl _).drew)
                  rw [← hW5] at HTS HOS
                  clear hW5 e0 e1 f0 f1 HT HO
                  have hb9 := HOS.out.b9
                  have c0 := hb9.cell (j := 0) rfl; have c1 := hb9.cell (j := 1) rfl; have c2 := hb9.cell (j := 2) rfl; have c3 := hb9.cell (j := 3) rfl
                  clear hb9
                  go_wp2_with fail
                  refine (rat_neg _ d' s.det HOS.out.rd).mono ?_
                  rintro e w6 ⟨⟨v6, rfl, r6, rfl, hr6⟩, hx6⟩
                  replace HTS := Hid.mk (HTS.out.x hx6)
                  replace HOS := Hid.mk (HOS.out.go hx6)
                  have hb9 := HOS.out.b9
                  have hTT := Hid.mk (HTS.out.det (Or.inl rfl) hb9 r6)
                  have hOO := Hid.mk (HOS.out.det hq6 hr6)
                  have k0 := hb9.cell (j := 0) rfl; have k1 := hb9.cell (j := 1) rfl; have k2 := hb9.cell (j := 2) rfl; have k3 := hb9.cell (j := 3) rfl; have f0 := hb9.frozen 0; have f1 := hb9.frozen 1; have f2 := hb9.frozen 2; have f3 := hb9.frozen 3
                  clear hb9 hx6 hr6 c0 c1 c2 c3
                  go_wp2_with fail
                  go_meet
                  exact ⟨r6, hTT.out, by rw [if_neg hir]; exact hOO.out⟩
              case rest =>
                obtain ⟨d1, hT, hO⟩ := hcut
                replace HT := Hid.mk hT
                replace HO := Hid.mk hO
                clear hT hO
                have hrm : s.piv.length < m := by omega
                obtain ⟨S, hSd⟩ : ∃ S, S = 5 ^ s.piv.length * b := ⟨_, rfl⟩
                have hSle : S ≤ 4000000000 := by
                  have h1 : 5 ^ (s.piv.length + 2) ≤ 5 ^ (m + 1) := Nat.pow_le_pow_right (by omega) (by omega)
                  have h2 := Nat.mul_le_mul_right b h1
                  have h3 : 5 ^ (s.piv.length + 2) * b = 25 * S := by rw [hSd, Nat.pow_add]; show 5 ^ s.piv.length * 25 * b = _; rw [Nat.mul_comm (5 ^ s.piv.length) 25, Nat.mul_assoc]
                  omega
                rw [← hSd] at HS1 HS2
                clear hSd
                obtain ⟨A, hA⟩ : ∃ A, A = swapped s.M s.piv.length i := ⟨_, rfl⟩
                obtain ⟨dt, hdt⟩ : ∃ dt, dt = (if i = s.piv.length then s.det else - s.det) := ⟨_, rfl⟩
                have HTA : Hid (TSz A m c S) := by rw [hA]; exact tsz_swapped HS1.out hrm hi
                have HTD : Hid (RSz dt S) := by rw [hdt]; split; exact HS2.out; exact HS2.out.neg
                have HNA : Hid (A s.piv.length k ≠ 0) := by
                  have : A s.piv.length k = s.M i k := by rw [hA]; simp [swapped]
                  rw [this]; exact HNZ.out
                rw [← hA] at HT
                rw [← hdt] at HO
                have HA := Hid.mk hA
                have HDT := Hid.mk hdt
                clear hA hdt HS1 HS2
                go_upto_region 16 with (fail)
                go_cut [] (fun wd => ∃ d2 : QV, Tbl wd g (Gs w q) m c A ∧ Oth w wd q d2 (dt * A s.piv.length k) (.slice PA s.piv.length pc) s.piv)
                case first =>
                  have hb9 := HO.out.b9
                  have c0 := hb9.cell (j := 0) rfl; have c1 := hb9.cell (j := 1) rfl; have c2 := hb9.cell (j := 2) rfl; have c3 := hb9.cell (j := 3) rfl
                  obtain ⟨d3, b3, o3, a3, e0, e1, e2, e3, e4, ha3, hsl, hoff, hfr⟩ := HT.out.elem hrm (k := k) (by omega)
                  have HA3 := Hid.mk ha3
                  have hz0 : X wc wc.drew := ⟨rfl, rfl, rfl, Nat.le_refl _, fun _ _ => rfl⟩
                  clear hb9 ha3 hsl hoff hfr
                  go_wp2_with fail
                  first
                    | go_region_with (first
                        | (go_at_call 48; refine (rat_mul _ d1 a3 dt (A s.piv.length k) ?_ ?_ S S HTD.out (HTA.out _ hrm _ (by omega)) (by omega)).mono ?_; exact HO.out.rd.x hz0; exact HA3.out.x hz0; rintro e w5 ⟨⟨v5, rfl, r5, rfl, hr5⟩, hx5⟩; have hz1 := hz0.trans hx5; have hb5 := (HO.out.go hz1).b9; have k0 := hb5.cell (j := 0) rfl; have k1 := hb5.cell (j := 1) rfl; have k2 := hb5.cell (j := 2) rfl; have k3 := hb5.cell (j := 3) rfl; have f0 := hb5.frozen 0; have f1 := hb5.frozen 1; have f2 := hb5.frozen 2; have f3 := hb5.frozen 3))
                    | fail "no"
                  all_goals have hTT := Hid.mk ((HT.out.x hz1).det (Or.inl rfl) hb5 r5)
                  all_goals have hOO := Hid.mk ((HO.out.go hz1).det hq6 hr5)
                  all_goals clear hb5 k0 k1 k2 k3 f0 f1 f2 f3 hx5 hr5 hz1 hz0 e0 e1 e2 e3 e4 c0 c1 c2 c3
                  all_goals go_wp2_with fail
                  all_goals go_meet
                  all_goals exact ⟨r5, hTT.out, hOO.out⟩
                case rest =>
                  obtain ⟨d2, hT, hO⟩ := hcut
                  replace HT := Hid.mk hT
                  replace HO := Hid.mk hO
                  clear hT hO
                  go_upto_region 17 with (fail)
                  go_cut [] (fun we => Tbl we g (Gs w q) m c (scaled A s.piv.length (A s.piv.length k)) ∧ Oth w we q d2 (dt * A s.piv.length k) (.slice PA s.piv.length pc) s.piv)
                  case first =>
                    obtain ⟨d3, b3, o3, a3, e0, e1, e2, e3, e4, ha3, hsl, hoff, hfr⟩ := HT.out.elem hrm (k := k) (by omega)
                    have HA3 := Hid.mk ha3
                    have HSL := Hid.mk hsl
                    have hz0 : X wc wc.drew := ⟨rfl, rfl, rfl, Nat.le_refl _, fun _ _ => rfl⟩
                    have hqd : q < wc.heap.size := HO.out.b9.lt
                    clear ha3 hsl hoff hfr
                    go_wp2_with fail
                    first
                      | go_region_with (first
                          | (go_at_call 89; refine (mat_over _ _ c (A s.piv.length) a3 (A s.piv.length k) ?_ ?_ (by omega) HNA.out S S (HTA.out _ hrm) (HTA.out _ hrm _ (by omega)) (by omega)).mono ?_; exact HSL.out.x hz0; exact HA3.out.x hz0; rintro e w5 ⟨⟨v5, rfl, hv5, hf5⟩, hx5⟩; obtain ⟨A5, d5, rfl, q1, q2, q3⟩ := hv5; have hz1 := hz0.trans hx5; have g0 := hz1.cell e0; obtain ⟨_, _, _, _, _, gf⟩ := (HT.out.x hz1).row hrm))
                      | fail "no"
                    all_goals have hv5 : SlQ w5 (.slice A5 c d5) c (fun j => A s.piv.length j / A s.piv.length k) := ⟨A5, d5, rfl, q1, q2, q3⟩
                    all_goals have hTT := Hid.mk (((HT.out.x hz1).put hrm hv5 (hf5.off (Gs.lt (by exact hqd) hq6))).congr (N := scaled A s.piv.length (A s.piv.length k)) (fun t ht j hj => by unfold scaled; by_cases e : t = s.piv.length <;> simp [e]))
                    all_goals have hOO := Hid.mk ((HO.out.go hz1).put (HT.out.x hz1) hgw s.piv.length (.slice A5 c d5))
                    all_goals clear hv5 q1 q2 q3 g0 gf hf5 hx5 hz1 hz0 e0 e1 e2 e3 e4
                    all_goals go_wp2_with fail
                    all_goals go_meet
                    all_goals exact ⟨hTT.out, hOO.out⟩
                  case rest =>
                    obtain ⟨hT, hO⟩ := hcut
                    replace HT := Hid.mk hT
                    replace HO := Hid.mk hO
                    clear hT hO
                    obtain ⟨B, hB⟩ : ∃ B, B = scaled A s.piv.length (A s.piv.length k) := ⟨_, rfl⟩
                    have HTB : Hid (TSz B m c (2 * S)) := by rw [hB]; exact tsz_scaled HTA.out hrm (by omega) HNA.out
                    rw [← hB] at HT
                    have HB := Hid.mk hB
                    clear hB
                    go_wp2_with fail
                    go_loopw [98] (fun t98 wr => ∃ j : Nat, j ≤ m ∧ t98 = .int .i64 j ∧ Tbl wr g (Gs w q) m c (fun t => if t < j then cleared B s.piv.length k t else B t) ∧ Oth w wr q d2 (dt * A s.piv.length k) (.slice PA s.piv.length pc) s.piv) (fun t _ => m - (intOf t).toNat)
                    case atStart => exact ⟨0, Nat.zero_le _, rfl, HT.out.congr (fun t ht j hj => by simp), HO.out⟩
                    case round =>
                      obtain ⟨j, hj, rfl, hT, hO⟩ := hrel
                      replace HT := Hid.mk hT
                      replace HO := Hid.mk hO
                      clear hT hO
                      by_cases hjm : j < m
                      · have hjm' : (j : Int) < (m : Int) := by omega
                        by_cases hjr : j = s.piv.length
                        · have hnb : ((j : Int) != (s.piv.length : Int)) = false := by rw [hjr]; simp
                          have HN : Hid (Tbl wr g (Gs w q) m c (fun t => if t < j + 1 then cleared B s.piv.length k t else B t)) := HT.out.congr (fun t ht x hx => by
                            by_cases e : t = j
                            · rw [e, if_neg (by omega), if_pos (by omega), hjr]; simp [cleared]
                            · by_cases e2 : t < j
                              · rw [if_pos e2, if_pos (by omega)]
                              · rw [if_neg e2, if_neg (by omega)])
                          clear hjr
                          go_wp2_with fail
                          go_roundw
                          case rel => exact ⟨j + 1, by omega, by go_num, HN.out, HO.out⟩
                          case measure => simp [intOf]; omega
                        · have hnb : ((j : Int) != (s.piv.length : Int)) = true := by rw [bne_iff_ne]; omega
                          obtain ⟨d3, b3, o3, a3, e0, e1, e2, e3, e4, ha3, hsl, hoff, hfr⟩ := HT.out.elem hjm (k := k) (by omega)
                          rw [if_neg (by omega)] at ha3 hsl
                          obtain ⟨x, hx⟩ : ∃ x, x = B j k := ⟨_, rfl⟩
                          rw [← hx] at ha3
                          have HA3 := Hid.mk ha3
                          have HSL := Hid.mk hsl
                          obtain ⟨sg2, hsg⟩ : ∃ z, Int.sign x.num = z := ⟨_, rfl⟩
                          have HXV := Hid.mk hx
                          clear ha3 hsl hoff hx
                          go_wp2_with fail
                          refine (rat_sign_at _ a3 x sg2 HA3.out hsg).mono ?_
                          rintro e W5 ⟨⟨v5, rfl, rfl⟩, hx5⟩
                          by_cases hx0 : x = 0
                          · obtain rfl : sg2 = 0 := by rw [← hsg, hx0]; rfl
                            have HN : Hid (Tbl W5 g (Gs w q) m c (fun t => if t < j + 1 then cleared B s.piv.length k t else B t)) := (HT.out.x hx5).congr (fun t ht y hy => by
                              by_cases e : t = j
                              · rw [e, if_neg (by omega), if_pos (by omega)]
                                have h0 : B j k = 0 := by rw [← HXV.out]; exact hx0
                                simp only [cleared, if_neg hjr, h0, Rat.zero_mul]
                                rw [Rat.sub_eq_add_neg, Rat.neg_zero, Rat.add_zero]
                              · by_cases e2 : t < j
                                · rw [if_pos e2, if_pos (by omega)]
                                · rw [if_neg e2, if_neg (by omega)])
                            have HO5 := Hid.mk (HO.out.go hx5)
                            clear e0 e1 e2 e3 e4 hfr hsg hx5 hx0
                            go_wp2_with fail
                            go_roundw
                            case rel => exact ⟨j + 1, by omega, by go_num, HN.out, HO5.out⟩
                            case measure => simp [intOf]; omega
                          · have hsn : ¬ sg2 = 0 := by
                              rw [← hsg, Int.sign_eq_zero_iff_zero]; exact fun h => hx0 (rat_num_zero.1 h)
                            replace HT := Hid.mk (HT.out.x hx5)
                            replace HO := Hid.mk (HO.out.go hx5)
                            replace HA3 := Hid.mk (HA3.out.x hx5)
                            replace HSL := Hid.mk (HSL.out.x hx5)
                            replace e0 := hx5.cell e0
                            replace e1 := hx5.cell e1
                            replace e2 := hx5.cell e2
                            replace e3 := hx5.cell e3
                            replace e4 := hx5.cell e4
                            obtain ⟨B2, d4, r0, hs2, -, -⟩ := HT.out.row hrm
                            replace hs2 : SlQ W5 (.slice B2 c d4) c (B s.piv.length) := hs2.congr (fun y hy => by
                              split
                              · simp [cleared]
                              · rfl)
                            have HS2 := Hid.mk hs2
                            have hz0 : X W5 W5.drew := ⟨rfl, rfl, rfl, Nat.le_refl _, fun _ _ => rfl⟩
                            have hqd : q < W5.heap.size := HO.out.b9.lt
                            clear hs2 hfr hsg hx5 H HSZ HF HNZ HA HDT HTA HTD HNA HB HS
                            go_wp2_with fail
                            first
                              | go_region_with (first
                                  | (go_at_call 90; refine (mat_less _ _ _ c (B j) (B s.piv.length) a3 x ?_ ?_ ?_ (by omega) (2 * S) (2 * S) (2 * S) (HTB.out _ hjm) (HTB.out _ hrm) (by rw [HXV.out]; exact HTB.out _ hjm _ (by omega)) (by omega)).mono ?_; exact HSL.out.x hz0; exact HS2.out.x hz0; exact HA3.out.x hz0; rintro e w6 ⟨⟨v6, rfl, hv6, hf6⟩, hx6⟩; obtain ⟨A6, d6, rfl, q1, q2, q3⟩ := hv6; have hz1 := hz0.trans hx6; have g0 := hz1.cell e0; obtain ⟨_, _, _, _, _, gf⟩ := (HT.out.x hz1).row hjm))
                              | fail "no"
                            all_goals have hv6 : SlQ w6 (.slice A6 c d6) c (fun t => B j t - x * B s.piv.length t) := ⟨A6, d6, rfl, q1, q2, q3⟩
                            all_goals have hTT := Hid.mk (((HT.out.x hz1).put hjm hv6 (hf6.off (Gs.lt (by exact hqd) hq6))).congr (N := fun t => if t < j + 1 then cleared B s.piv.length k t else B t) (fun t ht y hy => by
                              by_cases e : t = j
                              · simp only [e, if_pos, Nat.lt_succ_self, cleared, if_neg hjr]; rw [HXV.out]
                              · by_cases e2 : t < j
                                · simp only [if_neg e, if_pos e2, if_pos (show t < j + 1 by omega)]
                                · simp only [if_neg e, if_neg e2, if_neg (show ¬ t < j + 1 by omega)]))
                            all_goals have hOO := Hid.mk ((HO.out.go hz1).put (HT.out.x hz1) hgw j (.slice A6 c d6))
                            all_goals clear hv6 q1 q2 q3 g0 gf hf6 hx6 hz1 hz0 e0 e1 e2 e3 e4 r0
                            all_goals go_wp2_with fail
                            all_goals go_roundw
                            all_goals first | exact ⟨j + 1, by omega, by go_num, hTT.out, hOO.out⟩ | (simp [intOf]; omega)
                      · have hjm' : ¬ (j : Int) < (m : Int) := by omega
                        have HTF : Hid (Tbl wr g (Gs w q) m c (cleared B s.piv.length k)) := HT.out.congr (fun t ht x hx => by rw [if_pos (by omega)])
                        have HST : Hid (steps m M (k + 1) = ⟨cleared B s.piv.length k, s.piv ++ [k], dt * A s.piv.length k⟩) := by
                          have e := step_some HF.out
                          show DLin.step m (steps m M k) k = _
                          rw [← HS.out, e, HB.out, HA.out, HDT.out]
                        clear hjm hj
                        have hpl : (s.piv.length + 1) * 8 ≤ 140737488355328 := by omega
                        go_wp2_with (at_builtin; refine append_oneC IsI64 w _ rfl _ _ 30 rfl 3 (.int .i64 0) 1 8 Tryz.underlying30 info_int rfl (by omega) (fun u hu => ⟨0, by simpa [Value.cells] using hu⟩) _ _ _ rfl HO.out.pv _ _ _ rfl rfl (by simp [Value.oneCell']) (fun u hu => ⟨k, by simpa using hu⟩) (by omega) (by omega) HO.out.x ?_; intro v7 w7 ho7 hx7 hk7; have HTG := Hid.mk (HTF.out.app HO.out hk7); have HOG := Hid.mk (HO.out.app ho7 hx7 hk7); clear ho7 hx7 hk7)
                        go_roundw
                        case rel => exact ⟨k + 1, by go_num, by omega, by rw [HST.out]; exact HTG.out, d2, by rw [HST.out]; exact HOG.out⟩
                        case measure => simp [intOf]; omega
          · have him' : i = m := by omega
            have hib : ((i : Int) == (m : Int)) = true := by rw [him']; simp
            have hi' : ¬ (i : Int) < (m : Int) := by omega
            have HST : Hid (steps m M (k + 1) = s) := by
              have hf := findRow_none_of (M := s.M) (k := k) (d := m - s.piv.length) (i := s.piv.length) (fun t h1 h2 => HZS.out t h1 (by omega))
              have e := step_none hf
              show steps m M (k + 1) = s
              rw [← e, HS.out]; rfl
            clear hi him him' hri
            go_wp2_with fail
            go_roundw
            case rel => exact ⟨k + 1, by go_num, by omega, by rw [HST.out]; exact HT.out, d', by rw [HST.out]; exact HO.out⟩
            case measure => simp [intOf]; omega
      · have HST : Hid (steps m M n = s) := by
          by_cases h1 : k = n
          · rw [← h1]; exact HS.out.symm
          · have h2 : s.piv.length = m := by omega
            have := steps_full (M := M) (m := m) (k := k) (by rw [← HS.out]; exact h2) (n - k)
            rw [show k + (n - k) = n by omega] at this
            show steps m M n = s
            rw [this, HS.out]
        have hb9 := HO.out.b9
        have c0 := hb9.cell (j := 0) rfl; have c1 := hb9.cell (j := 1) rfl; have c2 := hb9.cell (j := 2) rfl; have c3 := hb9.cell (j := 3) rfl
        have hb6 := HO.out.b6
        have k0 := hb6.cell (j := 0) rfl; have k1 := hb6.cell (j := 1) rfl; have k2 := hb6.cell (j := 2) rfl; have k3 := hb6.cell (j := 3) rfl; have f0 := hb6.frozen 0; have f1 := hb6.frozen 1; have f2 := hb6.frozen 2; have f3 := hb6.frozen 3
        have hne : ¬ w.heap.size = q := by omega
        have hne2 : ¬ q = w.heap.size := by omega
        have K := four_cells hb6 (.bool d'.s) (.slice d'.A d'.n d'.c) (.bool d'.t) (.slice d'.B d'.m d'.d)
        have HFT : Hid (MatQ (put4 wr w.heap.size d').drew (.slice (some ⟨g, 0, none⟩) m cap) m c (steps m M n).M) := by
          rw [HST.out]
          exact ((HT.out.det (Or.inr rfl) (d := ⟨false, none, 0, 0, false, none, 0, 0⟩) hb6 d').x (X.refl _).drew).read hmc
        have HFP : Hid (OwnC IsI64 (put4 wr w.heap.size d').drew w.heap.size 3 1 (.slice PA s.piv.length pc) (steps m M n).piv.length (pivs (steps m M n).piv)) := by
          rw [HST.out]
          have ht := HO.out.pv.type hb6 (by decide)
          exact ((((HO.out.pv.put ht 0 (.bool d'.s)).put ht 1 (.slice d'.A d'.n d'.c)).put ht 2 (.bool d'.t)).put ht 3 (.slice d'.B d'.m d'.d)).x (X.refl _).drew
        have HFD : Hid (RatR (put4 wr w.heap.size d').drew d' (steps m M n).det) := by
          rw [HST.out]
          exact (HO.out.rd.put4 hb6 d').x (X.refl _).drew
        have HFX : Hid (X w (put4 wr w.heap.size d').drew) := (HO.out.x.put4 (Nat.le_refl _) d').drew
        clear hb9 hb6
        by_cases hkn2 : k < n
        · have hk1' : (k : Int) < (n : Int) := by omega
          have hk2' : ¬ (s.piv.length : Int) < (m : Int) := by omega
          clear hk
          go_wp2_with fail
          go_region
          go_wp2_with fail
          exact bodyPost_ret (v := .tuple #[.slice (some ⟨g, 0, none⟩) m cap, .slice PA s.piv.length pc, d'.v]) (by simp [results, Tryz.results52, go_sem, K.1, K.2.1, K.2.2.1, K.2.2.2]) rfl ⟨⟨_, rfl, _, _, d', rfl, HFT.out, HFP.out, HFD.out⟩, HFX.out⟩
        · have hk1' : ¬ (k : Int) < (n : Int) := by omega
          clear hk
          go_wp2_with fail
          go_region
          go_wp2_with fail
          exact bodyPost_ret (v := .tuple #[.slice (some ⟨g, 0, none⟩) m cap, .slice PA s.piv.length pc, d'.v]) (by simp [results, Tryz.results52, go_sem, K.1, K.2.1, K.2.2.1, K.2.2.2]) rfl ⟨⟨_, rfl, _, _, d', rfl, HFT.out, HFP.out, HFD.out⟩, HFX.out⟩
end Go.Proofs.YtogakaiibijjpaaGreatDoor

/- Package matrix, eighth part: Reduce, Rank. -/
set_option linter.unusedVariables false
set_option linter.unusedSimpArgs false
namespace Go.Proofs.YtogakaiibijjpaaGreatDoor
open Go.RowKit
open DDig DLin

/-- A list of numbers that is read. -/
def PivR (w : World) (P : Value) (l : List Nat) : Prop := ∃ A c, P = .slice A l.length c ∧ l.length ≤ c ∧ Rd w .i64 A (l.map fun x : Nat => (x : Int)) ∧ (A = none → l = [] ∧ c = 0)
theorem PivR.x {w w' : World} {P : Value} {l : List Nat} (h : PivR w P l) (hx : X w w') : PivR w' P l := by
  obtain ⟨A, c, h1, h2, h3, h4⟩ := h
  exact ⟨A, c, h1, h2, h3.x hx, h4⟩
theorem PivR.own {w : World} {base : Nat} {P : Value} {l : List Nat} (h : OwnC IsI64 w base 3 1 P l.length (pivs l)) : PivR w P l := by
  have h1 := h.1
  have e : l.length = (l.map fun x : Nat => (x : Int)).length := by simp
  unfold pivs at h1
  rw [e] at h1
  obtain ⟨A, c, h2, h3, h4, h5⟩ := own_rd h1
  rw [← e] at h2 h3
  exact ⟨A, c, h2, h3, h4, fun h => by have := h5 h; simpa using this⟩
theorem SlQ.ofClone {w : World} {base : Nat} {v : Value} {n : Nat} {f : Nat → Rat} (h : ∃ qs : List QV, qs.length = n ∧ w.ownsRow base 71 4 v n (qcs qs) ∧ ∀ j a, qs[j]? = some a → RatR w a (f j)) : SlQ w v n f := by
  obtain ⟨qs, h1, h2, h3⟩ := h
  exact SlQ.own h2 h1 h3


set_option maxRecDepth 100000 in
set_option maxHeartbeats 4000000 in
theorem mat_rank (w : World) (v : Value) (m c : Nat) (M : Mat) (h : MatQ w v m c M) (hm : m ≤ 256) (hc : c ≤ 96) (hmc : m = 0 → c = 0) (b : Nat) (hb : 0 < b) (hs : TSz M m c b) (hsz : 5 ^ (m + 1) * b ≤ 100000000000) :
    Calls Tryz.prog 16 #[v] w (Ret w fun w' v' => v' = .tuple #[.int .i64 (steps m M c).piv.length, .int .i64 0]) := by
  have H := Hid.mk h
  have HS := Hid.mk hs
  clear h hs
  go_enter Tryz.func16, Tryz.ntmps16
  go_wp2_with fail
  refine (mat_size _ v m c M H.out hm hc).mono ?_
  rintro e w1 ⟨⟨v1, rfl, rfl⟩, hx1⟩
  have HX := Hid.mk hx1
  clear hx1
  go_wp2_with fail
  refine (mat_columns _ v m c M (H.out.x HX.out) (by omega) c (by split <;> omega)).mono ?_
  rintro e w2 ⟨⟨v2, rfl, rfl⟩, hx2⟩
  replace HX := Hid.mk (HX.out.trans hx2)
  clear hx2
  go_wp2_with fail
  refine (mat_reduced _ v m c c M (H.out.x HX.out) hm (by omega) (Nat.le_refl _) b hb HS.out hsz).mono ?_
  rintro e w3 ⟨⟨v3, rfl, R, P, d, rfl, hR, hP, hd⟩, hx3⟩
  obtain ⟨A, pc, rfl, h1, h2, h3⟩ := PivR.own hP
  replace HX := Hid.mk (HX.out.trans hx3)
  obtain ⟨s, hs⟩ : ∃ s, s = steps m M c := ⟨_, rfl⟩
  rw [← hs]
  have HS2 := Hid.mk hs
  clear hs hx3 hR hP hd h2 h3 h1
  go_wp2_with fail
  go_ret2
  refine ⟨⟨_, rfl, ?_⟩, HX.out.alloc _⟩
  show _ = Value.tuple #[.int .i64 (steps m M c).piv.length, .int .i64 0]
  rw [← HS2.out]; rfl

set_option maxRecDepth 100000 in
set_option maxHeartbeats 4000000 in
theorem mat_reduce (w : World) (v : Value) (m c : Nat) (M : Mat) (h : MatQ w v m c M) (hm : m ≤ 256) (hc : c ≤ 96) (hmc : m = 0 → c = 0) (b : Nat) (hb : 0 < b) (hs : TSz M m c b) (hsz : 5 ^ (m + 1) * b ≤ 100000000000) :
    Calls Tryz.prog 14 #[v] w (Ret w fun w' v' => ∃ R P, v' = .tuple #[R, P, .int .i64 0] ∧ MatQ w' R (steps m M c).piv.length c (steps m M c).M ∧ PivR w' P (steps m M c).piv) := by
  have H := Hid.mk h
  have HS := Hid.mk hs
  have HL := Hid.mk (steps_size hb hs c (Nat.le_refl _)).2.2
  clear h hs
  go_enter Tryz.func14, Tryz.ntmps14
  go_wp2_with fail
  refine (mat_size _ v m c M H.out hm hc).mono ?_
  rintro e w1 ⟨⟨v1, rfl, rfl⟩, hx1⟩
  have HX := Hid.mk hx1
  clear hx1
  go_wp2_with fail
  refine (mat_columns _ v m c M (H.out.x HX.out) (by omega) c (by split <;> omega)).mono ?_
  rintro e w2 ⟨⟨v2, rfl, rfl⟩, hx2⟩
  replace HX := Hid.mk (HX.out.trans hx2)
  clear hx2
  go_wp2_with fail
  refine (mat_reduced _ v m c c M (H.out.x HX.out) hm (by omega) (Nat.le_refl _) b hb HS.out hsz).mono ?_
  rintro e w3 ⟨⟨v3, rfl, R, P, d, rfl, hR, hP, hd⟩, hx3⟩
  have hPR := PivR.own hP
  obtain ⟨A, pc, rfl, h1, h2, h3⟩ := id hPR
  obtain ⟨B, rc, rfl, g1, g2, g3⟩ := id hR
  have HPR := Hid.mk hPR
  have HR := Hid.mk hR
  replace HX := Hid.mk (HX.out.trans hx3)
  have hlen := HL.out
  obtain ⟨s, hs⟩ : ∃ s, s = steps m M c := ⟨_, rfl⟩
  rw [← hs] at HPR HR hlen ⊢
  have HSX := Hid.mk hs
  clear hs hx3 hR hP hd h2 h3 hPR HL
  obtain ⟨w4, hw4, hX34, -, -⟩ := setup1 w3 #[.bool d.s, .slice d.A d.n d.c, .bool d.t, .slice d.B d.m d.d] 71
  replace HX := Hid.mk (HX.out.trans hX34)
  replace HPR := Hid.mk (HPR.out.x hX34)
  replace HR := Hid.mk (HR.out.x hX34)
  clear hX34
  have hl1 : (0 : Int) ≤ (s.piv.length : Int) := by omega
  have hl2 : (s.piv.length : Int) ≤ (rc : Int) := by omega
  go_wp2_with fail
  clear hw4 g1 g2 g3 h1
  go_loopw [8, 29] (fun t8 t29 wr => ∃ (k : Nat) (us : List Value), k ≤ s.piv.length ∧ t29 = .int .i64 k ∧ OwnC IsSl wr w4.heap.size 49 1 t8 k us ∧ us.length = k ∧ (∀ i u, us[i]? = some u → SlQ wr u c (s.M i)) ∧ X w4 wr) (fun _ t _ => s.piv.length - (intOf t).toNat)
  case atStart => exact ⟨0, [], Nat.zero_le _, rfl, OwnC.nil _ _ _ _ _, rfl, by simp, X.refl _⟩
  case round =>
    obtain ⟨k, us, hk, rfl, ho, hl, hu, hx⟩ := hrel
    have HO := Hid.mk ho
    have HU := Hid.mk hu
    have HX4 := Hid.mk hx
    clear ho hu hx
    by_cases hkp : k < s.piv.length
    · have hkp' : (k : Int) < (s.piv.length : Int) := by omega
      obtain ⟨B', rc', e, -, -, g3⟩ := HR.out
      injection e with e1 e2 e3
      subst e1 e3
      obtain ⟨b1, o1, rfl, gg⟩ := g3 (by omega)
      obtain ⟨u1, c0, hs1⟩ := gg k (by omega)
      obtain ⟨A1, d1, rfl, p1, p2, p3⟩ := id hs1
      replace c0 := HX4.out.cell c0
      have HS1 := Hid.mk (hs1.x HX4.out)
      clear gg g3 hs1 p1 p2 p3 e2
      go_wp2_with fail
      refine (clone_q _ _ c (s.M k) HS1.out (by omega)).mono ?_
      rintro e w5 ⟨⟨v5, rfl, hcl⟩, hx5⟩
      have hs5 := SlQ.ofClone hcl
      obtain ⟨A5, d5, rfl, p1, p2, p3⟩ := id hs5
      have HS5 := Hid.mk hs5
      replace HX4 := Hid.mk (HX4.out.trans hx5)
      replace HO := Hid.mk (HO.out.x hx5)
      replace HU := Hid.mk (fun i u hi => (HU.out i u hi).x hx5)
      have hkb : (k + 1) * 24 ≤ 140737488355328 := by omega
      clear hcl hs5 p1 p2 p3 hx5 c0
      go_wp2_with (at_builtin; refine append_oneC IsSl w4 _ rfl _ _ 29 rfl 49 (.slice none 0 0) 1 24 Tryz.underlying29 info_sQ rfl (by omega) (fun u hu => ⟨none, 0, 0, by simpa [Value.cells] using hu⟩) _ _ _ rfl HO.out _ _ _ rfl rfl (by simp [Value.oneCell']) (fun u hu => ⟨A5, c, d5, by simpa using hu⟩) (by omega) (by omega) HX4.out ?_; intro v6 w6 ho6 hx6 hk6; have HO6 := Hid.mk ho6; have HX6 := Hid.mk hx6; have HU6 := Hid.mk (fun i u hi => (HU.out i u hi).kApp HO.out hk6); have HS6 := Hid.mk (HS5.out.kApp HO.out hk6); clear ho6 hx6 hk6)
      go_roundw
      case rel =>
        refine ⟨k + 1, us ++ [.slice A5 c d5], by omega, by go_num, HO6.out, by simp [hl], fun i u hi => ?_, HX6.out⟩
        by_cases e : i = k
        · subst e
          rw [List.getElem?_append_right (by omega), hl] at hi
          simp at hi
          subst hi
          exact HS6.out
        · have hil : i < us.length := by
            have := (List.getElem?_eq_some_iff.1 hi).1
            simp at this
            omega
          rw [List.getElem?_append_left hil] at hi
          exact HU6.out i u hi
      case measure => simp [intOf]; omega
    · obtain rfl : k = s.piv.length := by omega
      have HF := Hid.mk (SlM.own (S := SlQ) (M := s.M) (c := c) HO.out.1 hl HU.out)
      have HP := Hid.mk (HPR.out.x HX4.out)
      have HXF := Hid.mk (HX.out.trans HX4.out)
      have hkp' : ¬ (s.piv.length : Int) < (s.piv.length : Int) := by omega
      clear hkp hk
      go_wp2_with fail
      refine bodyPost_ret (v := .tuple #[u8, .slice A s.piv.length pc, .int .i64 0]) (by simp [results, Tryz.results14, go_sem]) rfl ⟨⟨_, rfl, u8, _, rfl, ?_, ?_⟩, HXF.out⟩
      · rw [← HSX.out]; exact HF.out
      · rw [← HSX.out]; exact HP.out
end Go.Proofs.YtogakaiibijjpaaGreatDoor

/- The reference: Columns, at; lists of fractions as cells. -/
set_option linter.unusedVariables false
set_option linter.unusedSimpArgs false
namespace Go.Proofs.YtogakaiibijjpaaGreatDoor
open Go.RowKit
open DDig DLin

theorem RowF.list {w : World} {A : Option Addr} {n : Nat} {f : Nat → Rat} (h : RowF w A n f) :
    ∃ fs : List FV, fs.length = n ∧ (∀ j a, fs[j]? = some a → FR a (f j)) ∧ ∀ b o, A = some ⟨b, o, none⟩ → ∀ i v, (fcs fs)[i]? = some v → w.cell? ⟨b, o + i, none⟩ = some v := by
  by_cases h0 : 0 < n
  · obtain ⟨b, o, rfl, g⟩ := h h0
    obtain ⟨fs, h1, h2⟩ := list_of n g
    refine ⟨fs, h1, fun j a ha => (h2 j a ha).2.2, fun b' o' e i v hv => ?_⟩
    injection e with e; injection e with e1 e2
    subst e1 e2
    obtain ⟨a, ha, hc⟩ := flat_inv fvc 2 (fun _ => rfl) (by omega) fs hv
    obtain ⟨c0, c1, -⟩ := h2 _ a ha
    have hlt : i % 2 < 2 := Nat.mod_lt _ (by omega)
    have hi : i = i / 2 * 2 + i % 2 := by omega
    rw [hi]
    obtain ⟨r, hr⟩ : ∃ r, r = i % 2 := ⟨_, rfl⟩
    rw [← hr] at hc hlt ⊢
    match r, hlt with
    | 0, _ => injection hc with hc; subst hc; simpa using c0
    | 1, _ => injection hc with hc; subst hc; simpa [Nat.add_assoc] using c1
  · obtain rfl : n = 0 := by omega
    exact ⟨[], rfl, by simp, by simp⟩
theorem fcs_one (fs : List FV) : ∀ u ∈ fcs fs, u.oneCell' = true := by
  intro u hu
  simp only [fcs, List.mem_flatMap] at hu
  obtain ⟨a, _, ha⟩ := hu
  simp [fvc] at ha
  rcases ha with rfl | rfl <;> rfl
theorem FCs.list {fs : List FV} {sp : List Value} {c : Nat} {f : Nat → Rat} (hl : fs.length = c) (hf : ∀ j a, fs[j]? = some a → FR a (f j)) : FCs (fcs fs ++ sp) c f := fun j hj => by
  have ha : fs[j]? = some fs[j] := List.getElem?_eq_getElem (by omega)
  refine ⟨fs[j], ?_, ?_, hf j _ ha⟩
  · have := flat_get fvc 2 (fun _ => rfl) fs j 0 _ ha (by omega)
    exact app_get (by simpa using this)
  · exact app_get (flat_get fvc 2 (fun _ => rfl) fs j 1 _ ha (by omega))

theorem ref_columns (w : World) (v : Value) (m c : Nat) (M : Nat → Nat → Rat) (h : MatF w v m c M) (hm : m ≤ 9223372036854775807) (k : Nat) (hk : k = if m = 0 then 0 else c) :
    Calls Tryz.prog 20 #[v] w (Ret w fun w' v => v = .int .i64 k) := by
  obtain ⟨A, d, rfl, h1, h2, h3⟩ := h
  have HX := Hid.mk (X.refl w)
  by_cases h0 : m = 0
  · subst h0
    obtain rfl : k = 0 := by simpa using hk
    clear h3 h2 hk
    go_enter Tryz.func20, Tryz.ntmps20
    go_wp2
    go_ret
    exact ⟨⟨_, rfl, rfl⟩, HX.out⟩
  · obtain rfl : k = c := by simpa [h0] using hk
    obtain ⟨b, o, rfl, g⟩ := h3 (by omega)
    obtain ⟨u, e0, B, d', rfl, h4, h5, h6⟩ := g 0 (by omega)
    rw [Nat.add_zero] at e0
    have hb : ((m : Int) == 0) = false := by rw [beq_eq_false_iff_ne]; omega
    have hp : (0 : Int) < (m : Int) := by omega
    clear g h3 h2 h5 h6 hk
    go_enter Tryz.func20, Tryz.ntmps20
    go_wp2
    go_ret
    exact ⟨⟨_, rfl, rfl⟩, HX.out⟩
end Go.Proofs.YtogakaiibijjpaaGreatDoor

/- Contracts of the shelf at this translation, in plain words (written by the shelf's own tool). -/
set_option linter.unusedVariables false
set_option linter.unusedSimpArgs false
namespace Go.Proofs
open Go.Shelf
def Tryz.lays160_ren : Go.Shelf.Ren := ⟨fun | 160 => 128 | 232 => 147 | 231 => 146 | 227 => 148 | 234 => 150 | 233 => 149 | 236 => 152 | 235 => 151 | 228 => 169 | 271 => 172 | 151 => 171 | 197 => 170 | 120 => 191 | 152 => 190 | 260 => 189 | 137 => 206 | 119 => 207 | 224 => 187 | 225 => 186 | 217 => 185 | 266 => 204 | n => n, fun | 9 => 9 | 4 => 4 | 3 => 3 | 5 => 5 | 117 => 191 | 116 => 190 | 0 => 0 | 124 => 194 | 21 => 21 | 105 => 213 | 46 => 153 | 119 => 241 | 139 => 244 | 138 => 243 | n => n, fun | 3 => 2 | 4 => 3 | n => n⟩
theorem Tryz.lays160 : Go.Proofs.Lays.n160 Tryz.prog Tryz.lays160_ren := {
  mixed := by kernel_rfl
  f119 := Tryz.func207.trans (congrArg some (by kernel_rfl))
  f120 := Tryz.func191.trans (congrArg some (by kernel_rfl))
  f137 := Tryz.func206.trans (congrArg some (by kernel_rfl))
  f151 := Tryz.func171.trans (congrArg some (by kernel_rfl))
  f152 := Tryz.func190.trans (congrArg some (by kernel_rfl))
  f160 := Tryz.func128.trans (congrArg some (by kernel_rfl))
  f197 := Tryz.func170.trans (congrArg some (by kernel_rfl))
  f217 := Tryz.func185.trans (congrArg some (by kernel_rfl))
  f224 := Tryz.func187.trans (congrArg some (by kernel_rfl))
  f225 := Tryz.func186.trans (congrArg some (by kernel_rfl))
  f227 := Tryz.func148.trans (congrArg some (by kernel_rfl))
  f228 := Tryz.func169.trans (congrArg some (by kernel_rfl))
  f231 := Tryz.func146.trans (congrArg some (by kernel_rfl))
  f232 := Tryz.func147.trans (congrArg some (by kernel_rfl))
  f233 := Tryz.func149.trans (congrArg some (by kernel_rfl))
  f234 := Tryz.func150.trans (congrArg some (by kernel_rfl))
  f235 := Tryz.func151.trans (congrArg some (by kernel_rfl))
  f236 := Tryz.func152.trans (congrArg some (by kernel_rfl))
  f260 := Tryz.func189.trans (congrArg some (by kernel_rfl))
  f266 := Tryz.func204.trans (congrArg some (by kernel_rfl))
  f271 := Tryz.func172.trans (congrArg some (by kernel_rfl))
  t0 := Tryz.underlying0
  a0 := Tryz.isAgg0
  z0 := Tryz.sizeOf0
  v0 := Tryz.zeroValue0
  t3 := Tryz.underlying3
  a3 := Tryz.isAgg3
  z3 := Tryz.sizeOf3
  v3 := Tryz.zeroValue3
  t4 := Tryz.underlying4
  a4 := Tryz.isAgg4
  z4 := Tryz.sizeOf4
  v4 := Tryz.zeroValue4
  t5 := Tryz.underlying5
  a5 := Tryz.isAgg5
  z5 := Tryz.sizeOf5
  v5 := Tryz.zeroValue5
  t9 := Tryz.underlying9
  a9 := Tryz.isAgg9
  z9 := Tryz.sizeOf9
  v9 := Tryz.zeroValue9
  t21 := Tryz.underlying21
  a21 := Tryz.isAgg21
  z21 := Tryz.sizeOf21
  v21 := Tryz.zeroValue21
  t46 := Tryz.underlying153
  a46 := Tryz.isAgg153
  z46 := Tryz.sizeOf153
  v46 := Tryz.zeroValue153
  t105 := Tryz.underlying213
  a105 := Tryz.isAgg213
  z105 := Tryz.sizeOf213
  v105 := Tryz.zeroValue213
  t116 := Tryz.underlying190
  a116 := Tryz.isAgg190
  z116 := Tryz.sizeOf190
  t117 := Tryz.underlying191
  a117 := Tryz.isAgg191
  z117 := Tryz.sizeOf191
  v117 := Tryz.zeroValue191
  t119 := Tryz.underlying241
  a119 := Tryz.isAgg241
  z119 := Tryz.sizeOf241
  t124 := Tryz.underlying194
  a124 := Tryz.isAgg194
  z124 := Tryz.sizeOf194
  v124 := Tryz.zeroValue194
  t138 := Tryz.underlying243
  a138 := Tryz.isAgg243
  z138 := Tryz.sizeOf243
  v138 := Tryz.zeroValue243
  t139 := Tryz.underlying244
  a139 := Tryz.isAgg244
  z139 := Tryz.sizeOf244
  v139 := Tryz.zeroValue244
  g3 := by kernel_rfl
  g4 := by kernel_rfl }
open Go.RowKit in
theorem Tryz.strings_Trim_one (s : ByteArray) (c : UInt8) (hc : c.toNat < 128) (w : World) (hs : s.size ≤ 9223372036854775807) :
    Calls Tryz.prog 128 #[.string s, .string ⟨#[c]⟩] w fun e w' => e = .returned (.string ⟨(Lib.trimB s.data.toList c).toArray⟩) ∧ (w' = w ∨ w' = w.drew) := Any.strings_Trim_one Tryz.lays160 s c hc w hs
def Tryz.lays103_ren : Go.Shelf.Ren := ⟨fun | 103 => 153 | 210 => 173 | 206 => 161 | n => n, fun | 9 => 9 | 4 => 4 | 24 => 195 | 3 => 3 | n => n, fun | n => n⟩
theorem Tryz.lays103 : Go.Proofs.Lays.n103 Tryz.prog Tryz.lays103_ren := {
  mixed := by kernel_rfl
  f103 := Tryz.func153.trans (congrArg some (by kernel_rfl))
  f206 := Tryz.func161.trans (congrArg some (by kernel_rfl))
  f210 := Tryz.func173.trans (congrArg some (by kernel_rfl))
  t3 := Tryz.underlying3
  a3 := Tryz.isAgg3
  z3 := Tryz.sizeOf3
  v3 := Tryz.zeroValue3
  t4 := Tryz.underlying4
  a4 := Tryz.isAgg4
  z4 := Tryz.sizeOf4
  v4 := Tryz.zeroValue4
  t9 := Tryz.underlying9
  a9 := Tryz.isAgg9
  z9 := Tryz.sizeOf9
  v9 := Tryz.zeroValue9
  t24 := Tryz.underlying195
  a24 := Tryz.isAgg195
  z24 := Tryz.sizeOf195
  v24 := Tryz.zeroValue195 }
open Go.RowKit in
theorem Tryz.strings_CutPrefix (s p : ByteArray) (w : World) :
    Calls Tryz.prog 153 #[.string s, .string p] w fun e w' => e = .returned (.tuple #[.string ⟨(Lib.trimPrefix s.data.toList p.data.toList).toArray⟩, .bool (Lib.hasPrefix s.data.toList p.data.toList)]) ∧ w' = w := Any.strings_CutPrefix Tryz.lays103 s p w
def Tryz.laysPu14_ren : Go.Shelf.Ren := ⟨fun | 14 => 156 | 16 => 175 | 17 => 176 | 19 => 193 | 20 => 194 | 21 => 195 | 22 => 196 | 23 => 197 | 24 => 198 | 25 => 208 | 27 => 103 | 26 => 209 | 28 => 131 | 29 => 158 | 30 => 177 | 31 => 178 | 32 => 179 | 33 => 180 | 35 => 200 | 34 => 199 | 36 => 201 | 37 => 202 | 38 => 203 | 39 => 210 | 40 => 211 | n => n, fun | 9 => 9 | 3 => 3 | 22 => 152 | 24 => 181 | 25 => 199 | 4 => 4 | 34 => 230 | 5 => 5 | 36 => 153 | 37 => 176 | 0 => 0 | 39 => 232 | 21 => 21 | 44 => 246 | 47 => 207 | 50 => 250 | 48 => 248 | 2 => 2 | 52 => 218 | 55 => 221 | 59 => 236 | 60 => 145 | 20 => 20 | 61 => 237 | 65 => 251 | 66 => 252 | 67 => 129 | n => n, fun | 0 => 4 | 1 => 5 | 2 => 1 | 3 => 6 | 4 => 7 | n => n⟩
theorem Tryz.laysPu14 : Go.Proofs.LaysPu.n14 Tryz.prog Tryz.laysPu14_ren := {
  mixed := by kernel_rfl
  f14 := Tryz.func156.trans (congrArg some (by kernel_rfl))
  f16 := Tryz.func175.trans (congrArg some (by kernel_rfl))
  f17 := Tryz.func176.trans (congrArg some (by kernel_rfl))
  f19 := Tryz.func193.trans (congrArg some (by kernel_rfl))
  f20 := Tryz.func194.trans (congrArg some (by kernel_rfl))
  f21 := Tryz.func195.trans (congrArg some (by kernel_rfl))
  f22 := Tryz.func196.trans (congrArg some (by kernel_rfl))
  f23 := Tryz.func197.trans (congrArg some (by kernel_rfl))
  f24 := Tryz.func198.trans (congrArg some (by kernel_rfl))
  f25 := Tryz.func208.trans (congrArg some (by kernel_rfl))
  f26 := Tryz.func209.trans (congrArg some (by kernel_rfl))
  f27 := Tryz.func103.trans (congrArg some (by kernel_rfl))
  f28 := Tryz.func131.trans (congrArg some (by kernel_rfl))
  f29 := Tryz.func158.trans (congrArg some (by kernel_rfl))
  f30 := Tryz.func177.trans (congrArg some (by kernel_rfl))
  f31 := Tryz.func178.trans (congrArg some (by kernel_rfl))
  f32 := Tryz.func179.trans (congrArg some (by kernel_rfl))
  f33 := Tryz.func180.trans (congrArg some (by kernel_rfl))
  f34 := Tryz.func199.trans (congrArg some (by kernel_rfl))
  f35 := Tryz.func200.trans (congrArg some (by kernel_rfl))
  f36 := Tryz.func201.trans (congrArg some (by kernel_rfl))
  f37 := Tryz.func202.trans (congrArg some (by kernel_rfl))
  f38 := Tryz.func203.trans (congrArg some (by kernel_rfl))
  f39 := Tryz.func210.trans (congrArg some (by kernel_rfl))
  f40 := Tryz.func211.trans (congrArg some (by kernel_rfl))
  t0 := Tryz.underlying0
  a0 := Tryz.isAgg0
  z0 := Tryz.sizeOf0
  v0 := Tryz.zeroValue0
  i0 := by kernel_rfl
  t2 := Tryz.underlying2
  a2 := Tryz.isAgg2
  z2 := Tryz.sizeOf2
  v2 := Tryz.zeroValue2
  i2 := by kernel_rfl
  t3 := Tryz.underlying3
  a3 := Tryz.isAgg3
  z3 := Tryz.sizeOf3
  v3 := Tryz.zeroValue3
  i3 := by kernel_rfl
  t4 := Tryz.underlying4
  a4 := Tryz.isAgg4
  z4 := Tryz.sizeOf4
  v4 := Tryz.zeroValue4
  i4 := by kernel_rfl
  t5 := Tryz.underlying5
  a5 := Tryz.isAgg5
  z5 := Tryz.sizeOf5
  v5 := Tryz.zeroValue5
  i5 := by kernel_rfl
  t9 := Tryz.underlying9
  a9 := Tryz.isAgg9
  z9 := Tryz.sizeOf9
  v9 := Tryz.zeroValue9
  i9 := by kernel_rfl
  t20 := Tryz.underlying20
  a20 := Tryz.isAgg20
  z20 := Tryz.sizeOf20
  v20 := Tryz.zeroValue20
  i20 := by kernel_rfl
  t21 := Tryz.underlying21
  a21 := Tryz.isAgg21
  z21 := Tryz.sizeOf21
  v21 := Tryz.zeroValue21
  i21 := by kernel_rfl
  t22 := Tryz.underlying152
  a22 := Tryz.isAgg152
  z22 := Tryz.sizeOf152
  v22 := Tryz.zeroValue152
  i22 := by kernel_rfl
  t24 := Tryz.underlying181
  a24 := Tryz.isAgg181
  z24 := Tryz.sizeOf181
  v24 := Tryz.zeroValue181
  i24 := by kernel_rfl
  t25 := Tryz.underlying199
  a25 := Tryz.isAgg199
  z25 := Tryz.sizeOf199
  v25 := Tryz.zeroValue199
  i25 := by kernel_rfl
  t34 := Tryz.underlying230
  a34 := Tryz.isAgg230
  z34 := Tryz.sizeOf230
  v34 := Tryz.zeroValue230
  i34 := by kernel_rfl
  c34 := by kernel_rfl
  t36 := Tryz.underlying153
  a36 := Tryz.isAgg153
  z36 := Tryz.sizeOf153
  v36 := Tryz.zeroValue153
  i36 := by kernel_rfl
  t37 := Tryz.underlying176
  a37 := Tryz.isAgg176
  z37 := Tryz.sizeOf176
  v37 := Tryz.zeroValue176
  i37 := by kernel_rfl
  t39 := Tryz.underlying232
  a39 := Tryz.isAgg232
  z39 := Tryz.sizeOf232
  v39 := Tryz.zeroValue232
  i39 := by kernel_rfl
  t44 := Tryz.underlying246
  a44 := Tryz.isAgg246
  z44 := Tryz.sizeOf246
  v44 := Tryz.zeroValue246
  i44 := by kernel_rfl
  t47 := Tryz.underlying207
  a47 := Tryz.isAgg207
  z47 := Tryz.sizeOf207
  v47 := Tryz.zeroValue207
  i47 := by kernel_rfl
  t48 := Tryz.underlying248
  a48 := Tryz.isAgg248
  z48 := Tryz.sizeOf248
  v48 := Tryz.zeroValue248
  i48 := by kernel_rfl
  t50 := Tryz.underlying250
  a50 := Tryz.isAgg250
  z50 := Tryz.sizeOf250
  v50 := Tryz.zeroValue250
  i50 := by kernel_rfl
  t52 := Tryz.underlying218
  a52 := Tryz.isAgg218
  z52 := Tryz.sizeOf218
  v52 := Tryz.zeroValue218
  i52 := by kernel_rfl
  t55 := Tryz.underlying221
  a55 := Tryz.isAgg221
  z55 := Tryz.sizeOf221
  v55 := Tryz.zeroValue221
  i55 := by kernel_rfl
  t59 := Tryz.underlying236
  a59 := Tryz.isAgg236
  z59 := Tryz.sizeOf236
  v59 := Tryz.zeroValue236
  i59 := by kernel_rfl
  t60 := Tryz.underlying145
  a60 := Tryz.isAgg145
  z60 := Tryz.sizeOf145
  v60 := Tryz.zeroValue145
  i60 := by kernel_rfl
  t61 := Tryz.underlying237
  a61 := Tryz.isAgg237
  z61 := Tryz.sizeOf237
  t65 := Tryz.underlying251
  a65 := Tryz.isAgg251
  z65 := Tryz.sizeOf251
  v65 := Tryz.zeroValue251
  i65 := by kernel_rfl
  t66 := Tryz.underlying252
  a66 := Tryz.isAgg252
  z66 := Tryz.sizeOf252
  v66 := Tryz.zeroValue252
  i66 := by kernel_rfl
  t67 := Tryz.underlying129
  a67 := Tryz.isAgg129
  z67 := Tryz.sizeOf129
  v67 := Tryz.zeroValue129
  i67 := by kernel_rfl
  g0 := by kernel_rfl
  m0 := by kernel_rfl
  g1 := by kernel_rfl
  m1 := by kernel_rfl
  g2 := by kernel_rfl
  m2 := by kernel_rfl
  g3 := by kernel_rfl
  m3 := by kernel_rfl
  g4 := by kernel_rfl
  m4 := by kernel_rfl }
open Go.RowKit in
theorem Tryz.strconv_ParseUint_10_at32_ok (s : ByteArray) (hmax : s.size ≤ 9223372036854775806) (u : Nat) (h : Lib.parseUintB 32 s.data.toList = .ok u) (w : World) :
    Calls Tryz.prog 156 #[.string s, .int .i64 10, .int .i64 32] w fun e w' => e = .returned (.tuple #[.int .u64 u, .nilIface]) ∧ (w' = w ∨ w' = Lib.bytesWorld w 5 s) := Any.strconv_ParseUint_10_at32_ok Tryz.laysPu14 s hmax u h w
def Tryz.lays145_ren : Go.Shelf.Ren := ⟨fun | 145 => 125 | 220 => 144 | 219 => 168 | 217 => 185 | 225 => 186 | 224 => 187 | 267 => 188 | 266 => 204 | 314 => 205 | n => n, fun | 9 => 9 | 4 => 4 | 59 => 166 | 3 => 3 | 5 => 5 | 46 => 153 | 146 => 203 | 51 => 145 | n => n, fun | 1 => 0 | n => n⟩
theorem Tryz.lays145 : Go.Proofs.Lays.n145 Tryz.prog Tryz.lays145_ren := {
  mixed := by kernel_rfl
  f145 := Tryz.func125.trans (congrArg some (by kernel_rfl))
  f217 := Tryz.func185.trans (congrArg some (by kernel_rfl))
  f219 := Tryz.func168.trans (congrArg some (by kernel_rfl))
  f220 := Tryz.func144.trans (congrArg some (by kernel_rfl))
  f224 := Tryz.func187.trans (congrArg some (by kernel_rfl))
  f225 := Tryz.func186.trans (congrArg some (by kernel_rfl))
  f266 := Tryz.func204.trans (congrArg some (by kernel_rfl))
  f267 := Tryz.func188.trans (congrArg some (by kernel_rfl))
  f314 := Tryz.func205.trans (congrArg some (by kernel_rfl))
  t3 := Tryz.underlying3
  a3 := Tryz.isAgg3
  z3 := Tryz.sizeOf3
  v3 := Tryz.zeroValue3
  t4 := Tryz.underlying4
  a4 := Tryz.isAgg4
  z4 := Tryz.sizeOf4
  v4 := Tryz.zeroValue4
  t5 := Tryz.underlying5
  a5 := Tryz.isAgg5
  z5 := Tryz.sizeOf5
  v5 := Tryz.zeroValue5
  t9 := Tryz.underlying9
  a9 := Tryz.isAgg9
  z9 := Tryz.sizeOf9
  v9 := Tryz.zeroValue9
  t46 := Tryz.underlying153
  a46 := Tryz.isAgg153
  z46 := Tryz.sizeOf153
  v46 := Tryz.zeroValue153
  t51 := Tryz.underlying145
  a51 := Tryz.isAgg145
  z51 := Tryz.sizeOf145
  v51 := Tryz.zeroValue145
  t59 := Tryz.underlying166
  a59 := Tryz.isAgg166
  z59 := Tryz.sizeOf166
  v59 := Tryz.zeroValue166
  t146 := Tryz.underlying203
  a146 := Tryz.isAgg203
  z146 := Tryz.sizeOf203
  v146 := Tryz.zeroValue203
  g1 := by kernel_rfl }
open Go.RowKit Go.Lib in
theorem Tryz.strings_Cut (s sep : ByteArray) (m : Int) (w : World) (hs : s.size < 4294967281) (hm : w.cell? ⟨0, 0, none⟩ = some (.int .i64 m)) :
    Calls Tryz.prog 125 #[.string s, .string sep] w fun e w' => e = .returned (.tuple #[.string ⟨(Lib.cut s.data.toList sep.data.toList).1.toArray⟩, .string ⟨(Lib.cut s.data.toList sep.data.toList).2.1.toArray⟩, .bool (Lib.cut s.data.toList sep.data.toList).2.2]) ∧ ∃ n, w' = w.drewN n := Any.strings_Cut Tryz.lays145 s sep m w hs hm
def Tryz.laysGw17_ren : Go.Shelf.Ren := ⟨fun | 17 => 154 | 15 => 174 | 20 => 192 | n => n, fun | 9 => 9 | 23 => 198 | 4 => 4 | 3 => 3 | 0 => 0 | 21 => 21 | n => n, fun | n => n⟩
theorem Tryz.laysGw17 : Go.Proofs.LaysGw.n17 Tryz.prog Tryz.laysGw17_ren := {
  mixed := by kernel_rfl
  f15 := Tryz.func174.trans (congrArg some (by kernel_rfl))
  f17 := Tryz.func154.trans (congrArg some (by kernel_rfl))
  f20 := Tryz.func192.trans (congrArg some (by kernel_rfl))
  t0 := Tryz.underlying0
  a0 := Tryz.isAgg0
  z0 := Tryz.sizeOf0
  v0 := Tryz.zeroValue0
  i0 := by kernel_rfl
  t3 := Tryz.underlying3
  a3 := Tryz.isAgg3
  z3 := Tryz.sizeOf3
  v3 := Tryz.zeroValue3
  i3 := by kernel_rfl
  t4 := Tryz.underlying4
  a4 := Tryz.isAgg4
  z4 := Tryz.sizeOf4
  v4 := Tryz.zeroValue4
  i4 := by kernel_rfl
  t9 := Tryz.underlying9
  a9 := Tryz.isAgg9
  z9 := Tryz.sizeOf9
  v9 := Tryz.zeroValue9
  i9 := by kernel_rfl
  t21 := Tryz.underlying21
  a21 := Tryz.isAgg21
  z21 := Tryz.sizeOf21
  v21 := Tryz.zeroValue21
  i21 := by kernel_rfl
  t23 := Tryz.underlying198
  a23 := Tryz.isAgg198
  z23 := Tryz.sizeOf198
  v23 := Tryz.zeroValue198
  i23 := by kernel_rfl }
def Tryz.lays101_ren : Go.Shelf.Ren := ⟨fun | 101 => 127 | 208 => 145 | 206 => 161 | n => n, fun | 9 => 9 | 4 => 4 | 3 => 3 | n => n, fun | n => n⟩
theorem Tryz.lays101 : Go.Proofs.Lays.n101 Tryz.prog Tryz.lays101_ren := {
  mixed := by kernel_rfl
  f101 := Tryz.func127.trans (congrArg some (by kernel_rfl))
  f206 := Tryz.func161.trans (congrArg some (by kernel_rfl))
  f208 := Tryz.func145.trans (congrArg some (by kernel_rfl))
  t3 := Tryz.underlying3
  a3 := Tryz.isAgg3
  z3 := Tryz.sizeOf3
  v3 := Tryz.zeroValue3
  t4 := Tryz.underlying4
  a4 := Tryz.isAgg4
  z4 := Tryz.sizeOf4
  v4 := Tryz.zeroValue4
  t9 := Tryz.underlying9
  a9 := Tryz.isAgg9
  z9 := Tryz.sizeOf9
  v9 := Tryz.zeroValue9 }
open Go.RowKit Go.Lib in
theorem Tryz.strings_TrimPrefix (s p : ByteArray) (w : World) :
    Calls Tryz.prog 127 #[.string s, .string p] w fun e w' => e = .returned (.string ⟨(Lib.trimPrefix s.data.toList p.data.toList).toArray⟩) ∧ w' = w := Any.strings_TrimPrefix Tryz.lays101 s p w
def Tryz.lays227_ren : Go.Shelf.Ren := ⟨fun | 227 => 148 | n => n, fun | 9 => 9 | 116 => 190 | 4 => 4 | 0 => 0 | 3 => 3 | 5 => 5 | n => n, fun | n => n⟩
theorem Tryz.lays227 : Go.Proofs.Lays.n227 Tryz.prog Tryz.lays227_ren := {
  mixed := by kernel_rfl
  f227 := Tryz.func148.trans (congrArg some (by kernel_rfl))
  t0 := Tryz.underlying0
  a0 := Tryz.isAgg0
  z0 := Tryz.sizeOf0
  v0 := Tryz.zeroValue0
  t3 := Tryz.underlying3
  a3 := Tryz.isAgg3
  z3 := Tryz.sizeOf3
  v3 := Tryz.zeroValue3
  t4 := Tryz.underlying4
  a4 := Tryz.isAgg4
  z4 := Tryz.sizeOf4
  v4 := Tryz.zeroValue4
  t5 := Tryz.underlying5
  a5 := Tryz.isAgg5
  z5 := Tryz.sizeOf5
  v5 := Tryz.zeroValue5
  t9 := Tryz.underlying9
  a9 := Tryz.isAgg9
  z9 := Tryz.sizeOf9
  v9 := Tryz.zeroValue9
  t116 := Tryz.underlying190
  a116 := Tryz.isAgg190
  z116 := Tryz.sizeOf190 }
open Go.RowKit Go.Lib in
theorem Tryz.strings_makeASCIISet (hv116 : ∀ w, (zeroValue 190).run Tryz.prog w = .ok (.agg (Array.replicate 256 (.bool false))) w) (chars : ByteArray) (w : World) (hs : chars.size < 4294967281) (hascii : ∀ (j : Nat) b, chars.data.toList[j]? = some b → b.toNat < 128) :
    Calls Tryz.prog 148 #[.string chars] w fun e w' => e = .returned (.tuple #[.agg (Lib.setCells chars.data.toList), .bool true]) ∧ w' = w.alloc (.cells (Lib.setCells chars.data.toList) 190) := Any.strings_makeASCIISet Tryz.lays227 hv116 (by kernel_rfl) chars w hs hascii
def Tryz.lays228_ren : Go.Shelf.Ren := ⟨fun | 228 => 169 | n => n, fun | 124 => 194 | 5 => 5 | 4 => 4 | 0 => 0 | 116 => 190 | n => n, fun | n => n⟩
theorem Tryz.lays228 : Go.Proofs.Lays.n228 Tryz.prog Tryz.lays228_ren := {
  mixed := by kernel_rfl
  f228 := Tryz.func169.trans (congrArg some (by kernel_rfl))
  t0 := Tryz.underlying0
  a0 := Tryz.isAgg0
  z0 := Tryz.sizeOf0
  v0 := Tryz.zeroValue0
  t4 := Tryz.underlying4
  a4 := Tryz.isAgg4
  z4 := Tryz.sizeOf4
  v4 := Tryz.zeroValue4
  t5 := Tryz.underlying5
  a5 := Tryz.isAgg5
  z5 := Tryz.sizeOf5
  v5 := Tryz.zeroValue5
  t116 := Tryz.underlying190
  a116 := Tryz.isAgg190
  z116 := Tryz.sizeOf190
  t124 := Tryz.underlying194
  a124 := Tryz.isAgg194
  z124 := Tryz.sizeOf194
  v124 := Tryz.zeroValue194 }
open Go.RowKit Go.Lib in
theorem Tryz.asciiSet_contains (b : Nat) (x : UInt8) (v : Bool) (w : World) (hc : w.cell? ⟨b, x.toNat, none⟩ = some (.bool v)) :
    Calls Tryz.prog 169 #[.pointer (some ⟨b, 0, none⟩), .int .u8 x.toNat] w fun e w' => e = .returned (.bool v) ∧ w' = w := Any.asciiSet_contains Tryz.lays228 b x v w hc
open Go.RowKit Go.Lib in
theorem Tryz.strings_ContainsFunc_grows (g : Nat) (lb : Array Value) (eg : ∀ args w, (callFunc g args).run Tryz.prog w = .ok (.enter g args) w) (p : Nat → Bool) (s : ByteArray) (w : World) (hp : PredGrows Tryz.prog g lb p w) :
    Calls Tryz.prog 154 #[.string s, .func (.func g) #[] lb] w fun e w' => e = .returned (.bool (decide (0 ≤ Lib.idxFunc p true s))) ∧ Below w.heap.size w w' := Any.strings_ContainsFunc_grows Tryz.laysGw17 g lb eg p s w hp
def Tryz.lays107_ren : Go.Shelf.Ren := ⟨fun | 107 => 60 | 108 => 95 | n => n, fun | 28 => 30 | 3 => 3 | 4 => 4 | 0 => 0 | n => n, fun | n => n⟩
theorem Tryz.lays107 : Go.Proofs.Lays.n107 Tryz.prog Tryz.lays107_ren := {
  mixed := by kernel_rfl
  f107 := Tryz.func60.trans (congrArg some (by kernel_rfl))
  f108 := Tryz.func95.trans (congrArg some (by kernel_rfl))
  t0 := Tryz.underlying0
  a0 := Tryz.isAgg0
  z0 := Tryz.sizeOf0
  v0 := Tryz.zeroValue0
  t3 := Tryz.underlying3
  a3 := Tryz.isAgg3
  z3 := Tryz.sizeOf3
  v3 := Tryz.zeroValue3
  t4 := Tryz.underlying4
  a4 := Tryz.isAgg4
  z4 := Tryz.sizeOf4
  v4 := Tryz.zeroValue4
  t28 := Tryz.underlying30
  a28 := Tryz.isAgg30
  z28 := Tryz.sizeOf30
  v28 := Tryz.zeroValue30 }
open Go.Lib in
theorem Tryz.slices_Contains_int (b off n c : Nat) (zs : List Int) (x : Int) (w : World) (hz : n ≤ zs.length) (hbig : n ≤ 9223372036854775807) (hc : ∀ j, j < zs.length → w.cell? ⟨b, off + j, none⟩ = some (.int .i64 (zs.getD j 0))) :
    Calls Tryz.prog 60 #[.slice (some ⟨b, off, none⟩) n c, .int .i64 x] w fun e w' => e = .returned (.bool ((zs.take n).contains x)) ∧ w' = w := Any.slices_Contains_int Tryz.lays107 b off n c zs x w hz hbig hc
open Go.Lib in
theorem Tryz.slices_Contains_int_empty (a : Option Addr) (c : Nat) (x : Int) (w : World) :
    Calls Tryz.prog 60 #[.slice a 0 c, .int .i64 x] w fun e w' => e = .returned (.bool false) ∧ w' = w := Any.slices_Contains_int_empty Tryz.lays107 a c x w
end Go.Proofs

/- Package matrix, ninth part: Kernel. -/
set_option linter.unusedVariables false
set_option linter.unusedSimpArgs false
namespace Go.Proofs.YtogakaiibijjpaaGreatDoor
open Go.RowKit
open DDig DLin

theorem contains_at (w : World) (P : Value) (l : List Nat) (f : Nat) (h : PivR w P l) (b : Bool) (hb : decide (f ∈ l) = b) :
    Calls Tryz.prog 60 #[P, .int .i64 f] w (Ret w fun _ v => v = .bool b) := by
  obtain ⟨A, c, rfl, h1, h2, h3⟩ := h
  by_cases h0 : 0 < l.length
  · obtain ⟨b0, o0, rfl, g⟩ := h2.2 (by simpa using h0)
    refine (Tryz.slices_Contains_int b0 o0 l.length c (l.map fun x : Nat => (x : Int)) f w (by simp) (by have := h2.1; simpa using this) (fun j hj => g j hj)).mono ?_
    rintro e w' ⟨rfl, rfl⟩
    refine ⟨⟨_, rfl, ?_⟩, X.refl _⟩
    rw [← hb]
    congr 1
    rw [Bool.eq_iff_iff, List.contains_iff_mem, decide_eq_true_iff]
    rw [List.take_of_length_le (by simp)]
    simp only [List.mem_map]
    constructor
    · rintro ⟨a, ha, e⟩
      have : a = f := by omega
      rw [← this]; exact ha
    · intro h
      exact ⟨f, h, rfl⟩
  · have : l = [] := List.eq_nil_of_length_eq_zero (by omega)
    subst this
    refine (Tryz.slices_Contains_int_empty A c f w).mono ?_
    rintro e w' ⟨rfl, rfl⟩
    exact ⟨⟨_, rfl, by rw [← hb]; simp⟩, X.refl _⟩

theorem Fil.zero {w : World} {g n : Nat} {cs : List Value} (h : Blk w g 71 cs) (hl : cs.length = n * 4) (hg : ∀ j i, j < n → i < 4 → cs[j * 4 + i]? = (Value.agg #[.bool false, .slice none 0 0, .bool false, .slice none 0 0]).cells[i]?) (hz : ∀ v ∈ cs, v ∈ (Value.agg #[.bool false, .slice none 0 0, .bool false, .slice none 0 0]).cells.toList) : Fil w g n n (fun _ => 0) := by
  obtain ⟨cs', h1, h2, h3, -⟩ := Fil.start (fun _ => 0) h hl hz
  refine ⟨cs, h, hl, ?_, fun j hj => ⟨⟨false, none, 0, 0, false, none, 0, 0⟩, ?_, ?_, ?_, ?_, ?_⟩⟩
  · have e : cs' = cs := by
      unfold Blk at h1 h
      rw [h] at h1
      injection h1 with h1
      injection h1 with h1
      simpa using h1.symm
    rw [← e]; exact h3
  · exact hg j 0 hj (by omega)
  · exact hg j 1 hj (by omega)
  · exact hg j 2 hj (by omega)
  · exact hg j 3 hj (by omega)
  · exact RatR.whole (IntR.zero w)
theorem Fil.upd {w : World} {g n : Nat} {f : Nat → Rat} (h : Fil w g n n f) {k : Nat} (hk : k < n) {r : QV} {y : Rat} (hr : RatR w r y) : Fil (put4at w g (k * 4) r) g n n (fun t => if t = k then y else f t) := by
  obtain ⟨cs, h1, h2, h3, h4⟩ := h
  have hF : Fil w g n k (fun t => if t = k then y else f t) := ⟨cs, h1, h2, h3, fun j hj => by
    obtain ⟨a, g0, g1, g2, g3, g4⟩ := h4 j (by omega)
    exact ⟨a, g0, g1, g2, g3, by show RatR w a (if j = k then y else f j); rw [if_neg (by omega)]; exact g4⟩⟩
  obtain ⟨cs', k1, k2, k3, k4⟩ := hF.put hk (r := r) (by show RatR w r (if k = k then y else f k); rw [if_pos rfl]; exact hr)
  refine ⟨cs', k1, k2, k3, fun j hj => ?_⟩
  by_cases e : j < k + 1
  · exact k4 j e
  · -- the entries behind k
    have hb := h1.set (k * 4) (.bool r.s)
    have hb2 := hb.set (k * 4 + 1) (.slice r.A r.n r.c)
    have hb3 := hb2.set (k * 4 + 2) (.bool r.t)
    have hb4 := hb3.set (k * 4 + 3) (.slice r.B r.m r.d)
    have e2 : cs' = (((cs.set (k * 4) (.bool r.s)).set (k * 4 + 1) (.slice r.A r.n r.c)).set (k * 4 + 2) (.bool r.t)).set (k * 4 + 3) (.slice r.B r.m r.d) := by
      unfold Blk at k1 hb4
      rw [hb4] at k1
      injection k1 with k1
      injection k1 with k1
      simpa using k1.symm
    obtain ⟨a, g0, g1, g2, g3, g4⟩ := h4 j hj
    have n1 := h3.set (k * 4) (v := .bool r.s) (by simp)
    have n2 := n1.set (k * 4 + 1) (v := .slice r.A r.n r.c) (by simp)
    have n3 := n2.set (k * 4 + 2) (v := .bool r.t) (by simp)
    refine ⟨a, ?_, ?_, ?_, ?_, by show RatR _ a (if j = k then y else f j); rw [if_neg (by omega)]; exact (((g4.put h1 h3 _ _).put hb n1 _ _).put hb2 n2 _ _).put hb3 n3 _ _⟩
    · rw [e2, List.getElem?_set_ne (by omega), List.getElem?_set_ne (by omega), List.getElem?_set_ne (by omega), List.getElem?_set_ne (by omega)]; exact g0
    · rw [e2, List.getElem?_set_ne (by omega), List.getElem?_set_ne (by omega), List.getElem?_set_ne (by omega), List.getElem?_set_ne (by omega)]; exact g1
    · rw [e2, List.getElem?_set_ne (by omega), List.getElem?_set_ne (by omega), List.getElem?_set_ne (by omega), List.getElem?_set_ne (by omega)]; exact g2
    · rw [e2, List.getElem?_set_ne (by omega), List.getElem?_set_ne (by omega), List.getElem?_set_ne (by omega), List.getElem?_set_ne (by omega)]; exact g3
theorem Fil.congr {w : World} {g n k : Nat} {f e : Nat → Rat} (h : Fil w g n k f) (he : ∀ j, j < k → f j = e j) : Fil w g n k e := by
  obtain ⟨cs, h1, h2, h3, h4⟩ := h
  refine ⟨cs, h1, h2, h3, fun j hj => ?_⟩
  rw [← he j hj]; exact h4 j hj

/-- The columns without a pivot, below n. -/
def frees (l : List Nat) (n : Nat) : List Nat := (List.range n).filter fun f => decide (f ∉ l)
theorem frees_succ_in {l : List Nat} {n : Nat} (h : n ∈ l) : frees l (n + 1) = frees l n := by
  simp [frees, List.range_succ, h]
theorem frees_succ_out {l : List Nat} {n : Nat} (h : n ∉ l) : frees l (n + 1) = frees l n ++ [n] := by
  simp [frees, List.range_succ, h]
theorem frees_le (l : List Nat) (n : Nat) : (frees l n).length ≤ n := by
  have := List.length_filter_le (fun f => decide (f ∉ l)) (List.range n)
  simpa [frees] using this

/-- The vector of the kernel as it is made: the first i pivots are done. -/
def kerp (s : St) (f i j : Nat) : Rat := if j = f then 1 else if j ∈ s.piv.take i then - s.M (s.piv.idxOf j) f else 0
theorem kerp_all (s : St) (f j : Nat) : kerp s f s.piv.length j = kerv s f j := by simp [kerp, kerv]
theorem kerp_step {m n : Nat} {M0 : Mat} {s : St} (h : Inv m M0 s n) {f i : Nat} (hi : i < s.piv.length) (hf : f ∉ s.piv) (j : Nat) :
    (if j = s.piv.getD i 0 then - s.M i f else kerp s f i j) = kerp s f (i + 1) j := by
  have hm : s.piv.getD i 0 ∈ s.piv := mem_iff_getD.2 ⟨i, hi, rfl⟩
  have ht : s.piv.take (i + 1) = s.piv.take i ++ [s.piv.getD i 0] := by
    rw [List.take_succ_eq_append_getElem hi]
    simp [List.getD_eq_getElem?_getD, hi]
  have hid := idxOf_getD hi h.inc
  by_cases e : j = s.piv.getD i 0
  · rw [if_pos e]
    unfold kerp
    rw [if_neg (fun h => hf (by rw [← h, e]; exact hm)), ht, if_pos (by simp [e]), e, hid]
  · rw [if_neg e]
    unfold kerp
    simp only [ht, List.mem_append, List.mem_singleton, e, or_false]

theorem MatQ.elem {w : World} {B : Option Addr} {m n rc : Nat} {M : Nat → Nat → Rat} (h : MatQ w (.slice B m rc) m n M) {i j : Nat} (hi : i < m) (hj : j < n) :
    ∃ (b1 o1 d b2 o2 : Nat) (a : QV), B = some ⟨b1, o1, none⟩ ∧ w.cell? ⟨b1, o1 + i, none⟩ = some (.slice (some ⟨b2, o2, none⟩) n d) ∧ w.cell? ⟨b2, o2 + j * 4, none⟩ = some (.bool a.s) ∧ w.cell? ⟨b2, o2 + j * 4 + 1, none⟩ = some (.slice a.A a.n a.c) ∧ w.cell? ⟨b2, o2 + j * 4 + 2, none⟩ = some (.bool a.t) ∧ w.cell? ⟨b2, o2 + j * 4 + 3, none⟩ = some (.slice a.B a.m a.d) ∧ RatR w a (M i j) := by
  obtain ⟨A, k, e, h1, h2, h3⟩ := h
  injection e with e1 e2 e3
  subst e1
  obtain ⟨b, o, rfl, g⟩ := h3 (by omega)
  obtain ⟨u, c0, hs⟩ := g i hi
  obtain ⟨A', d, rfl, p1, p2, p3⟩ := hs
  obtain ⟨b', o', rfl, gg⟩ := p3 (by omega)
  obtain ⟨a, e0, e1, e2, e3, hr⟩ := gg j hj
  exact ⟨b, o, d, b', o', a, rfl, c0, e0, e1, e2, e3, hr⟩
theorem PivR.cell {w : World} {A : Option Addr} {l : List Nat} {c i : Nat} (h : PivR w (.slice A l.length c) l) (hi : i < l.length) : ∃ b o, A = some ⟨b, o, none⟩ ∧ w.cell? ⟨b, o + i, none⟩ = some (.int .i64 (l.getD i 0 : Nat)) := by
  obtain ⟨A', c', e, h1, h2, h3⟩ := h
  injection e with e1 e2 e3
  subst e1
  obtain ⟨b, o, rfl, g⟩ := h2.2 (by simp; omega)
  have := g i (by simpa using hi)
  refine ⟨b, o, rfl, ?_⟩
  rw [this]
  congr 2
  simp [List.getD_eq_getElem?_getD, hi]

set_option maxRecDepth 100000 in
set_option maxHeartbeats 8000000 in
theorem mat_kernel (w : World) (v : Value) (m n : Nat) (M : Mat) (h : MatQ w v m n M) (hm : m ≤ 256) (hn : n ≤ 96) (b : Nat) (hb : 0 < b) (hs : TSz M m n b) (hsz : 5 ^ (m + 1) * b ≤ 100000000000) :
    Calls Tryz.prog 19 #[v, .int .i64 n] w (Ret w fun w' v' => ∃ R, v' = .tuple #[R, .int .i64 0] ∧ MatQ w' R (frees (steps m M n).piv n).length n (fun i => kerv (steps m M n) ((frees (steps m M n).piv n).getD i 0))) := by
  have H := Hid.mk h
  have HS := Hid.mk hs
  have HI := Hid.mk (inv_steps m M n)
  obtain ⟨A0, c0, rfl, p1, p2, p3⟩ := id h
  clear h hs p1 p2 p3
  go_enter Tryz.func19, Tryz.ntmps19
  go_wp2_with fail
  refine (mat_size _ _ m n M H.out hm hn).mono ?_
  rintro e w1 ⟨⟨v1, rfl, rfl⟩, hx1⟩
  have HX := Hid.mk hx1
  clear hx1
  go_upto_region 4 with (fail)
  go_cut [28] (fun t28 wc => t28 = .bool false ∧ X w wc)
  case first =>
    by_cases h0 : 0 < m
    · have h0' : (0 : Int) < (m : Int) := by omega
      have hnn : ((n : Int) != (n : Int)) = false := by simp
      go_wp2_with fail
      refine (mat_columns _ _ m n M (H.out.x HX.out) (by omega) n (by rw [if_neg (by omega)])).mono ?_
      rintro e w2 ⟨⟨v2, rfl, rfl⟩, hx2⟩
      have HX2 := Hid.mk (HX.out.trans hx2)
      clear hx2
      go_wp2_with fail
      go_meet
      exact ⟨rfl, HX2.out⟩
    · have h0' : ¬ (0 : Int) < (m : Int) := by omega
      go_wp2_with fail
      go_meet
      exact ⟨rfl, HX.out⟩
  case rest =>
    obtain ⟨rfl, hx1⟩ := hcut
    replace HX := Hid.mk hx1
    clear hx1
    have hn1 : ¬ (n : Int) < 0 := by omega
    have hn2 : ¬ (96 : Int) < (n : Int) := by omega
    go_wp2_with fail
    refine (mat_reduced _ _ m n n M (H.out.x HX.out) hm (by omega) (Nat.le_refl _) b hb HS.out hsz).mono ?_
    rintro e w3 ⟨⟨v3, rfl, R, P, d, rfl, hR, hP, hd⟩, hx3⟩
    have hPR := PivR.own hP
    obtain ⟨A, pc, rfl, h1, h2, h3⟩ := id hPR
    obtain ⟨B, rc, rfl, g1, g2, g3⟩ := id hR
    have HPR := Hid.mk hPR
    have HR := Hid.mk hR
    replace HX := Hid.mk (HX.out.trans hx3)
    obtain ⟨s, hs⟩ : ∃ s, s = steps m M n := ⟨_, rfl⟩
    have HI2 : Hid (Inv m M s n) := by rw [hs]; exact HI.out
    rw [← hs] at HPR HR ⊢
    have HSX := Hid.mk hs
    clear hs hx3 hR hP hd h2 h3 hPR h1 g1 g2 g3 HI
    obtain ⟨w4, hw4, hX34, -, -⟩ := setup1 w3 #[.bool d.s, .slice d.A d.n d.c, .bool d.t, .slice d.B d.m d.d] 71
    replace HX := Hid.mk (HX.out.trans hX34)
    replace HPR := Hid.mk (HPR.out.x hX34)
    replace HR := Hid.mk (HR.out.x hX34)
    clear hX34
    go_wp2_with fail
    clear hw4
    go_loopw [10, 43] (fun t10 t43 wr => ∃ (f : Nat) (us : List Value), f ≤ n ∧ t43 = .int .i64 f ∧ OwnC IsSl wr w4.heap.size 49 1 t10 (frees s.piv f).length us ∧ us.length = (frees s.piv f).length ∧ (∀ i u, us[i]? = some u → SlQ wr u n (kerv s ((frees s.piv f).getD i 0))) ∧ X w4 wr) (fun _ t _ => n - (intOf t).toNat)
    case atStart => exact ⟨0, [], Nat.zero_le _, rfl, OwnC.nil _ _ _ _ _, rfl, by simp, X.refl _⟩
    case round =>
      obtain ⟨f, us, hf, rfl, ho, hl, hu, hx⟩ := hrel
      have HO := Hid.mk ho
      have HU := Hid.mk hu
      have HX4 := Hid.mk hx
      clear ho hu hx
      by_cases hfn : f < n
      · have hfn' : (f : Int) < (n : Int) := by omega
        go_wp2_with fail
        by_cases hmem : f ∈ s.piv
        · refine (contains_at _ _ s.piv f (HPR.out.x HX4.out) true (by simpa using hmem)).mono ?_
          rintro e w5 ⟨⟨v5, rfl, rfl⟩, hx5⟩
          have hfe := frees_succ_in hmem
          replace HX4 := Hid.mk (HX4.out.trans hx5)
          replace HO := Hid.mk (HO.out.x hx5)
          replace HU := Hid.mk (fun i u hi => (HU.out i u hi).x hx5)
          rw [← hfe] at HO HU hl
          clear hx5 hmem hfe
          go_wp2_with fail
          go_roundw
          case rel => exact ⟨f + 1, us, by omega, by go_num, HO.out, hl, HU.out, HX4.out⟩
          case measure => simp [intOf]; omega
        · refine (contains_at _ _ s.piv f (HPR.out.x HX4.out) false (by simpa using hmem)).mono ?_
          rintro e w5 ⟨⟨v5, rfl, rfl⟩, hx5⟩
          replace HX4 := Hid.mk (HX4.out.trans hx5)
          replace HO := Hid.mk (HO.out.x hx5)
          replace HU := Hid.mk (fun i u hi => (HU.out i u hi).x hx5)
          clear hx5
          have HMEM := Hid.mk hmem
          clear hmem
          go_wp2_with (at_make; refine make_blkz _ rfl _ _ 49 rfl 71 (.agg #[.bool false, .slice none 0 0, .bool false, .slice none 0 0]) 4 64 Tryz.underlying49 info_Q rfl .i64 .i64 _ _ n rfl rfl rfl rfl (by omega) (by omega) ?_; intro w6 cs hb1 hb2 hb3 hb4 hx6; have HF := Hid.mk (Fil.zero hb1 hb2 hb3 hb4); have HX6 := Hid.mk hx6; clear hb1 hb2 hb3 hb4 hx6)
          refine (rat_from _ 1 (by omega) (by omega)).mono ?_
          rintro e w7 ⟨⟨v7, rfl, r, rfl, hr⟩, hx7⟩
          have F1 := HF.out.x hx7
          replace HX6 := Hid.mk (HX6.out.trans hx7)
          obtain ⟨v0, v1', v2, v3, k0, k1, k2, k3, f0, f1, f2, f3⟩ := F1.cells hfn
          have F2 := (F1.upd hfn hr).congr (e := kerp s f 0) (fun j hj => by simp [kerp])
          have HF2 := Hid.mk F2
          have HX7 := Hid.mk (HX6.out.put4at (g := w5.heap.size) (Nat.le_refl _) (f * 4) r)
          obtain ⟨g, hg⟩ : ∃ g, g = w5.heap.size := ⟨_, rfl⟩
          rw [← hg] at HF2 k0 k1 k2 k3 f0 f1 f2 f3 HX7 ⊢
          have HG := Hid.mk hg
          clear F1 F2 hr hx7 HF hg
          go_wp2_with fail
          go_loopw [57] (fun t57 wr => ∃ i : Nat, i ≤ s.piv.length ∧ t57 = .int .i64 i ∧ Fil wr g n n (kerp s f i) ∧ X w5 wr) (fun t _ => s.piv.length - (intOf t).toNat)
          case atStart => exact ⟨0, Nat.zero_le _, rfl, HF2.out, HX7.out⟩
          case round =>
            clear HF2 HX7 k0 k1 k2 k3 f0 f1 f2 f3
            obtain ⟨i, hi, rfl, hF, hx⟩ := hrel
            have HF := Hid.mk hF
            have HX5 := Hid.mk hx
            clear hF hx
            by_cases hil : i < s.piv.length
            · have hil' : (i : Int) < (s.piv.length : Int) := by omega
              have hX45 := HX4.out.trans HX5.out
              have him : i < m := by have := HI2.out.len; omega
              have him' : (i : Int) < (m : Int) := by omega
              have hkn := HI2.out.lt i hil
              obtain ⟨p, hp⟩ : ∃ p, p = s.piv.getD i 0 := ⟨_, rfl⟩
              obtain ⟨bp, op, rfl, cp⟩ := (HPR.out.x hX45).cell hil
              obtain ⟨b1, o1, d1, b2, o2, a, rfl, c0, e0, e1, e2, e3, ha⟩ := (HR.out.x hX45).elem him hfn
              rw [← hp] at cp hkn
              have hkn' : (p : Int) < (n : Int) := by omega
              have HA := Hid.mk ha
              have HP := Hid.mk hp
              clear ha hp hX45
              go_wp2_with fail
              refine (rat_neg _ a (s.M i f) HA.out).mono ?_
              rintro e w8 ⟨⟨v8, rfl, r8, rfl, hr8⟩, hx8⟩
              have F1 := HF.out.x hx8
              obtain ⟨v0, v1', v2, v3, k0, k1, k2, k3, f0, f1, f2, f3⟩ := F1.cells hkn
              have HF3 := Hid.mk ((F1.upd hkn hr8).congr (e := kerp s f (i + 1)) (fun j hj => by rw [HP.out]; exact kerp_step HI2.out hil HMEM.out j))
              have HX8 := Hid.mk ((HX5.out.trans hx8).put4at (g := g) (by rw [HG.out]; exact Nat.le_refl _) (p * 4) r8)
              clear F1 hr8 hx8 c0 e0 e1 e2 e3 cp
              go_wp2_with fail
              go_roundw
              case rel => exact ⟨i + 1, by omega, by go_num, HF3.out, HX8.out⟩
              case measure => simp [intOf]; omega
            · obtain rfl : i = s.piv.length := by omega
              have hil' : ¬ (s.piv.length : Int) < (s.piv.length : Int) := by omega
              have hrow : SlQ wr (.slice (some ⟨g, 0, none⟩) n n) n (kerv s f) := ⟨_, n, rfl, Nat.le_refl _, by simp, (HF.out.congr (fun j hj => kerp_all s f j)).row⟩
              have HRow := Hid.mk hrow
              have HO2 := Hid.mk (HO.out.x HX5.out)
              have HU2 := Hid.mk (fun i u hi => (HU.out i u hi).x HX5.out)
              have HX9 := Hid.mk (HX4.out.trans HX5.out)
              have hfl := frees_le s.piv f
              have hlb : ((frees s.piv f).length + 1) * 24 ≤ 140737488355328 := by omega
              clear hil hi hrow
              go_wp2_with (at_builtin; refine append_oneC IsSl w4 _ rfl _ _ 29 rfl 49 (.slice none 0 0) 1 24 Tryz.underlying29 info_sQ rfl (by omega) (fun u hu => ⟨none, 0, 0, by simpa [Value.cells] using hu⟩) _ _ _ rfl HO2.out _ _ _ rfl rfl (by simp [Value.oneCell']) (fun u hu => ⟨_, _, _, by simpa using hu⟩) (by omega) (by omega) HX9.out ?_; intro v9 w9 ho9 hx9 hk9; have HO9 := Hid.mk ho9; have HXa := Hid.mk hx9; have HU9 := Hid.mk (fun i u hi => (HU2.out i u hi).kApp HO2.out hk9); have HR9 := Hid.mk (HRow.out.kApp HO2.out hk9); clear ho9 hx9 hk9)
              go_roundw
              case rel =>
                have hfe := frees_succ_out HMEM.out
                have hle : (frees s.piv (f + 1)).length = (frees s.piv f).length + 1 := by rw [hfe]; simp
                refine ⟨f + 1, us ++ [.slice (some ⟨g, 0, none⟩) n n], by omega, by go_num, by rw [hle]; exact HO9.out, by rw [hle]; simp [hl], fun t u ht => ?_, HXa.out⟩
                rw [hfe]
                by_cases e : t = us.length
                · rw [List.getElem?_append_right (by omega), e] at ht
                  simp at ht
                  subst ht
                  have : (frees s.piv f ++ [f]).getD t 0 = f := by
                    rw [e, hl, List.getD_eq_getElem?_getD, List.getElem?_append_right (Nat.le_refl _)]
                    simp
                  rw [this]; exact HR9.out
                · have hil2 : t < us.length := by
                    have := (List.getElem?_eq_some_iff.1 ht).1
                    simp at this
                    omega
                  rw [List.getElem?_append_left hil2] at ht
                  have : (frees s.piv f ++ [f]).getD t 0 = (frees s.piv f).getD t 0 := by
                    rw [List.getD_eq_getElem?_getD, List.getD_eq_getElem?_getD, List.getElem?_append_left (by omega)]
                  rw [this]
                  exact HU9.out t u ht
              case measure => simp [intOf]; omega
      · obtain rfl : f = n := by omega
        have HF := Hid.mk (SlM.own (S := SlQ) (M := fun i => kerv s ((frees s.piv f).getD i 0)) (c := f) HO.out.1 hl HU.out)
        have HXF := Hid.mk (HX.out.trans HX4.out)
        have hfn' : ¬ (f : Int) < (f : Int) := by omega
        clear hfn hf
        go_wp2_with fail
        refine bodyPost_ret (v := .tuple #[u10, .int .i64 0]) (by simp [results, Tryz.results19, go_sem]) rfl ⟨⟨_, rfl, u10, rfl, ?_⟩, HXF.out⟩
        rw [← HSX.out]; exact HF.out
end Go.Proofs.YtogakaiibijjpaaGreatDoor

/- The reference: at; rows of fractions that are being filled; entries of a table. -/
set_option linter.unusedVariables false
set_option linter.unusedSimpArgs false
namespace Go.Proofs.YtogakaiibijjpaaGreatDoor
open Go.RowKit
open DDig DLin

theorem idxOf_first : ∀ {l : List Nat} {k f : Nat}, k < l.length → l.getD k 0 = f → (∀ t, t < k → l.getD t 0 ≠ f) → l.idxOf f = k
  | [], _, _, h, _, _ => by simp at h
  | a :: l, 0, f, _, h, _ => by
    have : a = f := by simpa using h
    rw [List.idxOf_cons, this, beq_self_eq_true]; rfl
  | a :: l, k + 1, f, h, e, n => by
    have h0 : a ≠ f := by simpa using n 0 (by omega)
    have := idxOf_first (l := l) (k := k) (f := f) (by simpa using h) (by simpa using e) (fun t ht => by simpa using n (t + 1) (by omega))
    rw [List.idxOf_cons, this, beq_eq_false_iff_ne.2 h0]; rfl
theorem notin_of {l : List Nat} {f : Nat} (h : ∀ t, t < l.length → l.getD t 0 ≠ f) : f ∉ l := fun hm => by
  obtain ⟨t, ht, e⟩ := mem_iff_getD.1 hm
  exact h t ht e

/-- The index of a number in a list, or -1. -/
def atv (l : List Nat) (f : Nat) : Int := if f ∈ l then (l.idxOf f : Nat) else -1

set_option maxRecDepth 100000 in
set_option maxHeartbeats 2000000 in
theorem ref_at (w : World) (P : Value) (l : List Nat) (f : Nat) (h : PivR w P l) (hl : l.length ≤ 1000000) :
    Calls Tryz.prog 62 #[P, .int .i64 f] w (Ret w fun _ v => v = .int .i64 (atv l f)) := by
  obtain ⟨A, c, rfl, h1, h2, h3⟩ := id h
  have H := Hid.mk h
  clear h h1 h2 h3
  go_enter Tryz.func62, Tryz.ntmps62
  go_wp2_with fail
  go_loopw [5] (fun t5 wr => ∃ k : Nat, k ≤ l.length ∧ t5 = .int .i64 k ∧ (∀ t, t < k → l.getD t 0 ≠ f) ∧ X w wr) (fun t _ => l.length - (intOf t).toNat)
  case atStart => exact ⟨0, Nat.zero_le _, rfl, fun t ht => by omega, X.refl _⟩
  case round =>
    obtain ⟨k, hk, rfl, hn, hx⟩ := hrel
    have HN := Hid.mk hn
    have HX := Hid.mk hx
    clear hn hx
    by_cases hkl : k < l.length
    · have hkl' : (k : Int) < (l.length : Int) := by omega
      obtain ⟨b, o, rfl, c0⟩ := (H.out.x HX.out).cell hkl
      obtain ⟨p, hp⟩ : ∃ p, p = l.getD k 0 := ⟨_, rfl⟩
      rw [← hp] at c0
      have HP := Hid.mk hp
      clear hp
      by_cases e : p = f
      · have e' : ((p : Int) == (f : Int)) = true := by rw [e]; simp
        have hA : Hid (atv l f = (k : Int)) := by
          show atv l f = (k : Int)
          have h1 : l.getD k 0 = f := HP.out ▸ e
          have h2 : f ∈ l := mem_iff_getD.2 ⟨k, hkl, h1⟩
          unfold atv
          rw [if_pos h2, idxOf_first hkl h1 HN.out]
        clear e
        go_wp2_with fail
        go_ret
        exact ⟨⟨_, rfl, congrArg (Value.int .i64) hA.out.symm⟩, HX.out⟩
      · have e' : ((p : Int) == (f : Int)) = false := by rw [beq_eq_false_iff_ne]; omega
        have HN2 : Hid (∀ t, t < k + 1 → l.getD t 0 ≠ f) := fun t ht => by
          by_cases et : t = k
          · rw [et, ← HP.out]; exact e
          · exact HN.out t (by omega)
        clear e
        go_wp2_with fail
        go_roundw
        case rel => exact ⟨k + 1, by omega, by go_num, HN2.out, HX.out⟩
        case measure => simp [intOf]; omega
    · obtain rfl : k = l.length := by omega
      have hkl' : ¬ (l.length : Int) < (l.length : Int) := by omega
      have hA : Hid (atv l f = -1) := by
        show atv l f = -1
        unfold atv
        rw [if_neg (notin_of HN.out)]
      clear hkl hk
      go_wp2_with fail
      go_ret
      exact ⟨⟨_, rfl, congrArg (Value.int .i64) hA.out.symm⟩, HX.out⟩

theorem MatF.elem {w : World} {B : Option Addr} {m n rc : Nat} {M : Nat → Nat → Rat} (h : MatF w (.slice B m rc) m n M) {i j : Nat} (hi : i < m) (hj : j < n) :
    ∃ (b1 o1 d b2 o2 : Nat) (a : FV), B = some ⟨b1, o1, none⟩ ∧ w.cell? ⟨b1, o1 + i, none⟩ = some (.slice (some ⟨b2, o2, none⟩) n d) ∧ w.cell? ⟨b2, o2 + j * 2, none⟩ = some (.string a.p) ∧ w.cell? ⟨b2, o2 + j * 2 + 1, none⟩ = some (.string a.q) ∧ FR a (M i j) := by
  obtain ⟨A, k, e, h1, h2, h3⟩ := h
  injection e with e1 e2 e3
  subst e1
  obtain ⟨b, o, rfl, g⟩ := h3 (by omega)
  obtain ⟨u, c0, hs⟩ := g i hi
  obtain ⟨A', d, rfl, p1, p2, p3⟩ := hs
  obtain ⟨b', o', rfl, gg⟩ := p3 (by omega)
  obtain ⟨a, e0, e1, hr⟩ := gg j hj
  exact ⟨b, o, d, b', o', a, rfl, c0, e0, e1, hr⟩

/-- A row of fractions of the call's own that is being filled. -/
def FFil (w : World) (g n k : Nat) (f : Nat → Rat) : Prop :=
  ∃ cs : List Value, Blk w g 84 cs ∧ cs.length = n * 2 ∧ FCs cs k f
theorem FFil.x {w w' : World} {g n k : Nat} {f : Nat → Rat} (h : FFil w g n k f) (hx : X w w') : FFil w' g n k f := by
  obtain ⟨cs, h1, h2, h3⟩ := h
  exact ⟨cs, h1.x hx, h2, h3⟩
theorem FFil.start {w : World} {g n : Nat} {cs : List Value} (f : Nat → Rat) (h : Blk w g 84 cs) (hl : cs.length = n * 2) : FFil w g n 0 f :=
  ⟨cs, h, hl, fun j hj => by omega⟩
theorem FFil.row {w : World} {g n : Nat} {f : Nat → Rat} (h : FFil w g n n f) : RowF w (some ⟨g, 0, none⟩) n f := fun h0 => by
  obtain ⟨cs, h1, h2, h3⟩ := h
  refine ⟨g, 0, rfl, fun j hj => ?_⟩
  obtain ⟨a, g0, g1, g2⟩ := h3 j hj
  simp only [Nat.zero_add]
  exact ⟨a, h1.cell g0, h1.cell g1, g2⟩
theorem FFil.congr {w : World} {g n k : Nat} {f e : Nat → Rat} (h : FFil w g n k f) (he : ∀ j, j < k → f j = e j) : FFil w g n k e := by
  obtain ⟨cs, h1, h2, h3⟩ := h
  refine ⟨cs, h1, h2, fun j hj => ?_⟩
  rw [← he j hj]; exact h3 j hj
/-- The two stores at a place of a row. -/
abbrev put2at (w : World) (g o : Nat) (r : FV) : World := (w.setCell ⟨g, o, none⟩ (.string r.p)).setCell ⟨g, o + 1, none⟩ (.string r.q)
theorem X.put2at {w w' : World} (h : X w w') {g : Nat} (hg : w.heap.size ≤ g) (o : Nat) (r : FV) : X w (Go.Proofs.YtogakaiibijjpaaGreatDoor.put2at w' g o r) :=
  (h.set (p := ⟨g, o, none⟩) hg _).set (p := ⟨g, o + 1, none⟩) hg _
theorem FFil.put {w : World} {g n k : Nat} {f : Nat → Rat} (h : FFil w g n k f) (hk : k < n) {r : FV} (hr : FR r (f k)) : FFil (put2at w g (k * 2) r) g n (k + 1) f := by
  obtain ⟨cs, h1, h2, h3⟩ := h
  refine ⟨_, (h1.set (k * 2) (.string r.p)).set (k * 2 + 1) (.string r.q), by simpa using h2, fun j hj => ?_⟩
  by_cases e : j = k
  · subst e
    refine ⟨r, ?_, ?_, hr⟩
    · rw [List.getElem?_set_ne (by omega), List.getElem?_set_self (by omega)]
    · rw [List.getElem?_set_self (by simp; omega)]
  · obtain ⟨a, g0, g1, g2⟩ := h3 j (by omega)
    refine ⟨a, ?_, ?_, g2⟩
    · rw [List.getElem?_set_ne (by omega), List.getElem?_set_ne (by omega)]; exact g0
    · rw [List.getElem?_set_ne (by omega), List.getElem?_set_ne (by omega)]; exact g1
theorem FFil.upd {w : World} {g n c : Nat} {f : Nat → Rat} (h : FFil w g n c f) {k : Nat} (hk : k < c) {r : FV} {y : Rat} (hr : FR r y) : FFil (put2at w g (k * 2) r) g n c (fun t => if t = k then y else f t) := by
  obtain ⟨cs, h1, h2, h3⟩ := h
  exact ⟨_, (h1.set (k * 2) (.string r.p)).set (k * 2 + 1) (.string r.q), by simpa using h2, h3.put hk hr⟩
theorem FFil.cells {w : World} {g n k : Nat} {f : Nat → Rat} (h : FFil w g n k f) {j : Nat} (hj : j < n) :
    ∃ v0 v1, w.cell? ⟨g, j * 2, none⟩ = some v0 ∧ w.cell? ⟨g, j * 2 + 1, none⟩ = some v1 ∧ w.frozen? ⟨g, j * 2, none⟩ = false ∧ w.frozen? ⟨g, j * 2 + 1, none⟩ = false := by
  obtain ⟨cs, h1, h2, h3⟩ := h
  exact ⟨_, _, h1.cell (List.getElem?_eq_getElem (by omega)), h1.cell (List.getElem?_eq_getElem (by omega)), h1.frozen _, h1.frozen _⟩
theorem fzero : FR ⟨⟨#[48]⟩, ⟨#[49]⟩⟩ 0 := by
  refine ⟨?_, ?_⟩
  · exact ⟨false, [], ⟨Dig.nil _, by simp [Norm]⟩, fun _ => rfl, rfl, rfl⟩
  · exact txt_one
theorem fone : FR ⟨⟨#[49]⟩, ⟨#[49]⟩⟩ 1 := ⟨txt_one, txt_one⟩
end Go.Proofs.YtogakaiibijjpaaGreatDoor

/- A region whose order is drawn and whose LAST operation may change what the others read. -/
set_option linter.unusedVariables false
namespace Go.Proofs.YtogakaiibijjpaaGreatDoor

section
variable {P : Program} {ops : Array Oper} {Q : Exit → Act → World → Prop} {md : Region.Mode} {S : World → Prop} {n : Nat}

/-- Whatever comes up: it may be walked; S holds behind it unless it is one of the last (from n on). -/
def AnyE (P : Program) (md : Region.Mode) (ops : Array Oper) (Q : Exit → Act → World → Prop) (S : World → Prop) (n : Nat) : Nat → Array Bool → Act → World → Prop
  | 0, l, a, w => Region.ready md ops l = [] ∧ Q .normal a w
  | k + 1, l, a, w => (Region.ready md ops l = [] → Q .normal a w) ∧
    ∀ i ∈ Region.ready md ops l, wpOp P ops Q i (fun b v => (n ≤ i ∨ S v) ∧ AnyE P md ops Q S n k (l.setIfInBounds i true) b v) a w

theorem AnyE.any : ∀ {k : Nat} {l : Array Bool} {a : Act} {w : World}, AnyE P md ops Q S n k l a w → wpAny P md ops Q k l a w
  | 0, _, _, _, h => h
  | _ + 1, _, _, _, h => ⟨h.1, fun i hi => wpOp_mono (fun _ _ g => g.2.any) (h.2 i hi)⟩

theorem AnyE.done {l : Array Bool} {a : Act} {w : World} (hr : Region.ready md ops l = []) (h : Q .normal a w) : ∀ k, AnyE P md ops Q S n k l a w
  | 0 => ⟨hr, h⟩
  | _ + 1 => ⟨fun _ => h, fun i hi => by rw [hr] at hi; cases hi⟩

/-- Nothing is listed ahead of what it waits for, and the last ones are not listed. -/
def headB (md : Region.Mode) (ops : Array Oper) (n : Nat) (l : Array Bool) : Bool :=
  decide (l.size = ops.size) && (List.range ops.size).all fun j => match ops[j]? with
    | some o => (!l.getD j false || o.after.all fun e => !Region.binds md e || l.getD e.on false) && (decide (j < n) || !l.getD j true)
    | none => true
theorem HeadInv.ofB {l : Array Bool} (h : headB md ops n l = true) : HeadInv md ops n l := by
  simp only [headB, Bool.and_eq_true, decide_eq_true_eq, List.all_eq_true, List.mem_range] at h
  obtain ⟨h1, h2⟩ := h
  refine ⟨h1, fun j o hj hl e he hb => ?_, fun t ht htl => ?_⟩
  · have hlt := (Array.getElem?_eq_some_iff.1 hj).1
    have h3 := h2 j hlt
    rw [hj] at h3
    simp only [Bool.and_eq_true, Bool.or_eq_true, Bool.not_eq_true'] at h3
    rcases h3.1 with h4 | h4
    · rw [hl] at h4; cases h4
    · have h5 := Array.all_eq_true'.1 h4 e he
      simp only [Bool.or_eq_true, Bool.not_eq_true'] at h5
      rcases h5 with h5 | h5
      · rw [hb] at h5; cases h5
      · exact h5
  · have h3 := h2 t htl
    rw [Array.getElem?_eq_getElem htl] at h3
    simp only [Bool.and_eq_true, Bool.or_eq_true, Bool.not_eq_true', decide_eq_true_eq] at h3
    rcases h3.2 with h4 | h4
    · omega
    · exact h4

/-- An operation that is ready, that yields the same wherever S holds, and that no other one disturbs, may be done at once. -/
theorem AnyE.first {i : Nat} {oi : Oper} {v : Value} (hi : ops[i]? = some oi) (hsel : ∀ (j : Nat) (o : Oper) cs b, ops[j]? = some o → o.op ≠ .select cs b)
    (hs : Region.sinkB md ops n = true) (hc : Region.chainB md ops n = true) (hn : n < ops.size) (hin : i < n)
    (hQ : ∀ c a w, Q (.panic c) (a.put oi.dst v) w → Q (.panic c) a w) : ∀ {k : Nat} {l : Array Bool} {a : Act} {w : World}, HeadInv md ops n l →
      (∀ j oj, ops[j]? = some oj → j ≠ i → l.getD j true = false → (∀ e ∈ oj.after, Region.binds md e = true → e.on ≠ i) → oi.apart ops oj = true) →
      i ∈ Region.ready md ops l → YieldsIf P ops S oi v a → S w →
      AnyE P md ops Q S n k (l.setIfInBounds i true) (a.put oi.dst v) w → AnyE P md ops Q S n (k + 1) l a w
  | 0, l, a, w, inv, hfree, hr, hy, hS, H => by
    refine ⟨fun e => (by rw [e] at hr; cases hr), fun j hj => ?_⟩
    rcases Nat.decEq j i with hji | hji
    · have := ready_mono hr (Ne.symm hji)
      have h2 := ready_mono hj hji
      rw [H.1] at h2
      cases h2
    · subst hji
      exact hy.wpOp hi hS ⟨Or.inr hS, H⟩
  | k + 1, l, a, w, inv, hfree, hr, hy, hS, H => by
    refine ⟨fun e => (by rw [e] at hr; cases hr), fun j hj => ?_⟩
    have hi0 := (mem_ready.1 hr).1
    rcases Nat.decEq j i with hji | hji
    · obtain ⟨hun, oj, hoj, hall⟩ := mem_ready.1 hj
      have hjn : j < n := by
        rcases Nat.lt_or_ge j n with h | h
        · exact h
        · exact absurd hj (tail_waits hs hc hn inv _ i rfl hin hi0 j h)
      have hno : ∀ e ∈ oj.after, Region.binds md e = true → e.on ≠ i := fun e he hb hon => by
        have h1 := hall e he hb
        rw [hon, getD_both hi0] at h1
        cases h1
      have step := wpOp_putIf hoj (hfree j oj hoj hji hun hno) (fun cs b => hsel i oi cs b hi) (fun cs b => hsel j oj cs b hoj) hQ hy (H.2 j (ready_mono hj hji))
      refine wpOp_mono (fun b v' g => ?_) step
      obtain ⟨gy, gS, gA⟩ := g
      have hSv : S v' := gS.resolve_left (by omega)
      rw [Array.setIfInBounds_comm _ _ (Ne.symm hji)] at gA
      refine ⟨Or.inr hSv, AnyE.first hi hsel hs hc hn hin hQ (inv.set hj hjn) (fun t o ht hti hl hno' => hfree t o ht hti ?_ hno') (ready_mono hr (Ne.symm hji)) gy hSv gA⟩
      rcases Nat.decEq j t with hjt | hjt
      · rw [getD_set_ne true hjt] at hl; exact hl
      · subst hjt; exact hun
    · subst hji
      exact hy.wpOp hi hS ⟨Or.inr hS, H⟩

theorem AnyE.take {i : Nat} {oi : Oper} {v : Value} {k : Nat} {l : Array Bool} {a : Act} {w : World} (hi : ops[i]? = some oi)
    (hs : (Region.noSelect ops && Region.sinkB md ops n && Region.chainB md ops n && decide (n < ops.size) && decide (i < n)) = true)
    (hf : (headB md ops n l && Region.free md ops l i && (Region.ready md ops l).contains i) = true)
    (hQ : ∀ c a w, Q (.panic c) (a.put oi.dst v) w → Q (.panic c) a w) (hy : YieldsIf P ops S oi v a) (hS : S w)
    (h : AnyE P md ops Q S n k (l.setIfInBounds i true) (a.put oi.dst v) w) : AnyE P md ops Q S n (k + 1) l a w := by
  simp only [Bool.and_eq_true, decide_eq_true_eq] at hs hf
  exact AnyE.first hi (Region.noSelect_spec hs.1.1.1.1) hs.1.1.1.2 hs.1.1.2 hs.1.2 hs.2 hQ (HeadInv.ofB hf.1.1) (Region.free_spec hi hf.1.2) (by simpa using hf.2) hy hS h

/-- Nothing but one operation can come up. -/
theorem AnyE.one {i : Nat} {o : Oper} {k : Nat} {l : Array Bool} {a : Act} {w : World} (ho : ops[i]? = some o) (hr : Region.ready md ops l = [i])
    (h : ∀ K' : Act → World → Prop, Shut (∀ b v, (n ≤ i ∨ S v) → AnyE P md ops Q S n k (l.setIfInBounds i true) b v → K' b v) → if Region.wanted o (yielded ops a.tmps) = true then Oper.wp P o a w K' Q else K' (a.put o.dst undef) w) :
    AnyE P md ops Q S n (k + 1) l a w :=
  ⟨fun e => (by rw [hr] at e; cases e), fun j hj => by
    rw [hr] at hj
    obtain rfl : j = i := by simpa using hj
    exact wpOp_step ho fun K' hK => h K' fun b v h1 h2 => hK b v ⟨h1, h2⟩⟩

theorem AnyE.start {id : Nat} {a : Act} {w : World} (n : Nat) (hm : P.follows .mixedOrders = true) (h : AnyE P .any ops Q S n ops.size (Array.replicate ops.size false) a w.drew) : (Code.region id ops true).wp P Q a w :=
  wp_region_any hm h.any
end
end Go.Proofs.YtogakaiibijjpaaGreatDoor
