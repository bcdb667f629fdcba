/- For every table and every number of columns MatrixReduces returns true and leaves its arguments as they read; no condition. -/
import Derived.Test.YtdgeodnfacnnmaaGreatDoorW7
import Derived.Laws.AppendOwnNone
/- The reference's Reduce. -/
set_option linter.unusedVariables false
set_option linter.unusedSimpArgs false
namespace Go.Proofs.YtdgeodnfacnnmaaGreatDoor
open Go.RowKit
open DDig DLin

set_option maxRecDepth 100000 in
set_option maxHeartbeats 8000000 in
theorem ref_reduce1 (w : World) (v : Value) (m c : Nat) (M : Mat) (h : MatF w v m c M) (hm : m ≤ 256) (hc : c ≤ 1000) (hc0 : 0 < c) (hm0 : 0 < m) (b : Nat) (hb : 0 < b) (hs : TSz M m c b) (hsz : 5 ^ (m + 1) * b ≤ 10000000000) :
    Calls Tryz.prog 9 #[v] w (Ret w fun w' v' => ∃ R P, v' = .tuple #[R, P] ∧ MatF w' R (steps m M c).piv.length c (steps m M c).M ∧ PivR w' P (steps m M c).piv) := by
  have H := Hid.mk h
  have HSZ := Hid.mk (steps_size hb hs)
  obtain ⟨A0, d0, rfl, p1, p2, p3⟩ := id h
  have HA := Hid.mk p3
  clear h hs p1 p2 p3
  go_enter Tryz.func9, Tryz.ntmps9
  go_wp2_with fail
  go_loopw [4, 5] (fun t4 t5 wr => ∃ (i : Nat) (us : List Value), i ≤ m ∧ t5 = .int .i64 i ∧ OwnC IsSl wr w.heap.size 57 1 t4 i us ∧ RowsO wr w.heap.size us i c M ∧ X w wr) (fun _ t _ => m - (intOf t).toNat)
  case atStart => exact ⟨0, [], Nat.zero_le _, rfl, OwnC.nil _ _ _ _ _, RowsO.nil _ _ _ _, X.refl _⟩
  case round =>
    obtain ⟨i, us, hi, rfl, ho, hr, hx⟩ := hrel
    have HO := Hid.mk ho
    have HR := Hid.mk hr
    have HX := Hid.mk hx
    clear ho hr hx
    by_cases him : i < m
    · have him' : (i : Int) < (m : Int) := by omega
      obtain ⟨b0, o0, rfl, gg⟩ := HA.out (by omega)
      obtain ⟨u, e0, hs⟩ := gg i him
      obtain ⟨B, d, rfl, q1, q2, q3⟩ := hs
      obtain ⟨b1, o1, rfl, -⟩ := id q3 (by omega)
      obtain ⟨fs, hl, hf, hcl⟩ := q3.list
      have hcl2 : Hid (∀ j u, (fcs fs)[j]? = some u → w.cell? ((⟨b1, o1, none⟩ : Addr).add j) = some u) := by
        intro j u hu
        rw [add_off]
        exact hcl b1 o1 rfl j u hu
      have hql : (fcs fs).length = c * 2 := by rw [fcs, flat_len fvc 2 (fun _ => rfl), hl]
      have e0' : (wr.alloc (.cells #[] 69)).cell? ⟨b0, o0 + i, none⟩ = some (.slice (some ⟨b1, o1, none⟩) c d) := (HX.out.alloc _).cell e0
      have HF := Hid.mk hf
      clear gg q1 q2 q3 hcl e0 hf
      have hlt : Hid (∀ (k : Nat) (v : Value), us[k]? = some v → ∀ (ad : Addr) (n d : Nat), v = Value.slice (some ad) n d → ad.block < wr.heap.size) := by
        intro k v hk ad n d e
        obtain ⟨h1, bs, caps, h2, h3⟩ := HR.out
        have hkl := (List.getElem?_eq_some_iff.1 hk).1
        obtain ⟨g1, g2, g3, cs, g4, g5⟩ := h2 k (by omega)
        rw [hk, e] at g1
        injection g1 with g1
        injection g1 with g1
        injection g1 with g1
        rw [g1]; exact g4.lt
      go_wp2_with (first
        | (at_builtin; refine append_own _ rfl _ _ 57 rfl wr.heap.size 69 (.agg #[.string ⟨#[]⟩, .string ⟨#[]⟩]) 2 32 Tryz.underlying57 info_F rfl (by omega) (.slice (some ⟨wr.heap.size, 0, none⟩) 0 0) 0 [] rfl (World.ownsRow_made wr #[] 0 (Nat.le_refl _) (by simp) rfl) ⟨b1, o1, none⟩ c d (fcs fs) rfl hql (fun j u hu => by exact ((HX.out).alloc _).cell (hcl2.out j u hu)) (fcs_one fs) (by omega) (by omega) (by simp) ?_; intro v1 w1 ho1 hg1; have HO1 := Hid.mk ho1; have HX1 := Hid.mk (((X.refl wr).alloc _).grown hg1 (fun k hk => by injection hk with hk; subst hk; exact Nat.le_refl _)); clear hg1; obtain ⟨b2, cap2, sp2, rfl, hb2, hb2l, hcap2, hB2, -⟩ := (own_parts ho1).resolve_left (fun h => by have := h.2; omega); have HB2 := Hid.mk hB2; have HL2 := Hid.mk hb2; have HOx := Hid.mk (HO.out.x HX1.out); have HXx := Hid.mk (HX.out.trans HX1.out); clear ho1 hB2 hb2)
        | (at_builtin; refine append_oneC IsSl w w1 rfl (.tmp 21) (.tmp 28) 26 rfl 57 (.slice none 0 0) 1 24 Tryz.underlying26 info_sF rfl (by omega) (fun u hu => ⟨none, 0, 0, by simpa [Value.cells] using hu⟩) u4 i us rfl HOx.out _ _ _ rfl rfl (by simp [Value.oneCell']) (fun u hu => ⟨_, _, _, by simpa using hu⟩) (by omega) (by omega) HXx.out ?_; intro v2 w2 ho2 hx2 hk2; have HO2 := Hid.mk ho2; have HX2 := Hid.mk hx2; have HK2 := Hid.mk hk2; clear ho2 hx2 hk2))
      go_roundw
      case rel =>
        refine ⟨i + 1, us ++ [.slice (some ⟨b2, 0, none⟩) c cap2], by omega, by go_num, HO2.out, ?_, HX2.out⟩
        have h1 : RowsO w1 w.heap.size us i c M := HR.out.x HX1.out
        have h2 : RowsO w1 w.heap.size (us ++ [.slice (some ⟨b2, 0, none⟩) c cap2]) (i + 1) c M := by
          exact h1.snoc HB2.out (by rw [List.nil_append]; exact FCs.list hl HF.out) (by omega) HX.out.size HL2.out hlt.out
        refine h2.heap fun b3 cs3 hb3 => ?_
        have hb1 := (HO.out.x HX1.out).type hb3 (by decide)
        exact HK2.out b3 hb3.lt hb1
      case measure => simp [intOf]; omega
    · have hmi : m = i := by omega
      subst hmi
      clear hi him
      have hO := HO.out
      have hR := HR.out
      have HXa := Hid.mk HX.out
      · obtain ⟨g, cap, sp, rfl, hgb, hgl, hmc, hB, -⟩ := (own_parts hO.1).resolve_left (fun h => by have := h.2; omega)
        have HT : Hid (TabR wr w.heap.size wr.heap.size g m c (steps m M 0).M) := ⟨hgb, us, sp, hB, hR, hR.low⟩
        have HP : Hid (OwnC IsI64 wr w.heap.size 3 1 (.slice none 0 0) (steps m M 0).piv.length (pivs (steps m M 0).piv)) := OwnC.nil _ _ _ _ _
        have hml : us.length = m := hR.1
        clear hO hR hgl hB HO HR hml
        go_wp2_with fail
        go_loopw [6, 7] (fun t6 t7 wr => ∃ k : Nat, t7 = .int .i64 k ∧ k ≤ c ∧ TabR wr w.heap.size wr.heap.size g m c (steps m M k).M ∧ OwnC IsI64 wr w.heap.size 3 1 t6 (steps m M k).piv.length (pivs (steps m M k).piv) ∧ X w wr) (fun _ t _ => c - (intOf t).toNat)
        case atStart => exact ⟨0, rfl, Nat.zero_le _, HT.out, HP.out, HXa.out⟩
        case round =>
          clear HT HP HXa HX
          obtain ⟨k, rfl, hkc, hT, hP, hx⟩ := hrel
          obtain ⟨top, htop⟩ : ∃ top, top = wr.heap.size := ⟨_, rfl⟩
          rw [← htop] at hT
          have HTOP : Hid (top ≤ wr.heap.size) := Nat.le_of_eq htop
          clear htop
          have HT := Hid.mk hT
          have HP := Hid.mk hP
          have HX := Hid.mk hx
          clear hT hP hx
          obtain ⟨hS1, hS2, hS3⟩ := HSZ.out k (by omega)
          have HS1 := Hid.mk hS1
          obtain ⟨s, hs⟩ : ∃ s, s = steps m M k := ⟨_, rfl⟩
          rw [← hs] at hS3 HS1 HT HP
          have HS := Hid.mk hs
          clear hs hS1 hS2
          obtain ⟨PA, pc, rfl, hpc⟩ : ∃ A cc, u6 = .slice A s.piv.length cc ∧ s.piv.length ≤ cc := by
            rcases own_parts HP.out.1 with ⟨e, e2⟩ | ⟨g', cap', sp', e, -, -, e2, -, -⟩
            · rw [e2]; exact ⟨none, 0, e, by omega⟩
            · exact ⟨_, _, e, e2⟩
          by_cases hk : k < c
          · have hk1 : (k : Int) < (c : Int) := by omega
            go_wp2_with fail
            refine (ref_columns _ _ m c M (H.out.x HX.out) (by omega) c (by rw [if_neg (by omega)])).mono ?_
            rintro e w1 ⟨⟨v1, rfl, rfl⟩, hx1⟩
            replace HT := Hid.mk (HT.out.x hx1)
            replace HP := Hid.mk (HP.out.x hx1)
            replace HX := Hid.mk (HX.out.trans hx1)
            replace HTOP := Hid.mk (Nat.le_trans HTOP.out hx1.size)
            clear hx1
            go_wp2_with fail
            go_loopw [9] (fun t9 wr => ∃ i : Nat, s.piv.length ≤ i ∧ i ≤ m ∧ t9 = .int .i64 i ∧ (∀ t, s.piv.length ≤ t → t < i → s.M t k = 0) ∧ X w1 wr) (fun t _ => m - (intOf t).toNat)
            case atStart => exact ⟨s.piv.length, Nat.le_refl _, by omega, rfl, fun t h1 h2 => by omega, X.refl _⟩
            case round =>
              obtain ⟨i, hri, him, rfl, hzs, hx⟩ := hrel
              replace HT := Hid.mk (HT.out.x hx)
              replace HP := Hid.mk (HP.out.x hx)
              have HXo := Hid.mk hx
              have HZS := Hid.mk hzs
              clear hx hzs
              by_cases hi : i < m
              · have hi' : (i : Int) < (m : Int) := by omega
                obtain ⟨b1, cap1, cs, e0, -, -, -, hb1, hf1⟩ := HT.out.row hi
                obtain ⟨a, a0, a1, ha⟩ := hf1 k hk
                have e1 := hb1.cell a0
                have e2 := hb1.cell a1
                have HA1 := Hid.mk ha
                clear hb1 hf1 a0 a1 ha
                by_cases hz : s.M i k = 0
                · go_wp2_with fail
                  refine (ref_zero _ a (s.M i k) true HA1.out (by rw [decide_eq_true_eq]; exact hz)).mono ?_
                  rintro e w4 ⟨⟨v4, rfl, rfl⟩, hx4⟩
                  have HX4 := Hid.mk (HXo.out.trans hx4)
                  have HZ2 : Hid (∀ t, s.piv.length ≤ t → t < i + 1 → s.M t k = 0) := fun t h1 h2 => by
                    by_cases e : t = i
                    · rw [e]; exact hz
                    · exact HZS.out t h1 (by omega)
                  clear e0 e1 e2 hx4 hz
                  go_wp2_with fail
                  go_roundw
                  case rel => exact ⟨i + 1, by omega, by omega, by go_num, HZ2.out, HX4.out⟩
                  case measure => simp [intOf]; omega
                · go_wp2_with fail
                  refine (ref_zero _ a (s.M i k) false HA1.out (by rw [decide_eq_false_iff_not]; exact hz)).mono ?_
                  rintro e w4 ⟨⟨v4, rfl, rfl⟩, hx4⟩
                  have hib : ((i : Int) == (m : Int)) = false := by rw [beq_eq_false_iff_ne]; omega
                  replace HT := Hid.mk (HT.out.x hx4)
                  replace HP := Hid.mk (HP.out.x hx4)
                  replace HX := Hid.mk (HX.out.trans (HXo.out.trans hx4))
                  replace HTOP := Hid.mk (Nat.le_trans HTOP.out (HXo.out.trans hx4).size)
                  have HF : Hid (findRow s.M k (m - s.piv.length) s.piv.length = some i) := findRow_some_of hz hri (by omega) HZS.out
                  have HNZ := Hid.mk hz
                  clear e0 e1 e2 hx4 hz HZS HA1 HXo
                  go_upto_region 15 with (fail)
                  go_cut [] (fun wc => TabR wc w.heap.size top g m c (swapped s.M s.piv.length i) ∧ OwnC IsI64 wc w.heap.size 3 1 (.slice PA s.piv.length pc) s.piv.length (pivs s.piv) ∧ X w wc ∧ top ≤ wc.heap.size)
                  case first =>
                    have hrm : s.piv.length < m := by omega
                    have hrm' : (s.piv.length : Int) < (m : Int) := by omega
                    obtain ⟨b1, cap1, cs1, e0, -, -, f0, -, -⟩ := HT.out.row hi
                    obtain ⟨b2, cap2, cs2, e1, -, -, f1, -, -⟩ := HT.out.row hrm
                    obtain ⟨-, us2, sp2, hBg, -⟩ := id HT.out
                    have hty := HP.out.type hBg (by decide)
                    have HTS := Hid.mk (HT.out.swap hrm hi e1 e0)
                    have HPS := Hid.mk ((HP.out.put hty s.piv.length (.slice (some ⟨b1, 0, none⟩) c cap1)).put hty i (.slice (some ⟨b2, 0, none⟩) c cap2))
                    have HXS := Hid.mk ((HX.out.set (p := ⟨g, s.piv.length, none⟩) hgb (.slice (some ⟨b1, 0, none⟩) c cap1)).set (p := ⟨g, i, none⟩) hgb (.slice (some ⟨b2, 0, none⟩) c cap2))
                    clear hBg hty
                    by_cases hir : i = s.piv.length
                    · subst hir
                      have ee := e0.symm.trans e1
                      injection ee with ee
                      injection ee with ee _ ee2
                      injection ee with ee
                      injection ee with ee
                      subst ee ee2
                      clear hri him hi
                      go_wp2_with fail
                      go_region
                      go_wp2_with fail
                      go_meet
                      exact ⟨HTS.out.x (X.refl _).drew, HPS.out.x (X.refl _).drew, HXS.out.drew, by simpa using HTOP.out⟩
                    · have hne1 : ¬ i = s.piv.length := hir
                      have hne2 : ¬ s.piv.length = i := fun h => hir h.symm
                      go_wp2_with fail
                      go_region
                      go_wp2_with fail
                      go_meet
                      exact ⟨HTS.out.x (X.refl _).drew, HPS.out.x (X.refl _).drew, HXS.out.drew, by simpa using HTOP.out⟩
                  case rest =>
                    obtain ⟨hT, hP, hx, htop⟩ := hcut
                    replace HTOP := Hid.mk htop
                    replace HT := Hid.mk hT
                    replace HP := Hid.mk hP
                    replace HX := Hid.mk hx
                    clear hT hP hx htop
                    have hrm : s.piv.length < m := by omega
                    have hrm' : (s.piv.length : Int) < (m : Int) := by omega
                    obtain ⟨S, hSd⟩ : ∃ S, S = 5 ^ s.piv.length * b := ⟨_, rfl⟩
                    have hSle : S ≤ 400000000 := by
                      have h1 : 5 ^ (s.piv.length + 2) ≤ 5 ^ (m + 1) := Nat.pow_le_pow_right (by omega) (by omega)
                      have h2 := Nat.mul_le_mul_right b h1
                      have h3 : 5 ^ (s.piv.length + 2) * b = 25 * S := by rw [hSd, Nat.pow_add]; show 5 ^ s.piv.length * 25 * b = _; rw [Nat.mul_comm (5 ^ s.piv.length) 25, Nat.mul_assoc]
                      omega
                    rw [← hSd] at HS1
                    clear hSd
                    obtain ⟨A, hA⟩ : ∃ A, A = swapped s.M s.piv.length i := ⟨_, rfl⟩
                    have HTA : Hid (TSz A m c S) := by rw [hA]; exact tsz_swapped HS1.out hrm hi
                    have HNA : Hid (A s.piv.length k ≠ 0) := by
                      have : A s.piv.length k = s.M i k := by rw [hA]; simp [swapped]
                      rw [this]; exact HNZ.out
                    rw [← hA] at HT
                    have HA1 := Hid.mk hA
                    clear hA HS1
                    obtain ⟨b2, cap2, cs2, e1, hcc, hb2, f1, B2, hf2⟩ := HT.out.row hrm
                    obtain ⟨a, a0, a1, ha⟩ := hf2 k hk
                    have e2 := B2.cell a0
                    have e3 := B2.cell a1
                    have HRA := Hid.mk ha
                    clear hf2 B2 a0 a1 ha
                    go_upto_region 17 with (fail)
                    obtain ⟨W, hW, hXW, bW, hWs⟩ := setup1 wc #[.string a.p, .string a.q] 69
                    rw [hW]
                    clear hW
                    obtain ⟨q, hq⟩ : ∃ q, q = wc.heap.size := ⟨_, rfl⟩
                    rw [← hq] at bW ⊢
                    replace HT := Hid.mk (HT.out.x hXW)
                    replace HP := Hid.mk (HP.out.x hXW)
                    replace HX := Hid.mk (HX.out.trans hXW)
                    have BW := Hid.mk bW
                    obtain ⟨p, hp⟩ : ∃ p, p = A s.piv.length k := ⟨_, rfl⟩
                    have HPV := Hid.mk hp
                    rw [← hp] at HRA HNA
                    have HQ := Hid.mk hq
                    have HTW : Hid (top ≤ W.heap.size) := Nat.le_trans HTOP.out hXW.size
                    clear hXW bW e1 e2 e3 f1 hp hq hWs
                    go_wp2_with fail
                    go_loopw [11] (fun t11 wr => ∃ j : Nat, j ≤ c ∧ t11 = .int .i64 j ∧ TabR wr w.heap.size top g m c (fun s' t => if s' = s.piv.length ∧ t < j then A s' t / p else A s' t) ∧ OwnC IsI64 wr w.heap.size 3 1 (.slice PA s.piv.length pc) s.piv.length (pivs s.piv) ∧ Blk wr q 69 [.string a.p, .string a.q] ∧ X w wr ∧ top ≤ wr.heap.size) (fun t _ => c - (intOf t).toNat)
                    case atStart => exact ⟨0, Nat.zero_le _, rfl, HT.out.congr (fun i' hi' j' hj' => by simp), HP.out, BW.out, HX.out, HTW.out⟩
                    case round =>
                      clear HT HP BW HX HTW
                      obtain ⟨j, hj, rfl, hT, hP, hbw, hx, htw⟩ := hrel
                      have HTW := Hid.mk htw
                      clear htw
                      have HT := Hid.mk hT
                      have HP := Hid.mk hP
                      have BW := Hid.mk hbw
                      have HX := Hid.mk hx
                      clear hT hP hbw hx
                      by_cases hjc : j < c
                      · have hjc' : (j : Int) < (c : Int) := by omega
                        obtain ⟨b3, cap3, cs3, e1, hc3, hb3, f1, B3, hf3⟩ := HT.out.row hrm
                        obtain ⟨x, a0, a1, ha⟩ := hf3 j hjc
                        replace ha : FR x (A s.piv.length j) := by simpa using ha
                        have e2 := B3.cell a0
                        have e3 := B3.cell a1
                        have hb := BW.out
                        have k0 := hb.cell (j := 0) rfl
                        have k1 := hb.cell (j := 1) rfl
                        have HRX := Hid.mk ha
                        have B3H := Hid.mk B3
                        have hz0 : X wr wr.drew := ⟨rfl, rfl, rfl, Nat.le_refl _, fun _ _ => rfl⟩
                        have HC := Hid.mk (fun w' (h : X wr w') => (⟨h.cell e1, h.cell e2, h.cell e3, h.cell k0, h.cell k1⟩ : w'.cell? ⟨g, s.piv.length, none⟩ = some (.slice (some ⟨b3, 0, none⟩) c cap3) ∧ w'.cell? ⟨b3, j * 2, none⟩ = some (.string x.p) ∧ w'.cell? ⟨b3, j * 2 + 1, none⟩ = some (.string x.q) ∧ w'.cell? ⟨q, 0, none⟩ = some (.string a.p) ∧ w'.cell? ⟨q, 1, none⟩ = some (.string a.q)))
                        clear hf3 B3 a0 a1 ha hb
                        go_wp2_with fail
                        have hS0 : (fun w' : World => w'.cell? ⟨g, s.piv.length, none⟩ = some (.slice (some ⟨b3, 0, none⟩) c cap3) ∧ w'.cell? ⟨b3, j * 2, none⟩ = some (.string x.p) ∧ w'.cell? ⟨b3, j * 2 + 1, none⟩ = some (.string x.q) ∧ w'.cell? ⟨q, 0, none⟩ = some (.string a.p) ∧ w'.cell? ⟨q, 1, none⟩ = some (.string a.q)) _ := HC.out _ hz0
                        refine AnyE.start (S := fun w' : World => w'.cell? ⟨g, s.piv.length, none⟩ = some (.slice (some ⟨b3, 0, none⟩) c cap3) ∧ w'.cell? ⟨b3, j * 2, none⟩ = some (.string x.p) ∧ w'.cell? ⟨b3, j * 2 + 1, none⟩ = some (.string x.q) ∧ w'.cell? ⟨q, 0, none⟩ = some (.string a.p) ∧ w'.cell? ⟨q, 1, none⟩ = some (.string a.q)) 15 (by kernel_rfl) ?_
                        refine AnyE.take (i := 0) (v := ?_) rfl (by kernel_rfl) (by kernel_rfl) (fun _ _ _ h => h) (Or.inl ⟨by rfl, ?_⟩) hS0 ?_
                        rotate_left
                        · (intro w' hSw; (try dsimp only at hSw); go_simp; try with_reducible rfl)
                        try simp only [Act.put, List.setIfInBounds_toArray, List.set_cons_zero, List.set_cons_succ]
                        refine AnyE.take (i := 1) (v := ?_) rfl (by kernel_rfl) (by kernel_rfl) (fun _ _ _ h => h) (Or.inl ⟨by rfl, ?_⟩) hS0 ?_
                        rotate_left
                        · (intro w' hSw; (try dsimp only at hSw); go_simp; try with_reducible rfl)
                        try simp only [Act.put, List.setIfInBounds_toArray, List.set_cons_zero, List.set_cons_succ]
                        refine AnyE.take (i := 2) (v := ?_) rfl (by kernel_rfl) (by kernel_rfl) (fun _ _ _ h => h) (Or.inl ⟨by rfl, ?_⟩) hS0 ?_
                        rotate_left
                        · (intro w' hSw; (try dsimp only at hSw); go_simp; try with_reducible rfl)
                        try simp only [Act.put, List.setIfInBounds_toArray, List.set_cons_zero, List.set_cons_succ]
                        refine AnyE.take (i := 3) (v := ?_) rfl (by kernel_rfl) (by kernel_rfl) (fun _ _ _ h => h) (Or.inl ⟨by rfl, ?_⟩) hS0 ?_
                        rotate_left
                        · (intro w' hSw; (try dsimp only at hSw); go_simp; try with_reducible rfl)
                        try simp only [Act.put, List.setIfInBounds_toArray, List.set_cons_zero, List.set_cons_succ]
                        refine AnyE.take (i := 4) (v := ?_) rfl (by kernel_rfl) (by kernel_rfl) (fun _ _ _ h => h) (Or.inl ⟨by rfl, ?_⟩) hS0 ?_
                        rotate_left
                        · (intro w' hSw; (try dsimp only at hSw); go_simp; try with_reducible rfl)
                        try simp only [Act.put, List.setIfInBounds_toArray, List.set_cons_zero, List.set_cons_succ]
                        refine AnyE.take (i := 5) (v := ?_) rfl (by kernel_rfl) (by kernel_rfl) (fun _ _ _ h => h) (Or.inl ⟨by rfl, ?_⟩) hS0 ?_
                        rotate_left
                        · (intro w' hSw; (try dsimp only at hSw); go_simp; try with_reducible rfl)
                        try simp only [Act.put, List.setIfInBounds_toArray, List.set_cons_zero, List.set_cons_succ]
                        refine AnyE.take (i := 6) (v := ?_) rfl (by kernel_rfl) (by kernel_rfl) (fun _ _ _ h => h) (Or.inl ⟨by rfl, ?_⟩) hS0 ?_
                        rotate_left
                        · (intro w' hSw; (try dsimp only at hSw); go_simp; try with_reducible rfl)
                        try simp only [Act.put, List.setIfInBounds_toArray, List.set_cons_zero, List.set_cons_succ]
                        refine AnyE.take (i := 7) (v := ?_) rfl (by kernel_rfl) (by kernel_rfl) (fun _ _ _ h => h) (Or.inl ⟨by rfl, ?_⟩) hS0 ?_
                        rotate_left
                        · (intro w' hSw; (try dsimp only at hSw); go_simp; try with_reducible rfl)
                        try simp only [Act.put, List.setIfInBounds_toArray, List.set_cons_zero, List.set_cons_succ]
                        refine AnyE.take (i := 8) (v := ?_) rfl (by kernel_rfl) (by kernel_rfl) (fun _ _ _ h => h) (Or.inl ⟨by rfl, ?_⟩) hS0 ?_
                        rotate_left
                        · (intro w' hSw; (try dsimp only at hSw); go_simp; try with_reducible rfl)
                        try simp only [Act.put, List.setIfInBounds_toArray, List.set_cons_zero, List.set_cons_succ]
                        refine AnyE.take (i := 9) (v := ?_) rfl (by kernel_rfl) (by kernel_rfl) (fun _ _ _ h => h) (Or.inl ⟨by rfl, ?_⟩) hS0 ?_
                        rotate_left
                        · (intro w' hSw; (try dsimp only at hSw); go_simp; try with_reducible rfl)
                        try simp only [Act.put, List.setIfInBounds_toArray, List.set_cons_zero, List.set_cons_succ]
                        refine AnyE.take (i := 10) (v := ?_) rfl (by kernel_rfl) (by kernel_rfl) (fun _ _ _ h => h) (Or.inl ⟨by rfl, ?_⟩) hS0 ?_
                        rotate_left
                        · (intro w' hSw; (try dsimp only at hSw); go_simp; try with_reducible rfl)
                        try simp only [Act.put, List.setIfInBounds_toArray, List.set_cons_zero, List.set_cons_succ]
                        refine AnyE.take (i := 11) (v := ?_) rfl (by kernel_rfl) (by kernel_rfl) (fun _ _ _ h => h) (Or.inl ⟨by rfl, ?_⟩) hS0 ?_
                        rotate_left
                        · (intro w' hSw; (try dsimp only at hSw); go_simp; try with_reducible rfl)
                        try simp only [Act.put, List.setIfInBounds_toArray, List.set_cons_zero, List.set_cons_succ]
                        refine AnyE.take (i := 12) (v := ?_) rfl (by kernel_rfl) (by kernel_rfl) (fun _ _ _ h => h) (Or.inl ⟨by rfl, ?_⟩) hS0 ?_
                        rotate_left
                        · (intro w' hSw; (try dsimp only at hSw); go_simp; try with_reducible rfl)
                        try simp only [Act.put, List.setIfInBounds_toArray, List.set_cons_zero, List.set_cons_succ]
                        refine AnyE.one (i := 13) rfl (by kernel_rfl) fun K' hK => ?_
                        go_simp
                        go_at_call 25
                        refine (ref_fdiv _ x a (A s.piv.length j) p HRX.out HRA.out S S (HTA.out _ hrm _ hjc) (by rw [HPV.out]; exact HTA.out _ hrm _ hk) (by omega) HNA.out).mono ?_
                        rintro e w2 ⟨⟨v2, rfl, r, rfl, hr⟩, hx2⟩
                        have hz2 := hz0.trans hx2
                        have hS1 := HC.out _ hz2
                        refine hK.out _ _ (Or.inr hS1) ?_
                        try simp only [Act.put, List.setIfInBounds_toArray, List.set_cons_zero, List.set_cons_succ]
                        refine AnyE.take (i := 14) (v := ?_) rfl (by kernel_rfl) (by kernel_rfl) (fun _ _ _ h => h) (Or.inl ⟨by rfl, ?_⟩) hS1 ?_
                        rotate_left
                        · (intro w' hSw; (try dsimp only at hSw); go_simp; try with_reducible rfl)
                        try simp only [Act.put, List.setIfInBounds_toArray, List.set_cons_zero, List.set_cons_succ]
                        have hb4 := B3H.out.x hz2
                        have f2 := hb4.frozen (j * 2)
                        have f3 := hb4.frozen (j * 2 + 1)
                        obtain ⟨d1, d2, d3, d4, d5⟩ := hS1
                        have HT2 := Hid.mk (((HT.out.x hz2).put hrm hjc d1 hr).congr (S := fun s' t => if s' = s.piv.length ∧ t < j + 1 then A s' t / p else A s' t) (fun t ht y hy => by
                          by_cases e1 : t = s.piv.length
                          · by_cases e2 : y = j
                            · simp [e1, e2]
                            · by_cases e3 : y < j
                              · simp [e1, e2, e3, show y < j + 1 by omega]
                              · simp [e1, e2, e3, show ¬ y < j + 1 by omega]
                          · simp [e1]))
                        have hne3 : b3 ≠ q := by
                          have h1 := HTOP.out
                          have h2 := HQ.out
                          omega
                        have BW2 := Hid.mk (((BW.out.x hz2).other (p := ⟨b3, j * 2, none⟩) hne3 (.string r.p)).other (p := ⟨b3, j * 2 + 1, none⟩) hne3 (.string r.q))
                        have HP2 := Hid.mk (((HP.out.x hz2).put ((HP.out.x hz2).type hb4 (by decide)) (j * 2) (.string r.p)).put ((HP.out.x hz2).type hb4 (by decide)) (j * 2 + 1) (.string r.q))
                        have HX2 := Hid.mk (((HX.out.trans hz2).set (p := ⟨b3, j * 2, none⟩) hb3.1 (.string r.p)).set (p := ⟨b3, j * 2 + 1, none⟩) hb3.1 (.string r.q))
                        have HTW2 : Hid (top ≤ w2.heap.size) := Nat.le_trans HTW.out hz2.size
                        clear hb4 hS0 hz0 hz2 hx2 e1 e2 e3 k0 k1 HC HT HP HX BW hr HTW
                        refine AnyE.one (i := 15) rfl (by kernel_rfl) fun K'' hK2 => ?_
                        go_simp
                        refine hK2.out _ _ (Or.inl (Nat.le_refl _)) (AnyE.done (by kernel_rfl) ?_ _)
                        try simp only [Act.put, List.setIfInBounds_toArray, List.set_cons_zero, List.set_cons_succ]
                        clear hK hK2
                        go_wp2_with fail
                        go_roundw
                        case rel => exact ⟨j + 1, by omega, by go_num, HT2.out, HP2.out, BW2.out, HX2.out, by simpa using HTW2.out⟩
                        case measure => simp [intOf]; omega
                      · obtain rfl : j = c := by omega
                        obtain ⟨b3, cap3, cs3, e1, hc3, hb3, f1, B3, hf3⟩ := HT.out.row hrm
                        obtain ⟨B, hB⟩ : ∃ B, B = scaled A s.piv.length p := ⟨_, rfl⟩
                        have HTB : Hid (TSz B m j (2 * S)) := by rw [hB, HPV.out]; exact tsz_scaled HTA.out hrm hk (by rw [← HPV.out]; exact HNA.out)
                        have HTC : Hid (TabR wr w.heap.size top g m j B) := HT.out.congr (fun t ht y hy => by
                          rw [hB]
                          unfold scaled
                          by_cases e : t = s.piv.length
                          · simp [e, hy]
                          · simp [e])
                        have HBE := Hid.mk hB
                        have hjj : ¬ (j : Int) < (j : Int) := by omega
                        clear B3 hf3 hjc hj HT hB BW
                        go_wp2_with fail
                        go_loopw [12] (fun t12 wr => ∃ y : Nat, y ≤ m ∧ t12 = .int .i64 y ∧ TabR wr w.heap.size top g m j (fun t => if t < y then cleared B s.piv.length k t else B t) ∧ OwnC IsI64 wr w.heap.size 3 1 (.slice PA s.piv.length pc) s.piv.length (pivs s.piv) ∧ X w wr ∧ top ≤ wr.heap.size) (fun t _ => m - (intOf t).toNat)
                        case atStart => exact ⟨0, Nat.zero_le _, rfl, HTC.out.congr (fun t ht y hy => by simp), HP.out, HX.out, HTW.out⟩
                        case round =>
                          clear HTC HP HX HTW e1 f1
                          obtain ⟨y, hy, rfl, hT, hP, hx, htw⟩ := hrel
                          have HT := Hid.mk hT
                          have HP := Hid.mk hP
                          have HX := Hid.mk hx
                          have HTW := Hid.mk htw
                          clear hT hP hx htw
                          by_cases hym : y < m
                          · have hym' : (y : Int) < (m : Int) := by omega
                            obtain ⟨b5, cap5, cs5, e1, hc5, hb5, f1, B5, hf5⟩ := HT.out.row hym
                            obtain ⟨x, a0, a1, ha⟩ := hf5 k hk
                            replace ha : FR x (B y k) := by simpa using ha
                            have e2 := B5.cell a0
                            have e3 := B5.cell a1
                            have HRX := Hid.mk ha
                            clear hf5 B5 a0 a1 ha
                            go_wp2_with fail
                            refine (ref_fneg _ x (B y k) HRX.out (2 * S) (HTB.out _ hym _ hk) (by omega)).mono ?_
                            rintro e w2 ⟨⟨v2, rfl, r, rfl, hr⟩, hx2⟩
                            go_upto_region 25 with (fail)
                            obtain ⟨W2, hW2, hXW, bW, hWs⟩ := setup1 w2 #[.string r.p, .string r.q] 69
                            rw [hW2]
                            clear hW2
                            obtain ⟨q2, hq⟩ : ∃ q2, q2 = w2.heap.size := ⟨_, rfl⟩
                            rw [← hq] at bW ⊢
                            have HTW2 : Hid (top ≤ q2) := by rw [hq]; exact Nat.le_trans HTW.out hx2.size
                            replace HT := Hid.mk (HT.out.x (hx2.trans hXW))
                            replace HP := Hid.mk (HP.out.x (hx2.trans hXW))
                            replace HX := Hid.mk (HX.out.trans (hx2.trans hXW))
                            replace HTW := Hid.mk (Nat.le_trans HTW.out (hx2.trans hXW).size)
                            have BW := Hid.mk bW
                            have HRT := Hid.mk hr
                            clear hXW bW hWs hq hx2 hr e1 e2 e3 f1
                            by_cases hyr : y = s.piv.length
                            · have hnb : ((y : Int) != (s.piv.length : Int)) = false := by rw [hyr]; simp
                              have HN : Hid (TabR W2 w.heap.size top g m j (fun t => if t < y + 1 then cleared B s.piv.length k t else B t)) := HT.out.congr (fun t ht x hx => by
                                by_cases e : t = y
                                · rw [e, if_neg (by omega), if_pos (by omega), hyr]; simp [cleared]
                                · by_cases e2 : t < y
                                  · rw [if_pos e2, if_pos (by omega)]
                                  · rw [if_neg e2, if_neg (by omega)])
                              obtain ⟨b5, cap5, cs5, e1, hc5, hb5, f1, B5, hf5⟩ := HT.out.row hym
                              clear hyr B5 hf5 BW HTW2
                              have hj0 : (0 : Int) < (j : Int) := by omega
                              go_wp2_with fail
                              go_loopw [14] (fun t14 wr => t14 = .int .i64 0 ∧ wr = W2) (fun _ _ => 0)
                              case atStart => exact ⟨rfl, rfl⟩
                              case round =>
                                obtain ⟨rfl, rfl⟩ := hrel
                                go_wp2_with fail
                                go_roundw
                                case rel => exact ⟨y + 1, by omega, by go_num, HN.out, HP.out, HX.out, HTW.out⟩
                                case measure => simp [intOf]; omega
                            · have hnb : ((y : Int) != (s.piv.length : Int)) = true := by rw [bne_iff_ne]; omega
                              go_wp2_with fail
                              go_loopw [14] (fun t14 wr => ∃ z : Nat, z ≤ j ∧ t14 = .int .i64 z ∧ TabR wr w.heap.size top g m j (fun t u => if t < y ∨ t = y ∧ u < z then cleared B s.piv.length k t u else B t u) ∧ OwnC IsI64 wr w.heap.size 3 1 (.slice PA s.piv.length pc) s.piv.length (pivs s.piv) ∧ Blk wr q2 69 [.string r.p, .string r.q] ∧ X w wr ∧ top ≤ wr.heap.size) (fun t _ => j - (intOf t).toNat)
                              case atStart => exact ⟨0, Nat.zero_le _, rfl, HT.out.congr (fun t ht u hu => by
                                by_cases e : t < y
                                · simp [e]
                                · simp [e]), HP.out, BW.out, HX.out, HTW.out⟩
                              case round =>
                                clear HT HP BW HX HTW
                                obtain ⟨z, hz, rfl, hT, hP, hbw, hx, htw⟩ := hrel
                                have HT := Hid.mk hT
                                have HP := Hid.mk hP
                                have BW := Hid.mk hbw
                                have HX := Hid.mk hx
                                have HTW := Hid.mk htw
                                clear hT hP hbw hx htw
                                by_cases hzj : z < j
                                · have hzj' : (z : Int) < (j : Int) := by omega
                                  obtain ⟨b5, cap5, cs5, e1, hc5, hb5, f1, B5, hf5⟩ := HT.out.row hym
                                  obtain ⟨x1, a0, a1, ha⟩ := hf5 z hzj
                                  replace ha : FR x1 (B y z) := by simpa using ha
                                  have e2 := B5.cell a0
                                  have e3 := B5.cell a1
                                  obtain ⟨b6, cap6, cs6, e4, hc6, hb6, f6, B6, hf6⟩ := HT.out.row hrm
                                  obtain ⟨x2, a2, a3, ha2⟩ := hf6 z hzj
                                  replace ha2 : FR x2 (B s.piv.length z) := by
                                    have e : (if s.piv.length < y ∨ s.piv.length = y ∧ z < z then cleared B s.piv.length k s.piv.length z else B s.piv.length z) = B s.piv.length z := by
                                      split
                                      · simp [cleared]
                                      · rfl
                                    rw [← e]; exact ha2
                                  have e5 := B6.cell a2
                                  have e6 := B6.cell a3
                                  have hb := BW.out
                                  have k0 := hb.cell (j := 0) rfl
                                  have k1 := hb.cell (j := 1) rfl
                                  have HRX1 := Hid.mk ha
                                  have HRX2 := Hid.mk ha2
                                  have B5H := Hid.mk B5
                                  have hz0 : X wr wr.drew := ⟨rfl, rfl, rfl, Nat.le_refl _, fun _ _ => rfl⟩
                                  have HC := Hid.mk (fun w' (h : X wr w') => (⟨h.cell e1, h.cell e4, h.cell e2, h.cell e3, h.cell e5, h.cell e6, h.cell k0, h.cell k1⟩ : w'.cell? ⟨g, y, none⟩ = some (.slice (some ⟨b5, 0, none⟩) j cap5) ∧ w'.cell? ⟨g, s.piv.length, none⟩ = some (.slice (some ⟨b6, 0, none⟩) j cap6) ∧ w'.cell? ⟨b5, z * 2, none⟩ = some (.string x1.p) ∧ w'.cell? ⟨b5, z * 2 + 1, none⟩ = some (.string x1.q) ∧ w'.cell? ⟨b6, z * 2, none⟩ = some (.string x2.p) ∧ w'.cell? ⟨b6, z * 2 + 1, none⟩ = some (.string x2.q) ∧ w'.cell? ⟨q2, 0, none⟩ = some (.string r.p) ∧ w'.cell? ⟨q2, 1, none⟩ = some (.string r.q)))
                                  clear hf5 B5 a0 a1 ha hb hf6 B6 a2 a3 ha2
                                  go_wp2_with fail
                                  have hS0 : (fun w' : World => w'.cell? ⟨g, y, none⟩ = some (.slice (some ⟨b5, 0, none⟩) j cap5) ∧ w'.cell? ⟨g, s.piv.length, none⟩ = some (.slice (some ⟨b6, 0, none⟩) j cap6) ∧ w'.cell? ⟨b5, z * 2, none⟩ = some (.string x1.p) ∧ w'.cell? ⟨b5, z * 2 + 1, none⟩ = some (.string x1.q) ∧ w'.cell? ⟨b6, z * 2, none⟩ = some (.string x2.p) ∧ w'.cell? ⟨b6, z * 2 + 1, none⟩ = some (.string x2.q) ∧ w'.cell? ⟨q2, 0, none⟩ = some (.string r.p) ∧ w'.cell? ⟨q2, 1, none⟩ = some (.string r.q)) _ := HC.out _ hz0
                                  refine AnyE.start (S := fun w' : World => w'.cell? ⟨g, y, none⟩ = some (.slice (some ⟨b5, 0, none⟩) j cap5) ∧ w'.cell? ⟨g, s.piv.length, none⟩ = some (.slice (some ⟨b6, 0, none⟩) j cap6) ∧ w'.cell? ⟨b5, z * 2, none⟩ = some (.string x1.p) ∧ w'.cell? ⟨b5, z * 2 + 1, none⟩ = some (.string x1.q) ∧ w'.cell? ⟨b6, z * 2, none⟩ = some (.string x2.p) ∧ w'.cell? ⟨b6, z * 2 + 1, none⟩ = some (.string x2.q) ∧ w'.cell? ⟨q2, 0, none⟩ = some (.string r.p) ∧ w'.cell? ⟨q2, 1, none⟩ = some (.string r.q)) 23 (by kernel_rfl) ?_
                                  refine AnyE.take (i := 0) (v := ?_) rfl (by kernel_rfl) (by kernel_rfl) (fun _ _ _ h => h) (Or.inl ⟨by rfl, ?_⟩) hS0 ?_
                                  rotate_left
                                  · (intro w' hSw; (try dsimp only at hSw); go_simp; try with_reducible rfl)
                                  try simp only [Act.put, List.setIfInBounds_toArray, List.set_cons_zero, List.set_cons_succ]
                                  refine AnyE.take (i := 1) (v := ?_) rfl (by kernel_rfl) (by kernel_rfl) (fun _ _ _ h => h) (Or.inl ⟨by rfl, ?_⟩) hS0 ?_
                                  rotate_left
                                  · (intro w' hSw; (try dsimp only at hSw); go_simp; try with_reducible rfl)
                                  try simp only [Act.put, List.setIfInBounds_toArray, List.set_cons_zero, List.set_cons_succ]
                                  refine AnyE.take (i := 2) (v := ?_) rfl (by kernel_rfl) (by kernel_rfl) (fun _ _ _ h => h) (Or.inl ⟨by rfl, ?_⟩) hS0 ?_
                                  rotate_left
                                  · (intro w' hSw; (try dsimp only at hSw); go_simp; try with_reducible rfl)
                                  try simp only [Act.put, List.setIfInBounds_toArray, List.set_cons_zero, List.set_cons_succ]
                                  refine AnyE.take (i := 3) (v := ?_) rfl (by kernel_rfl) (by kernel_rfl) (fun _ _ _ h => h) (Or.inl ⟨by rfl, ?_⟩) hS0 ?_
                                  rotate_left
                                  · (intro w' hSw; (try dsimp only at hSw); go_simp; try with_reducible rfl)
                                  try simp only [Act.put, List.setIfInBounds_toArray, List.set_cons_zero, List.set_cons_succ]
                                  refine AnyE.take (i := 4) (v := ?_) rfl (by kernel_rfl) (by kernel_rfl) (fun _ _ _ h => h) (Or.inl ⟨by rfl, ?_⟩) hS0 ?_
                                  rotate_left
                                  · (intro w' hSw; (try dsimp only at hSw); go_simp; try with_reducible rfl)
                                  try simp only [Act.put, List.setIfInBounds_toArray, List.set_cons_zero, List.set_cons_succ]
                                  refine AnyE.take (i := 5) (v := ?_) rfl (by kernel_rfl) (by kernel_rfl) (fun _ _ _ h => h) (Or.inl ⟨by rfl, ?_⟩) hS0 ?_
                                  rotate_left
                                  · (intro w' hSw; (try dsimp only at hSw); go_simp; try with_reducible rfl)
                                  try simp only [Act.put, List.setIfInBounds_toArray, List.set_cons_zero, List.set_cons_succ]
                                  refine AnyE.take (i := 6) (v := ?_) rfl (by kernel_rfl) (by kernel_rfl) (fun _ _ _ h => h) (Or.inl ⟨by rfl, ?_⟩) hS0 ?_
                                  rotate_left
                                  · (intro w' hSw; (try dsimp only at hSw); go_simp; try with_reducible rfl)
                                  try simp only [Act.put, List.setIfInBounds_toArray, List.set_cons_zero, List.set_cons_succ]
                                  refine AnyE.take (i := 7) (v := ?_) rfl (by kernel_rfl) (by kernel_rfl) (fun _ _ _ h => h) (Or.inl ⟨by rfl, ?_⟩) hS0 ?_
                                  rotate_left
                                  · (intro w' hSw; (try dsimp only at hSw); go_simp; try with_reducible rfl)
                                  try simp only [Act.put, List.setIfInBounds_toArray, List.set_cons_zero, List.set_cons_succ]
                                  refine AnyE.take (i := 8) (v := ?_) rfl (by kernel_rfl) (by kernel_rfl) (fun _ _ _ h => h) (Or.inl ⟨by rfl, ?_⟩) hS0 ?_
                                  rotate_left
                                  · (intro w' hSw; (try dsimp only at hSw); go_simp; try with_reducible rfl)
                                  try simp only [Act.put, List.setIfInBounds_toArray, List.set_cons_zero, List.set_cons_succ]
                                  refine AnyE.take (i := 9) (v := ?_) rfl (by kernel_rfl) (by kernel_rfl) (fun _ _ _ h => h) (Or.inl ⟨by rfl, ?_⟩) hS0 ?_
                                  rotate_left
                                  · (intro w' hSw; (try dsimp only at hSw); go_simp; try with_reducible rfl)
                                  try simp only [Act.put, List.setIfInBounds_toArray, List.set_cons_zero, List.set_cons_succ]
                                  refine AnyE.take (i := 10) (v := ?_) rfl (by kernel_rfl) (by kernel_rfl) (fun _ _ _ h => h) (Or.inl ⟨by rfl, ?_⟩) hS0 ?_
                                  rotate_left
                                  · (intro w' hSw; (try dsimp only at hSw); go_simp; try with_reducible rfl)
                                  try simp only [Act.put, List.setIfInBounds_toArray, List.set_cons_zero, List.set_cons_succ]
                                  refine AnyE.take (i := 11) (v := ?_) rfl (by kernel_rfl) (by kernel_rfl) (fun _ _ _ h => h) (Or.inl ⟨by rfl, ?_⟩) hS0 ?_
                                  rotate_left
                                  · (intro w' hSw; (try dsimp only at hSw); go_simp; try with_reducible rfl)
                                  try simp only [Act.put, List.setIfInBounds_toArray, List.set_cons_zero, List.set_cons_succ]
                                  refine AnyE.take (i := 12) (v := ?_) rfl (by kernel_rfl) (by kernel_rfl) (fun _ _ _ h => h) (Or.inl ⟨by rfl, ?_⟩) hS0 ?_
                                  rotate_left
                                  · (intro w' hSw; (try dsimp only at hSw); go_simp; try with_reducible rfl)
                                  try simp only [Act.put, List.setIfInBounds_toArray, List.set_cons_zero, List.set_cons_succ]
                                  refine AnyE.take (i := 13) (v := ?_) rfl (by kernel_rfl) (by kernel_rfl) (fun _ _ _ h => h) (Or.inl ⟨by rfl, ?_⟩) hS0 ?_
                                  rotate_left
                                  · (intro w' hSw; (try dsimp only at hSw); go_simp; try with_reducible rfl)
                                  try simp only [Act.put, List.setIfInBounds_toArray, List.set_cons_zero, List.set_cons_succ]
                                  refine AnyE.take (i := 14) (v := ?_) rfl (by kernel_rfl) (by kernel_rfl) (fun _ _ _ h => h) (Or.inl ⟨by rfl, ?_⟩) hS0 ?_
                                  rotate_left
                                  · (intro w' hSw; (try dsimp only at hSw); go_simp; try with_reducible rfl)
                                  try simp only [Act.put, List.setIfInBounds_toArray, List.set_cons_zero, List.set_cons_succ]
                                  refine AnyE.take (i := 15) (v := ?_) rfl (by kernel_rfl) (by kernel_rfl) (fun _ _ _ h => h) (Or.inl ⟨by rfl, ?_⟩) hS0 ?_
                                  rotate_left
                                  · (intro w' hSw; (try dsimp only at hSw); go_simp; try with_reducible rfl)
                                  try simp only [Act.put, List.setIfInBounds_toArray, List.set_cons_zero, List.set_cons_succ]
                                  refine AnyE.take (i := 16) (v := ?_) rfl (by kernel_rfl) (by kernel_rfl) (fun _ _ _ h => h) (Or.inl ⟨by rfl, ?_⟩) hS0 ?_
                                  rotate_left
                                  · (intro w' hSw; (try dsimp only at hSw); go_simp; try with_reducible rfl)
                                  try simp only [Act.put, List.setIfInBounds_toArray, List.set_cons_zero, List.set_cons_succ]
                                  refine AnyE.take (i := 17) (v := ?_) rfl (by kernel_rfl) (by kernel_rfl) (fun _ _ _ h => h) (Or.inl ⟨by rfl, ?_⟩) hS0 ?_
                                  rotate_left
                                  · (intro w' hSw; (try dsimp only at hSw); go_simp; try with_reducible rfl)
                                  try simp only [Act.put, List.setIfInBounds_toArray, List.set_cons_zero, List.set_cons_succ]
                                  refine AnyE.take (i := 18) (v := ?_) rfl (by kernel_rfl) (by kernel_rfl) (fun _ _ _ h => h) (Or.inl ⟨by rfl, ?_⟩) hS0 ?_
                                  rotate_left
                                  · (intro w' hSw; (try dsimp only at hSw); go_simp; try with_reducible rfl)
                                  try simp only [Act.put, List.setIfInBounds_toArray, List.set_cons_zero, List.set_cons_succ]
                                  refine AnyE.take (i := 19) (v := ?_) rfl (by kernel_rfl) (by kernel_rfl) (fun _ _ _ h => h) (Or.inl ⟨by rfl, ?_⟩) hS0 ?_
                                  rotate_left
                                  · (intro w' hSw; (try dsimp only at hSw); go_simp; try with_reducible rfl)
                                  try simp only [Act.put, List.setIfInBounds_toArray, List.set_cons_zero, List.set_cons_succ]
                                  refine AnyE.one (i := 20) rfl (by kernel_rfl) fun K' hK => ?_
                                  go_simp
                                  go_at_call 28
                                  refine (ref_fmul _ r x2 (- B y k) (B s.piv.length z) HRT.out HRX2.out (2 * S) (2 * S) (HTB.out _ hym _ hk).neg (HTB.out _ hrm _ hzj) (by omega)).mono ?_
                                  rintro e w3 ⟨⟨v3, rfl, r3, rfl, hr3⟩, hx3⟩
                                  have hz1 := hz0.trans hx3
                                  have hS1 := HC.out _ hz1
                                  refine hK.out _ _ (Or.inr hS1) ?_
                                  try simp only [Act.put, List.setIfInBounds_toArray, List.set_cons_zero, List.set_cons_succ]
                                  clear hK hS0
                                  refine AnyE.one (i := 21) rfl (by kernel_rfl) fun K' hK => ?_
                                  go_simp
                                  go_at_call 27
                                  refine (ref_fadd _ x1 r3 (B y z) (- B y k * B s.piv.length z) HRX1.out hr3 (2 * S) (2 * S + 2 * S) (HTB.out _ hym _ hzj) ((HTB.out _ hym _ hk).neg.mul (HTB.out _ hrm _ hzj)) (by omega)).mono ?_
                                  rintro e w4 ⟨⟨v4, rfl, r4, rfl, hr4⟩, hx4⟩
                                  have hz2 := hz1.trans hx4
                                  have hS2 := HC.out _ hz2
                                  refine hK.out _ _ (Or.inr hS2) ?_
                                  try simp only [Act.put, List.setIfInBounds_toArray, List.set_cons_zero, List.set_cons_succ]
                                  clear hK hS1
                                  refine AnyE.take (i := 22) (v := ?_) rfl (by kernel_rfl) (by kernel_rfl) (fun _ _ _ h => h) (Or.inl ⟨by rfl, ?_⟩) hS2 ?_
                                  rotate_left
                                  · (intro w' hSw; (try dsimp only at hSw); go_simp; try with_reducible rfl)
                                  try simp only [Act.put, List.setIfInBounds_toArray, List.set_cons_zero, List.set_cons_succ]
                                  have hb4 := B5H.out.x hz2
                                  have f2 := hb4.frozen (z * 2)
                                  have f3 := hb4.frozen (z * 2 + 1)
                                  obtain ⟨d1, d2, d3, d4, -, -, -, -⟩ := hS2
                                  have HT2 := Hid.mk (((HT.out.x hz2).put hym hzj d1 hr4).congr (S := fun t u => if t < y ∨ t = y ∧ u < z + 1 then cleared B s.piv.length k t u else B t u) (fun t ht u hu => by
                                    by_cases e1 : t = y
                                    · by_cases e2 : u = z
                                      · have e3 : cleared B s.piv.length k y z = B y z + - B y k * B s.piv.length z := by
                                          simp only [cleared, if_neg hyr, Rat.sub_eq_add_neg, Rat.neg_mul]
                                        simp [e1, e2, e3]
                                      · by_cases e3 : u < z
                                        · simp [e1, e2, e3, show u < z + 1 by omega]
                                        · simp [e1, e2, e3, show ¬ u < z + 1 by omega]
                                    · simp [e1]))
                                  have hne3 : b5 ≠ q2 := by
                                    have h1 := HTW2.out
                                    omega
                                  have BW2 := Hid.mk (((BW.out.x hz2).other (p := ⟨b5, z * 2, none⟩) hne3 (.string r4.p)).other (p := ⟨b5, z * 2 + 1, none⟩) hne3 (.string r4.q))
                                  have HP2 := Hid.mk (((HP.out.x hz2).put ((HP.out.x hz2).type hb4 (by decide)) (z * 2) (.string r4.p)).put ((HP.out.x hz2).type hb4 (by decide)) (z * 2 + 1) (.string r4.q))
                                  have HX2 := Hid.mk (((HX.out.trans hz2).set (p := ⟨b5, z * 2, none⟩) hb5.1 (.string r4.p)).set (p := ⟨b5, z * 2 + 1, none⟩) hb5.1 (.string r4.q))
                                  have HTW4 : Hid (top ≤ w4.heap.size) := Nat.le_trans HTW.out hz2.size
                                  clear hb4 hz0 hz1 hz2 hx3 hx4 e1 e2 e3 e4 e5 e6 k0 k1 HC HT HP HX BW hr3 hr4 HTW
                                  refine AnyE.one (i := 23) rfl (by kernel_rfl) fun K'' hK2 => ?_
                                  go_simp
                                  refine hK2.out _ _ (Or.inl (Nat.le_refl _)) (AnyE.done (by kernel_rfl) ?_ _)
                                  try simp only [Act.put, List.setIfInBounds_toArray, List.set_cons_zero, List.set_cons_succ]
                                  clear hK2
                                  go_wp2_with fail
                                  go_roundw
                                  case rel => exact ⟨z + 1, by omega, by go_num, HT2.out, HP2.out, BW2.out, HX2.out, by simpa using HTW4.out⟩
                                  case measure => simp [intOf]; omega
                                · obtain rfl : z = j := by omega
                                  have HN : Hid (TabR wr w.heap.size top g m z (fun t => if t < y + 1 then cleared B s.piv.length k t else B t)) := HT.out.congr (fun t ht u hu => by
                                    by_cases e : t = y
                                    · simp [e, hu]
                                    · by_cases e2 : t < y
                                      · simp [e2, show t < y + 1 by omega]
                                      · simp [e, e2, show ¬ t < y + 1 by omega])
                                  obtain ⟨b5, cap5, cs5, e1, hc5, hb5, f1, B5, hf5⟩ := HT.out.row hym
                                  have hzz : ¬ (z : Int) < (z : Int) := by omega
                                  clear B5 hf5 BW hzj hz
                                  go_wp2_with fail
                                  go_roundw
                                  case rel => exact ⟨y + 1, by omega, by go_num, HN.out, HP.out, HX.out, HTW.out⟩
                                  case measure => simp [intOf]; omega
                          · have hmy : m = y := by omega
                            subst hmy
                            have hmm : ¬ (m : Int) < (m : Int) := by omega
                            have HTF : Hid (TabR wr w.heap.size top g m j (cleared B s.piv.length k)) := HT.out.congr (fun t ht u hu => by simp [ht])
                            have hE := step_some HF.out
                            have HST1 : Hid ((steps m M (k + 1)).M = cleared B s.piv.length k) := by
                              show (DLin.step m (steps m M k) k).M = _
                              rw [← HS.out, hE, HBE.out, HPV.out, HA1.out]
                            have HST2 : Hid ((steps m M (k + 1)).piv = s.piv ++ [k]) := by
                              show (DLin.step m (steps m M k) k).piv = _
                              rw [← HS.out, hE]
                            have hpl : (s.piv.length + 1) * 8 ≤ 140737488355328 := by omega
                            clear hE hym hy HT
                            go_wp2_with (at_builtin; refine append_oneC IsI64 w _ rfl _ _ 30 rfl 3 (.int .i64 0) 1 8 Tryz.underlying30 info_int rfl (by omega) (fun u hu => ⟨0, by simpa [Value.cells] using hu⟩) _ _ _ rfl HP.out _ _ _ rfl rfl (by simp [Value.oneCell']) (fun u hu => ⟨k, by simpa using hu⟩) (by omega) (by omega) HX.out ?_; intro v7 w7 ho7 hx7 hk7; have HTG := Hid.mk (HTF.out.heap (fun b cs hb => hk7 b (hb.elim Blk.lt Blk.lt) (hb.elim (fun h => HP.out.type h (by decide)) (fun h => HP.out.type h (by decide))))).retop; have HPG := Hid.mk ho7; have HXG := Hid.mk hx7; clear ho7 hx7 hk7)
                            go_roundw
                            case rel =>
                              refine ⟨k + 1, by go_num, by omega, by rw [HST1.out]; exact HTG.out, ?_, HXG.out⟩
                              rw [HST2.out]
                              have e1 : (s.piv ++ [k]).length = s.piv.length + 1 := by simp
                              have e2 : pivs (s.piv ++ [k]) = pivs s.piv ++ [.int .i64 (k : Int)] := by simp [pivs, nums]
                              rw [e1, e2]; exact HPG.out
                            case measure => simp [intOf]; omega
              · have him' : i = m := by omega
                have hib : ((i : Int) == (m : Int)) = true := by rw [him']; simp
                have hi' : ¬ (i : Int) < (m : Int) := by omega
                have HST : Hid (steps m M (k + 1) = s) := by
                  have hf := findRow_none_of (M := s.M) (k := k) (d := m - s.piv.length) (i := s.piv.length) (fun t h1 h2 => HZS.out t h1 (by omega))
                  have e := step_none hf
                  show steps m M (k + 1) = s
                  rw [← e, HS.out]; rfl
                have HXF := Hid.mk (HX.out.trans HXo.out)
                clear hi him him' hri
                go_wp2_with fail
                go_roundw
                case rel => exact ⟨k + 1, by go_num, by omega, by rw [HST.out]; exact HT.out.retop, by rw [HST.out]; exact HP.out, HXF.out⟩
                case measure => simp [intOf]; omega
          · obtain rfl : k = c := by omega
            have hkk : ¬ (k : Int) < (k : Int) := by omega
            have hl1 : (s.piv.length : Int) ≤ (cap : Int) := by omega
            have hl0 : (0 : Int) ≤ (s.piv.length : Int) := by omega
            go_wp2_with fail
            refine (ref_columns _ _ m k M (H.out.x HX.out) (by omega) k (by rw [if_neg (by omega)])).mono ?_
            rintro e w1 ⟨⟨v1, rfl, rfl⟩, hx1⟩
            have HM := Hid.mk ((HT.out.x hx1).read (p := s.piv.length) (cap := cap) hS3 (by omega))
            have HPV := Hid.mk (PivR.own (HP.out.x hx1))
            have HXF := Hid.mk (HX.out.trans hx1)
            clear hx1 hk
            go_wp2_with fail
            go_ret2
            refine ⟨⟨_, rfl, _, _, rfl, ?_, ?_⟩, HXF.out⟩
            · rw [← HS.out]; exact HM.out
            · rw [← HS.out]; exact HPV.out
end Go.Proofs.YtdgeodnfacnnmaaGreatDoor

/- The reference's Reduce of a table without rows or without columns. -/
set_option linter.unusedVariables false
set_option linter.unusedSimpArgs false
namespace Go.Proofs.YtdgeodnfacnnmaaGreatDoor
open Go.RowKit
open DDig DLin

theorem MatF.none {w : World} {v : Value} {m c : Nat} {M N : Nat → Nat → Rat} (h : MatF w v m c M) (h0 : m = 0) : MatF w v 0 c N := by
  subst h0
  obtain ⟨A, k, rfl, h1, h2, h3⟩ := h
  exact ⟨A, k, rfl, h1, h2, fun h => absurd h (by omega)⟩

theorem steps_none {m c : Nat} (M : Mat) (h : m = 0 ∨ c = 0) : (steps m M c).piv = [] := by
  rcases h with h | h
  · have := (inv_steps m M c).len
    rw [h] at this ⊢
    exact List.eq_nil_of_length_eq_zero (by omega)
  · subst h; rfl

theorem append_none {P : Program} (w : World) {ops : Array Oper} {rest : List Oper} {o : Oper} {a : Act} {Q : Exit → Act → World → Prop} (hgd : o.guard = none) (s x : Operand) (t : TypeId)
    (ho : o.op = .call { callee := .builtin .append, args := #[s, x], argTypes := #[t, t] })
    (base : Nat) (e : TypeId) (z : Value) (size bytes : Nat) (ht : P.underlying t = some (.slice e)) (h2 : (P.info? e).map (fun i => (i.zero, i.size, i.bytes)) = some (some z, size, bytes)) (hzs : z.cells.size = size) (hsz : 0 < size)
    (v : Value) (hs : a.eval s = v) (hown : w.ownsRow base e size v 0 []) (B : Option Addr) (d : Nat) (hx : a.eval x = .slice B 0 d) (hB : B = none → d = 0) (hbase : base ≤ w.heap.size)
    (h : ∀ v' w', IsSl v' → w.grownBy w' v.ownBlock → wpList P ops Q rest (a.put o.dst v') w') : wpList P ops Q (o :: rest) a w := by
  have hv : ∀ {v w'} , World.ownsRow w' base e size v 0 [] → IsSl v := by
    intro v w' h
    rcases own_parts h with ⟨h1, -⟩ | ⟨g, cap, sp, h1, -⟩
    · exact ⟨_, _, _, h1⟩
    · exact ⟨_, _, _, h1⟩
  cases B with
  | none =>
    obtain rfl := hB rfl
    obtain ⟨i, hi, e1, e2, e3⟩ := info_parts h2
    exact wpList_append_own_none hgd s x t ho base e i size ht hi v 0 [] hs hown hx (h _ _ (hv hown) (World.grownBy.refl _ _))
  | some ad => exact append_own w hgd s x t ho base e z size bytes ht h2 hzs hsz v 0 [] hs hown ad 0 d [] hx (by simp) (by simp) (by simp) (by simp) (by simp) hbase (fun v' w' k1 k2 => h v' w' (hv k1) k2)

set_option maxRecDepth 100000 in
set_option maxHeartbeats 4000000 in
theorem ref_reduce0 (w : World) (v : Value) (m c : Nat) (M : Mat) (h : MatF w v m c M) (hm : m ≤ 256) (h0 : m = 0 ∨ c = 0) (N : Mat) :
    Calls Tryz.prog 9 #[v] w (Ret w fun w' v' => ∃ R P, v' = .tuple #[R, P] ∧ MatF w' R 0 c N ∧ PivR w' P []) := by
  have H := Hid.mk h
  have H0 := Hid.mk h0
  obtain ⟨A0, d0, rfl, p1, p2, p3⟩ := id h
  have HA := Hid.mk p3
  clear h h0 p1 p2 p3
  go_enter Tryz.func9, Tryz.ntmps9
  go_wp2_with fail
  go_loopw [4, 5] (fun t4 t5 wr => ∃ (i : Nat) (us : List Value), i ≤ m ∧ t5 = .int .i64 i ∧ OwnC IsSl wr w.heap.size 57 1 t4 i us ∧ X w wr) (fun _ t _ => m - (intOf t).toNat)
  case atStart => exact ⟨0, [], Nat.zero_le _, rfl, OwnC.nil _ _ _ _ _, X.refl _⟩
  case round =>
    obtain ⟨i, us, hi, rfl, ho, hx⟩ := hrel
    have HO := Hid.mk ho
    have HX := Hid.mk hx
    clear ho hx
    by_cases him : i < m
    · have him' : (i : Int) < (m : Int) := by omega
      obtain ⟨b0, o0, rfl, gg⟩ := HA.out (by omega)
      obtain ⟨u, e0, hs⟩ := gg i him
      have hc0 : c = 0 := by have := H0.out; omega
      subst hc0
      obtain ⟨B, d, rfl, q1, q2, q3⟩ := hs
      have HB : Hid (B = none → d = 0) := fun h => (q2 h).2
      have e0' : (wr.alloc (.cells #[] 69)).cell? ⟨b0, o0 + i, none⟩ = some (.slice B 0 d) := (HX.out.alloc _).cell e0
      clear gg q1 q2 q3 e0
      go_wp2_with (first
        | (at_builtin; refine append_none _ rfl _ _ 57 rfl wr.heap.size 69 (.agg #[.string ⟨#[]⟩, .string ⟨#[]⟩]) 2 32 Tryz.underlying57 info_F rfl (by omega) (.slice (some ⟨wr.heap.size, 0, none⟩) 0 0) rfl (World.ownsRow_made wr #[] 0 (Nat.le_refl _) (by simp) rfl) B d rfl HB.out (by simp) ?_; intro v1 w1 hv1 hg1; obtain ⟨A1, n1, c1, rfl⟩ := hv1; have HX1 := Hid.mk (((X.refl wr).alloc _).grown hg1 (fun k hk => by injection hk with hk; subst hk; exact Nat.le_refl _)); clear hg1; have HOx := Hid.mk (HO.out.x HX1.out); have HXx := Hid.mk (HX.out.trans HX1.out))
        | (at_builtin; refine append_oneC IsSl w w1 rfl (.tmp 21) (.tmp 28) 26 rfl 57 (.slice none 0 0) 1 24 Tryz.underlying26 info_sF rfl (by omega) (fun u hu => ⟨none, 0, 0, by simpa [Value.cells] using hu⟩) u4 i us rfl HOx.out _ _ _ rfl rfl (by simp [Value.oneCell']) (fun u hu => ⟨_, _, _, by simpa using hu⟩) (by omega) (by omega) HXx.out ?_; intro v2 w2 ho2 hx2 hk2; have HO2 := Hid.mk ho2; have HX2 := Hid.mk hx2; clear ho2 hx2 hk2))
      go_roundw
      case rel => exact ⟨i + 1, us ++ [.slice A1 n1 c1], by omega, by go_num, HO2.out, HX2.out⟩
      case measure => simp [intOf]; omega
    · have hmi : m = i := by omega
      subst hmi
      clear hi him
      go_wp2_with fail
      go_loopw [6, 7] (fun t6 t7 wr' => t6 = .slice none 0 0 ∧ t7 = .int .i64 0 ∧ X wr wr') (fun _ _ _ => 0)
      case atStart => exact ⟨rfl, rfl, X.refl _⟩
      case round =>
        obtain ⟨rfl, rfl, hx⟩ := hrel
        have HXo := Hid.mk hx
        clear hx
        go_wp2_with fail
        refine (ref_columns _ _ m c M (H.out.x (HX.out.trans HXo.out)) (by omega) 0 (by have := H0.out; split <;> omega)).mono ?_
        rintro e w1 ⟨⟨v1, rfl, rfl⟩, hx1⟩
        have HXF := Hid.mk ((HX.out.trans HXo.out).trans hx1)
        clear hx1
        have hsl : ∃ A cap, u4 = .slice A m cap ∧ m ≤ cap ∧ (A = none → m = 0 ∧ cap = 0) := by
          rcases own_parts HO.out.1 with ⟨e, e2⟩ | ⟨g, cap, sp, e, -, -, e2, -, -⟩
          · exact ⟨none, 0, by rw [e, e2], by omega, fun _ => ⟨e2, rfl⟩⟩
          · exact ⟨_, _, e, e2, fun h => by simp at h⟩
        obtain ⟨A, cap, rfl, hcap, hA⟩ := hsl
        have HAA := Hid.mk hA
        clear hA
        have hl0 : (0 : Int) ≤ (cap : Int) := by omega
        go_wp2_with fail
        go_ret2
        refine ⟨⟨_, rfl, _, _, rfl, ⟨A, cap, rfl, by omega, fun h => ⟨rfl, (HAA.out h).2⟩, fun h => absurd h (by omega)⟩, none, 0, rfl, by simp, Rd.nil _ _ _, fun _ => ⟨rfl, rfl⟩⟩, HXF.out⟩
end Go.Proofs.YtdgeodnfacnnmaaGreatDoor

/- The reference's Reduce, of any table. -/
set_option linter.unusedVariables false
set_option linter.unusedSimpArgs false
namespace Go.Proofs.YtdgeodnfacnnmaaGreatDoor
open Go.RowKit
open DDig DLin

theorem ref_reduce (w : World) (v : Value) (m c : Nat) (M : Mat) (h : MatF w v m c M) (hm : m ≤ 256) (hc : c ≤ 1000) (b : Nat) (hb : 0 < b) (hs : TSz M m c b) (hsz : 5 ^ (m + 1) * b ≤ 10000000000) :
    Calls Tryz.prog 9 #[v] w (Ret w fun w' v' => ∃ R P, v' = .tuple #[R, P] ∧ MatF w' R (steps m M c).piv.length c (steps m M c).M ∧ PivR w' P (steps m M c).piv) := by
  by_cases h0 : m = 0 ∨ c = 0
  · rw [steps_none M h0]
    exact ref_reduce0 w v m c M h hm h0 _
  · exact ref_reduce1 w v m c M h hm hc (by omega) (by omega) b hb hs hsz
end Go.Proofs.YtdgeodnfacnnmaaGreatDoor

/- The reference: Kernel. -/
set_option linter.unusedVariables false
set_option linter.unusedSimpArgs false
namespace Go.Proofs.YtdgeodnfacnnmaaGreatDoor
open Go.RowKit
open DDig DLin

/-- A row of the kernel before its own one is set. -/
def kerq (s : St) (f j : Nat) : Rat := if j ∈ s.piv then - s.M (s.piv.idxOf j) f else 0
theorem kerq_v (s : St) (f j : Nat) : (if j = f then (1 : Rat) else kerq s f j) = kerv s f j := rfl

set_option maxRecDepth 100000 in
set_option maxHeartbeats 8000000 in
theorem ref_kernel (w : World) (v : Value) (m n : Nat) (M : Mat) (h : MatF w v m n M) (hm : m ≤ 256) (hn : n ≤ 1000) (b : Nat) (hb : 0 < b) (hs : TSz M m n b) (hsz : 5 ^ (m + 1) * b ≤ 10000000000) :
    Calls Tryz.prog 13 #[v, .int .i64 n] w (Ret w fun w' R => MatF w' R (frees (steps m M n).piv n).length n (fun i => kerv (steps m M n) ((frees (steps m M n).piv n).getD i 0))) := by
  have H := Hid.mk h
  have HS := Hid.mk hs
  have HSZ := Hid.mk (steps_size hb hs)
  have HI := Hid.mk (inv_steps m M n)
  obtain ⟨A0, c0, rfl, p1, p2, p3⟩ := id h
  clear h hs p1 p2 p3
  go_enter Tryz.func13, Tryz.ntmps13
  go_wp2_with fail
  refine (ref_reduce _ _ m n M H.out hm hn b hb HS.out hsz).mono ?_
  rintro e w3 ⟨⟨v3, rfl, R, P, rfl, hR, hP⟩, hx3⟩
  obtain ⟨A, pc, rfl, h1, h2, h3⟩ := id hP
  obtain ⟨B, rc, rfl, g1, g2, g3⟩ := id hR
  have HPR := Hid.mk hP
  have HR := Hid.mk hR
  have HX := Hid.mk hx3
  have hsz2 := HSZ.out n (Nat.le_refl _)
  obtain ⟨s, hs⟩ : ∃ s, s = steps m M n := ⟨_, rfl⟩
  have HI2 : Hid (Inv m M s n) := by rw [hs]; exact HI.out
  rw [← hs] at HPR HR hsz2 ⊢
  have HSX := Hid.mk hs
  have HTS := Hid.mk hsz2.1
  have hpm := hsz2.2.2
  obtain ⟨K, hK⟩ : ∃ K, K = 5 ^ s.piv.length * b := ⟨_, rfl⟩
  have hKle : K ≤ 10000000000 := by
    have h1 : 5 ^ s.piv.length ≤ 5 ^ (m + 1) := Nat.pow_le_pow_right (by omega) (by omega)
    have h2 := Nat.mul_le_mul_right b h1
    omega
  rw [← hK] at HTS
  clear hs hx3 hR hP h2 h3 h1 g1 g2 g3 HI hsz2 hK HSZ
  go_wp2_with fail
  go_loopw [7, 8] (fun t7 t8 wr => ∃ (f : Nat) (us : List Value), f ≤ n ∧ t8 = .int .i64 f ∧ OwnC IsSl wr w3.heap.size 57 1 t7 (frees s.piv f).length us ∧ us.length = (frees s.piv f).length ∧ (∀ i u, us[i]? = some u → SlF wr u n (kerv s ((frees s.piv f).getD i 0))) ∧ X w3 wr) (fun _ t _ => n - (intOf t).toNat)
  case atStart => exact ⟨0, [], Nat.zero_le _, rfl, OwnC.nil _ _ _ _ _, rfl, by simp, X.refl _⟩
  case round =>
    obtain ⟨f, us, hf, rfl, ho, hl, hu, hx⟩ := hrel
    have HO := Hid.mk ho
    have HU := Hid.mk hu
    have HX4 := Hid.mk hx
    clear ho hu hx
    by_cases hfn : f < n
    · have hfn' : (f : Int) < (n : Int) := by omega
      go_wp2_with fail
      by_cases hmem : f ∈ s.piv
      · refine (ref_at _ _ s.piv f (HPR.out.x HX4.out) (by omega)).mono ?_
        rintro e w5 ⟨⟨v5, rfl, rfl⟩, hx5⟩
        have hat : atv s.piv f = (s.piv.idxOf f : Nat) := by unfold atv; rw [if_pos hmem]
        rw [hat]
        have hge : (0 : Int) ≤ ((s.piv.idxOf f : Nat) : Int) := by omega
        obtain ⟨i0, hi0⟩ : ∃ i0, i0 = s.piv.idxOf f := ⟨_, rfl⟩
        rw [← hi0] at hge ⊢
        have hfe := frees_succ_in hmem
        replace HX4 := Hid.mk (HX4.out.trans hx5)
        replace HO := Hid.mk (HO.out.x hx5)
        replace HU := Hid.mk (fun i u hi => (HU.out i u hi).x hx5)
        rw [← hfe] at HO HU hl
        clear hx5 hmem hfe hat hi0
        go_wp2_with fail
        go_roundw
        case rel => exact ⟨f + 1, us, by omega, by go_num, HO.out, hl, HU.out, HX4.out⟩
        case measure => simp [intOf]; omega
      · refine (ref_at _ _ s.piv f (HPR.out.x HX4.out) (by omega)).mono ?_
        rintro e w5 ⟨⟨v5, rfl, rfl⟩, hx5⟩
        have hat : atv s.piv f = -1 := by unfold atv; rw [if_neg hmem]
        rw [hat]
        replace HX4 := Hid.mk (HX4.out.trans hx5)
        replace HO := Hid.mk (HO.out.x hx5)
        replace HU := Hid.mk (fun i u hi => (HU.out i u hi).x hx5)
        clear hx5 hat
        have HMEM := Hid.mk hmem
        clear hmem
        go_wp2_with (at_make; refine make_blkz _ rfl _ _ 57 rfl 69 (.agg #[.string ⟨#[]⟩, .string ⟨#[]⟩]) 2 32 Tryz.underlying57 info_F rfl .i64 .i64 _ _ n rfl rfl rfl rfl (by omega) (by omega) ?_; intro w6 cs hb1 hb2 hb3 hb4 hx6; have HF := Hid.mk (FFil.start (kerq s f) hb1 hb2); have HX6 := Hid.mk hx6; clear hb1 hb2 hb3 hb4 hx6)
        obtain ⟨g, hg⟩ : ∃ g, g = w5.heap.size := ⟨_, rfl⟩
        rw [← hg] at HF ⊢
        have HG := Hid.mk hg
        clear hg
        go_loopw [10] (fun t10 wr => ∃ k : Nat, k ≤ n ∧ t10 = .int .i64 k ∧ FFil wr g n k (kerq s f) ∧ X w5 wr) (fun t _ => n - (intOf t).toNat)
        case atStart => exact ⟨0, Nat.zero_le _, rfl, HF.out, HX6.out⟩
        case round =>
          clear HF HX6
          obtain ⟨k, hk, rfl, hF, hx⟩ := hrel
          have HF := Hid.mk hF
          have HX5 := Hid.mk hx
          clear hF hx
          by_cases hkn : k < n
          · have hkn' : (k : Int) < (n : Int) := by omega
            obtain ⟨v0, v1, c0, c1, f0, f1⟩ := HF.out.cells hkn
            have HF1 := Hid.mk ((HF.out.congr (e := fun t => if t = k then 0 else kerq s f t) (fun j hj => by
              have : j ≠ k := by omega
              simp [this])).put hkn (r := ⟨⟨#[48]⟩, ⟨#[49]⟩⟩) (by simpa using fzero))
            have HX6 := Hid.mk (HX5.out.put2at (g := g) (by rw [HG.out]; exact Nat.le_refl _) (k * 2) ⟨⟨#[48]⟩, ⟨#[49]⟩⟩)
            clear HF
            go_wp2_with fail
            refine (ref_at _ _ s.piv k (HPR.out.x (HX4.out.trans HX6.out)) (by omega)).mono ?_
            rintro e w7 ⟨⟨v7, rfl, rfl⟩, hx7⟩
            have HF2 := Hid.mk (HF1.out.x hx7)
            have HX7 := Hid.mk (HX6.out.trans hx7)
            clear HF1 HX6 hx7 c0 c1 f0 f1
            by_cases hmem : k ∈ s.piv
            · have hil := List.idxOf_lt_length_iff.2 hmem
              have hat : atv s.piv k = (s.piv.idxOf k : Nat) := by unfold atv; rw [if_pos hmem]
              have hq : kerq s f k = - s.M (s.piv.idxOf k) f := by unfold kerq; rw [if_pos hmem]
              obtain ⟨i, hi⟩ : ∃ i, i = s.piv.idxOf k := ⟨_, rfl⟩
              rw [← hi] at hil hat hq
              rw [hat]
              have HQ := Hid.mk hq
              have hge : (0 : Int) ≤ (i : Int) := by omega
              have him : i < m := by omega
              have hil' : (i : Int) < (s.piv.length : Int) := by omega
              obtain ⟨b1, o1, d1, b2, o2, a, rfl, c0, e0, e1, ha⟩ := (HR.out.x (HX4.out.trans HX7.out)).elem hil hfn
              have HA := Hid.mk ha
              clear hmem hat hq hi ha
              go_wp2_with fail
              refine (ref_fneg _ a (s.M i f) HA.out K (HTS.out i him f hfn) (by omega)).mono ?_
              rintro e w8 ⟨⟨v8, rfl, r, rfl, hr⟩, hx8⟩
              have F3 := HF2.out.x hx8
              obtain ⟨v0, v1, k0, k1, f0, f1⟩ := F3.cells hkn
              have HF3 := Hid.mk ((F3.upd (k := k) (by omega) hr).congr (e := kerq s f) (fun j hj => by
                by_cases e : j = k
                · simp [e, HQ.out]
                · simp [e]))
              have HX8 := Hid.mk ((HX7.out.trans hx8).put2at (g := g) (by rw [HG.out]; exact Nat.le_refl _) (k * 2) r)
              clear F3 hr hx8 c0 e0 e1
              go_wp2_with fail
              go_roundw
              case rel => exact ⟨k + 1, by omega, by go_num, HF3.out, HX8.out⟩
              case measure => simp [intOf]; omega
            · have hat : atv s.piv k = -1 := by unfold atv; rw [if_neg hmem]
              rw [hat]
              have HF3 := Hid.mk (HF2.out.congr (e := kerq s f) (fun j hj => by
                by_cases e : j = k
                · have : kerq s f k = 0 := by unfold kerq; rw [if_neg hmem]
                  simp [e, this]
                · simp [e]))
              clear hat hmem
              go_wp2_with fail
              go_roundw
              case rel => exact ⟨k + 1, by omega, by go_num, HF3.out, HX7.out⟩
              case measure => simp [intOf]; omega
          · obtain rfl : k = n := by omega
            have hkn' : ¬ (k : Int) < (k : Int) := by omega
            obtain ⟨v0, v1, c0, c1, f0, f1⟩ := HF.out.cells hfn
            have HF1 := Hid.mk ((HF.out.upd hfn fone).congr (e := kerv s f) (fun j hj => kerq_v s f j))
            have hx9 := HX5.out.put2at (g := g) (by rw [HG.out]; exact Nat.le_refl _) (f * 2) ⟨⟨#[49]⟩, ⟨#[49]⟩⟩
            have HRow : Hid (SlF (put2at wr g (f * 2) ⟨⟨#[49]⟩, ⟨#[49]⟩⟩) (.slice (some ⟨g, 0, none⟩) k k) k (kerv s f)) := ⟨_, k, rfl, Nat.le_refl _, by simp, HF1.out.row⟩
            have HO2 := Hid.mk (HO.out.x hx9)
            have HU2 := Hid.mk (fun i u hi => (HU.out i u hi).x hx9)
            have HX9 := Hid.mk (HX4.out.trans hx9)
            have hfl := frees_le s.piv f
            have hlb : ((frees s.piv f).length + 1) * 24 ≤ 140737488355328 := by omega
            obtain ⟨W, hW⟩ : ∃ W, W = (wr.setCell ⟨g, f * 2, none⟩ (.string ⟨#[49]⟩)).setCell ⟨g, f * 2 + 1, none⟩ (.string ⟨#[49]⟩) := ⟨_, rfl⟩
            have HRow3 : Hid (SlF W (.slice (some ⟨g, 0, none⟩) k k) k (kerv s f)) := by rw [hW]; exact HRow
            have HO3 : Hid (OwnC IsSl W w3.heap.size 57 1 u7 (frees s.piv f).length us) := by rw [hW]; exact HO2
            have HU3 : Hid (∀ i u, us[i]? = some u → SlF W u k (kerv s ((frees s.piv f).getD i 0))) := by rw [hW]; exact HU2
            have HX3 : Hid (X w3 W) := by rw [hW]; exact HX9
            clear hkn hk hx9 HF HRow HO2 HU2 HX9
            go_upto_region 16 with (fail)
            rw [← hW]
            clear hW
            go_wp2_with (at_builtin; refine append_oneC IsSl w3 _ rfl _ _ 26 rfl 57 (.slice none 0 0) 1 24 Tryz.underlying26 info_sF rfl (by omega) (fun u hu => ⟨none, 0, 0, by simpa [Value.cells] using hu⟩) _ _ _ rfl HO3.out _ _ _ rfl rfl (by simp [Value.oneCell']) (fun u hu => ⟨_, _, _, by simpa using hu⟩) (by omega) (by omega) HX3.out ?_; intro v9 w9 ho9 hx9 hk9; have HO9 := Hid.mk ho9; have HXa := Hid.mk hx9; have HU9 := Hid.mk (fun i u hi => (HU3.out i u hi).kApp HO3.out hk9); have HR9 := Hid.mk (HRow3.out.kApp HO3.out hk9); clear ho9 hx9 hk9)
            go_roundw
            case rel =>
              have hfe := frees_succ_out HMEM.out
              have hle : (frees s.piv (f + 1)).length = (frees s.piv f).length + 1 := by rw [hfe]; simp
              refine ⟨f + 1, us ++ [.slice (some ⟨g, 0, none⟩) k k], by omega, by go_num, by rw [hle]; exact HO9.out, by rw [hle]; simp [hl], fun t u ht => ?_, HXa.out⟩
              rw [hfe]
              by_cases e : t = us.length
              · rw [List.getElem?_append_right (by omega), e] at ht
                simp at ht
                subst ht
                have : (frees s.piv f ++ [f]).getD t 0 = f := by
                  rw [e, hl, List.getD_eq_getElem?_getD, List.getElem?_append_right (Nat.le_refl _)]
                  simp
                rw [this]; exact HR9.out
              · have hil2 : t < us.length := by
                  have := (List.getElem?_eq_some_iff.1 ht).1
                  simp at this
                  omega
                rw [List.getElem?_append_left hil2] at ht
                have : (frees s.piv f ++ [f]).getD t 0 = (frees s.piv f).getD t 0 := by
                  rw [List.getD_eq_getElem?_getD, List.getD_eq_getElem?_getD, List.getElem?_append_left (by omega)]
                rw [this]
                exact HU9.out t u ht
            case measure => simp [intOf]; omega
    · obtain rfl : f = n := by omega
      have HF := Hid.mk (SlM.own (S := SlF) (M := fun i => kerv s ((frees s.piv f).getD i 0)) (c := f) HO.out.1 hl HU.out)
      have HXF := Hid.mk (HX.out.trans HX4.out)
      have hfn' : ¬ (f : Int) < (f : Int) := by omega
      clear hfn hf
      go_wp2_with fail
      go_ret
      refine ⟨⟨_, rfl, ?_⟩, HXF.out⟩
      rw [← HSX.out]; exact HF.out
end Go.Proofs.YtdgeodnfacnnmaaGreatDoor

/- The law MatrixReduces: the walk. -/
set_option linter.unusedVariables false
set_option linter.unusedSimpArgs false
namespace Go.Proofs.YtdgeodnfacnnmaaGreatDoor
open Go.RowKit
open DDig DLin

theorem MatQ.none {w : World} {v : Value} {m c : Nat} {M N : Nat → Nat → Rat} (h : MatQ w v m c M) (h0 : m = 0) (d : Nat) : MatQ w v m d N := by
  subst h0
  obtain ⟨A, k, rfl, h1, h2, h3⟩ := h
  exact ⟨A, k, rfl, h1, h2, fun h => absurd h (by omega)⟩
theorem MatF.none' {w : World} {v : Value} {m c : Nat} {M N : Nat → Nat → Rat} (h : MatF w v m c M) (h0 : m = 0) (d : Nat) : MatF w v m d N := by
  subst h0
  obtain ⟨A, k, rfl, h1, h2, h3⟩ := h
  exact ⟨A, k, rfl, h1, h2, fun h => absurd h (by omega)⟩

/-- The sizes of a reduced table and of its kernel. -/
theorem steps_sz {M : Mat} {m c b : Nat} (hb : 0 < b) (h : TSz M m c b) (hm : 5 ^ m * b ≤ 1000000000) : TSz (steps m M c).M m c 1000000000 ∧ (∀ f, f < c → ∀ j, RSz (kerv (steps m M c) f j) 1000000000) ∧ (steps m M c).piv.length ≤ m := by
  obtain ⟨h1, h2, h3⟩ := steps_size hb h c (Nat.le_refl _)
  have h4 : 5 ^ (steps m M c).piv.length ≤ 5 ^ m := Nat.pow_le_pow_right (by omega) h3
  have h5 := Nat.mul_le_mul_right b h4
  have h6 : TSz (steps m M c).M m c 1000000000 := fun i hi j hj => (h1 i hi j hj).mono (by omega)
  refine ⟨h6, fun f hf j => ?_, h3⟩
  unfold kerv
  split
  · exact RSz.one (by omega)
  · split
    · next hj =>
      have := List.idxOf_lt_length_iff.2 hj
      exact (h6 _ (by omega) f hf).neg
    · exact RSz.zero (by omega)
theorem frees_lt {l : List Nat} {n i : Nat} (h : i < (frees l n).length) : (frees l n).getD i 0 < n := by
  have : (frees l n).getD i 0 ∈ frees l n := by
    rw [List.getD_eq_getElem?_getD, List.getElem?_eq_getElem h]
    exact List.getElem_mem h
  unfold frees at this
  rw [List.mem_filter, List.mem_range] at this
  exact this.1

set_option maxRecDepth 100000 in
set_option maxHeartbeats 8000000 in
theorem law_reduces (w : World) (C : Int) (A : Option Addr) (n0 c0 : Nat) (L : Nat → Nat) (N D : Nat → Nat → Int) (h : RowsR w A n0 L N D) (hC : 0 ≤ C ∧ C ≤ 255) (hn : n0 ≤ 9223372036854775807) (col : Int) (hg : Gl w) :
    Calls Tryz.prog 3 #[.agg #[.int .u8 C, .slice A n0 c0], .int .i64 col] w (Ret w fun _ v => v = .bool true) := by
  have H := Hid.mk h
  have HG := Hid.mk hg
  clear h hg
  go_enter Tryz.func3, Tryz.ntmps3
  go_upto_region 1 with (fail)
  obtain ⟨W, hW, hX, b0, hWs⟩ := setup1 w #[.int .u8 C, .slice A n0 c0] 24
  rw [hW]
  clear hW hWs
  have B0 := Hid.mk b0
  have HXW := Hid.mk hX
  clear b0 hX
  go_wp2_with fail
  refine (law_known _ (HG.out.x HXW.out)).mono ?_
  rintro e w1 ⟨⟨v1, rfl, rfl⟩, hx1⟩
  have HX := Hid.mk (HXW.out.trans hx1)
  have hb0 := B0.out.x hx1
  have k0 := hb0.cell (j := 0) rfl; have k1 := hb0.cell (j := 1) rfl
  clear hb0 hx1
  go_wp2_with fail
  refine (law_rows _ C A n0 c0 L N D (H.out.x HX.out) hC hn).mono ?_
  rintro e w2 ⟨⟨t, rfl, ht⟩, hx2⟩
  replace HX := Hid.mk (HX.out.trans hx2)
  obtain ⟨m, hm⟩ : ∃ m, m = min n0 5 := ⟨_, rfl⟩
  obtain ⟨c, hc⟩ : ∃ c, c = if m = 0 then 0 else (C % 7).toNat := ⟨_, rfl⟩
  have hm5 : m ≤ 5 := by omega
  have hc6 : c ≤ 6 := by rw [hc]; split <;> omega
  have hmc : m = 0 → c = 0 := fun h => by rw [hc, if_pos h]
  have hT : MatF w2 t m c (tabv L N D) := by
    rw [← hm] at ht
    by_cases h0 : m = 0
    · exact ht.none' h0 c
    · rw [hc, if_neg h0]; exact ht
  have HT := Hid.mk hT
  obtain ⟨M, hM⟩ : ∃ M, M = tabv L N D := ⟨_, rfl⟩
  have HS : Hid (TSz M m c 1) := by
    rw [hM]
    intro i hi j hj
    obtain ⟨b, o, -, g⟩ := H.out (by omega)
    obtain ⟨B, d, -, h1, -⟩ := g i (by omega)
    exact entv_size w h1 j
  rw [← hM] at HT
  have HMC := Hid.mk hmc
  clear ht hT hM hc hm k0 k1 hx2 HXW B0 hmc
  have hp5 : 5 ^ (m + 1) * 1 ≤ 15625 := by
    have : 5 ^ (m + 1) ≤ 5 ^ 6 := Nat.pow_le_pow_right (by omega) (by omega)
    omega
  have hp6 : 5 ^ m * 1 ≤ 15625 := by
    have : 5 ^ m ≤ 5 ^ 6 := Nat.pow_le_pow_right (by omega) (by omega)
    omega
  have HP5 := Hid.mk hp5
  have hSZ := steps_sz (by omega) HS.out (Nat.le_trans hp6 (by omega))
  have HSZ := Hid.mk hSZ
  have hpm := hSZ.2.2
  clear hp5 hp6 hSZ
  obtain ⟨t0, td, rfl, -, -, -⟩ := id HT.out
  -- Reduce
  go_wp2_with fail
  refine (law_own _ _ m c M HT.out (by omega) (by omega) 1 HS.out (by omega) (HG.out.x HX.out)).mono ?_
  rintro e w3 ⟨⟨v3, rfl, hv3⟩, hx3⟩
  replace HX := Hid.mk (HX.out.trans hx3)
  replace HT := Hid.mk (HT.out.x hx3)
  have HV := Hid.mk hv3
  clear hv3 hx3
  go_wp2_with fail
  refine (mat_reduce _ _ m c M HV.out (by omega) (by omega) HMC.out 1 (by omega) HS.out (Nat.le_trans HP5.out (by omega))).mono ?_
  rintro e w4 ⟨⟨v4, rfl, R, P, rfl, hR, hP⟩, hx4⟩
  replace HX := Hid.mk (HX.out.trans hx4)
  replace HT := Hid.mk (HT.out.x hx4)
  have HR := Hid.mk hR
  have HP := Hid.mk hP
  clear hR hP hx4 HV
  -- Rank
  go_wp2_with fail
  refine (law_own _ _ m c M HT.out (by omega) (by omega) 1 HS.out (by omega) (HG.out.x HX.out)).mono ?_
  rintro e w5 ⟨⟨v5, rfl, hv5⟩, hx5⟩
  replace HX := Hid.mk (HX.out.trans hx5)
  replace HT := Hid.mk (HT.out.x hx5)
  replace HR := Hid.mk (HR.out.x hx5)
  replace HP := Hid.mk (HP.out.x hx5)
  have HV := Hid.mk hv5
  clear hv5 hx5
  go_wp2_with fail
  refine (mat_rank _ _ m c M HV.out (by omega) (by omega) HMC.out 1 (by omega) HS.out (Nat.le_trans HP5.out (by omega))).mono ?_
  rintro e w6 ⟨⟨v6, rfl, rfl⟩, hx6⟩
  replace HX := Hid.mk (HX.out.trans hx6)
  replace HT := Hid.mk (HT.out.x hx6)
  replace HR := Hid.mk (HR.out.x hx6)
  replace HP := Hid.mk (HP.out.x hx6)
  clear hx6 HV
  -- the reference's Reduce
  go_wp2_with fail
  refine (ref_reduce _ _ m c M HT.out (by omega) (by omega) 1 (by omega) HS.out (Nat.le_trans HP5.out (by omega))).mono ?_
  rintro e w7 ⟨⟨v7, rfl, R', P', rfl, hR', hP'⟩, hx7⟩
  replace HX := Hid.mk (HX.out.trans hx7)
  replace HT := Hid.mk (HT.out.x hx7)
  replace HR := Hid.mk (HR.out.x hx7)
  replace HP := Hid.mk (HP.out.x hx7)
  have HR' := Hid.mk hR'
  have HP' := Hid.mk hP'
  clear hR' hP' hx7
  obtain ⟨s, hs⟩ : ∃ s, s = steps m M c := ⟨_, rfl⟩
  have hsM : (steps m M c).M = s.M := by rw [hs]
  have hsP : (steps m M c).piv = s.piv := by rw [hs]
  rw [hsP] at HP HP' HR HR' hpm ⊢
  rw [hsM] at HR HR'
  have HSX := Hid.mk hs
  clear hs hsM hsP
  obtain ⟨p, hp⟩ : ∃ p, p = s.piv.length := ⟨_, rfl⟩
  obtain ⟨PA, pc, rfl, hp1, hp2, hp3⟩ := id HP.out
  obtain ⟨PB, pd, rfl, hp4, hp5, hp6⟩ := id HP'.out
  obtain ⟨RA, rc, rfl, -, -, -⟩ := id HR.out
  obtain ⟨RB, rd, rfl, -, -, -⟩ := id HR'.out
  clear hp2 hp3 hp5 hp6
  have hnb : ((s.piv.length : Int) != (s.piv.length : Int)) = false := by simp
  have HTS : Hid (TSz s.M s.piv.length c 1000000000) := fun i hi j hj => by rw [HSX.out]; exact HSZ.out.1 i (by rw [HSX.out] at hi hpm; omega) j hj
  go_wp2_with fail
  refine (law_is _ _ _ s.piv.length c s.M HR.out HR'.out (by omega) (by omega) 1000000000 HTS.out (by omega) (HG.out.x HX.out)).mono ?_
  rintro e w8 ⟨⟨v8, rfl, rfl⟩, hx8⟩
  replace HX := Hid.mk (HX.out.trans hx8)
  replace HT := Hid.mk (HT.out.x hx8)
  replace HP := Hid.mk (HP.out.x hx8)
  replace HP' := Hid.mk (HP'.out.x hx8)
  clear hx8 HR HR' hp
  go_wp2_with fail
  go_loopw [13] (fun t13 wr => ∃ i : Nat, i ≤ s.piv.length ∧ t13 = .int .i64 i ∧ X w8 wr) (fun t _ => s.piv.length - (intOf t).toNat)
  case atStart => exact ⟨0, Nat.zero_le _, rfl, X.refl _⟩
  case round =>
    obtain ⟨i, hi, rfl, hx⟩ := hrel
    have HXo := Hid.mk hx
    clear hx
    by_cases hil : i < s.piv.length
    · have hil' : (i : Int) < (s.piv.length : Int) := by omega
      obtain ⟨b1, o1, rfl, ca⟩ := (HP.out.x HXo.out).cell hil
      obtain ⟨b2, o2, rfl, cb⟩ := (HP'.out.x HXo.out).cell hil
      obtain ⟨q, hq⟩ : ∃ q, q = s.piv.getD i 0 := ⟨_, rfl⟩
      rw [← hq] at ca cb
      have hqq : ((q : Int) != (q : Int)) = false := by simp
      clear hq
      go_wp2_with fail
      go_region
      have HX2 := Hid.mk HXo.out.drew
      clear ca cb
      go_wp2_with fail
      go_roundw
      case rel => exact ⟨i + 1, by omega, by go_num, HX2.out⟩
      case measure => simp [intOf]; omega
    · have hil' : ¬ (i : Int) < (s.piv.length : Int) := by omega
      replace HX := Hid.mk (HX.out.trans HXo.out)
      replace HT := Hid.mk (HT.out.x HXo.out)
      clear HXo HP HP' hil hi
      go_wp2_with fail
      refine (law_own _ _ m c M HT.out (by omega) (by omega) 1 HS.out (by omega) (HG.out.x HX.out)).mono ?_
      rintro e w9 ⟨⟨v9, rfl, hv9⟩, hx9⟩
      replace HX := Hid.mk (HX.out.trans hx9)
      replace HT := Hid.mk (HT.out.x hx9)
      have HV := Hid.mk hv9
      clear hv9 hx9
      go_wp2_with fail
      refine (ref_columns _ _ m c M HT.out (by omega) c (by have := HMC.out; split <;> omega)).mono ?_
      rintro e w10 ⟨⟨v10, rfl, rfl⟩, hx10⟩
      replace HX := Hid.mk (HX.out.trans hx10)
      replace HT := Hid.mk (HT.out.x hx10)
      replace HV := Hid.mk (HV.out.x hx10)
      clear hx10
      go_wp2_with fail
      refine (mat_kernel _ _ m c M HV.out (by omega) (by omega) 1 (by omega) HS.out (Nat.le_trans HP5.out (by omega))).mono ?_
      rintro e w11 ⟨⟨v11, rfl, K, rfl, hK⟩, hx11⟩
      replace HX := Hid.mk (HX.out.trans hx11)
      replace HT := Hid.mk (HT.out.x hx11)
      have HK := Hid.mk hK
      clear hx11 hK HV
      go_wp2_with fail
      refine (ref_columns _ _ m c M HT.out (by omega) c (by have := HMC.out; split <;> omega)).mono ?_
      rintro e w12 ⟨⟨v12, rfl, rfl⟩, hx12⟩
      replace HX := Hid.mk (HX.out.trans hx12)
      replace HT := Hid.mk (HT.out.x hx12)
      replace HK := Hid.mk (HK.out.x hx12)
      clear hx12
      go_wp2_with fail
      refine (ref_kernel _ _ m c M HT.out (by omega) (by omega) 1 (by omega) HS.out (Nat.le_trans HP5.out (by omega))).mono ?_
      rintro e w13 ⟨⟨v13, rfl, hK'⟩, hx13⟩
      replace HX := Hid.mk (HX.out.trans hx13)
      replace HT := Hid.mk (HT.out.x hx13)
      replace HK := Hid.mk (HK.out.x hx13)
      have HK' := Hid.mk hK'
      clear hx13 hK'
      obtain ⟨Z, hZ⟩ : ∃ Z : Nat → Nat → Rat, Z = fun i => kerv (steps m M c) ((frees (steps m M c).piv c).getD i 0) := ⟨_, rfl⟩
      obtain ⟨z, hz⟩ : ∃ z, z = (frees (steps m M c).piv c).length := ⟨_, rfl⟩
      have hzc : z ≤ c := by rw [hz]; exact frees_le _ _
      rw [← hZ, ← hz] at HK HK'
      have HTZ : Hid (TSz Z z c 1000000000) := by
        rw [hZ, hz]
        exact fun i hi j hj => HSZ.out.2.1 _ (frees_lt hi) j
      clear hZ hz
      obtain ⟨KA, kc, rfl, -, -, -⟩ := id HK.out
      obtain ⟨KB, kd, rfl, -, -, -⟩ := id HK'.out
      go_wp2_with fail
      refine (law_is _ _ _ z c Z HK.out HK'.out (by omega) (by omega) 1000000000 HTZ.out (by omega) (HG.out.x HX.out)).mono ?_
      rintro e w14 ⟨⟨v14, rfl, rfl⟩, hx14⟩
      replace HX := Hid.mk (HX.out.trans hx14)
      replace HT := Hid.mk (HT.out.x hx14)
      clear hx14 HK HK' HTZ hzc
      go_wp2_with fail
      refine (law_own _ _ m c M HT.out (by omega) (by omega) 1 HS.out (by omega) (HG.out.x HX.out)).mono ?_
      rintro e w15 ⟨⟨v15, rfl, hv15⟩, hx15⟩
      replace HX := Hid.mk (HX.out.trans hx15)
      replace HT := Hid.mk (HT.out.x hx15)
      have HV := Hid.mk hv15
      clear hv15 hx15
      by_cases h1 : 0 < m ∧ col ≠ c
      · have hm0 : (0 : Int) < (m : Int) := by omega
        have hcb : (col != (c : Int)) = true := by rw [bne_iff_ne]; exact h1.2
        go_wp2_with fail
        refine (mat_kernel_size _ _ m c M HV.out (by omega) (by omega) h1.1 col h1.2).mono ?_
        rintro e w16 ⟨⟨v16, rfl, rfl⟩, hx16⟩
        replace HX := Hid.mk (HX.out.trans hx16)
        replace HT := Hid.mk (HT.out.x hx16)
        clear hx16 HV h1
        go_wp2_with fail
        refine (ref_columns _ _ m c M HT.out (by omega) c (by have := HMC.out; split <;> omega)).mono ?_
        rintro e w17 ⟨⟨v17, rfl, rfl⟩, hx17⟩
        replace HX := Hid.mk (HX.out.trans hx17)
        clear hx17
        go_wp2_with fail
        go_ret
        exact ⟨⟨_, rfl, rfl⟩, HX.out⟩
      · by_cases h2 : m = 0 ∧ (col < 0 ∨ 96 < col)
        · obtain ⟨h3, h4⟩ := h2
          have hm0 : ¬ (0 : Int) < (m : Int) := by omega
          go_wp2_with fail
          refine (mat_kernel_range _ _ c M (by rw [h3] at HV; exact HV.out) col h4).mono ?_
          rintro e w16 ⟨⟨v16, rfl, rfl⟩, hx16⟩
          replace HX := Hid.mk (HX.out.trans hx16)
          clear hx16 HV h1
          rcases h4 with h4 | h4
          · clear h3
            go_wp2_with fail
            go_ret
            exact ⟨⟨_, rfl, rfl⟩, HX.out⟩
          · have h5 : ¬ col < 0 := by omega
            clear h3
            go_wp2_with fail
            go_ret
            exact ⟨⟨_, rfl, rfl⟩, HX.out⟩
        · obtain ⟨d, hd⟩ : ∃ d : Nat, col = d := ⟨col.toNat, by omega⟩
          have hd96 : d ≤ 96 := by omega
          have hd0 : ¬ (d : Int) < 0 := by omega
          have hd1 : ¬ (96 : Int) < (d : Int) := by omega
          have hdc : m = 0 ∨ d = c := by omega
          have HVd : Hid (MatQ w15 v15 m d M) := by
            rcases hdc with h | h
            · exact HV.out.none h d
            · rw [h]; exact HV.out
          have HTd : Hid (MatF w15 (.slice t0 m td) m d M) := by
            rcases hdc with h | h
            · exact HT.out.none' h d
            · rw [h]; exact HT.out
          have HSd : Hid (TSz M m d 1) := by
            rcases hdc with h | h
            · intro i hi; omega
            · rw [h]; exact HS.out
          have HSZd := Hid.mk (steps_sz (M := M) (m := m) (c := d) (by omega) HSd.out (by
            have : 5 ^ m ≤ 5 ^ 5 := Nat.pow_le_pow_right (by omega) (by omega)
            omega))
          have HDC := Hid.mk hdc
          subst hd
          clear HV h1 h2 hdc
          go_wp2_with fail
          refine (mat_kernel _ _ m d M HVd.out (by omega) (by omega) 1 (by omega) HSd.out (Nat.le_trans HP5.out (by omega))).mono ?_
          rintro e w16 ⟨⟨v16, rfl, K, rfl, hK⟩, hx16⟩
          replace HX := Hid.mk (HX.out.trans hx16)
          replace HT := Hid.mk (HT.out.x hx16)
          replace HTd := Hid.mk (HTd.out.x hx16)
          have HK := Hid.mk hK
          clear hx16 hK HVd
          go_upto_region 18 with (fail)
          go_cut [104] (fun t wc => t = .bool false ∧ X w16 wc)
          case first =>
            by_cases h0 : 0 < m
            · have hm0 : (0 : Int) < (m : Int) := by omega
              have hcb : ((d : Int) != (c : Int)) = false := by
                rcases HDC.out with h | h
                · omega
                · rw [h]; simp
              clear h0
              go_wp2_with fail
              refine (ref_columns _ _ m c M HT.out (by omega) c (by have := HMC.out; split <;> omega)).mono ?_
              rintro e w17 ⟨⟨v17, rfl, rfl⟩, hx17⟩
              have HX2 := Hid.mk hx17
              clear hx17
              go_wp2_with fail
              go_meet
              exact ⟨rfl, HX2.out⟩
            · have hm0 : ¬ (0 : Int) < (m : Int) := by omega
              clear h0
              go_wp2_with fail
              go_meet
              exact ⟨rfl, X.refl _⟩
          case rest =>
            obtain ⟨rfl, hx⟩ := hcut
            replace HX := Hid.mk (HX.out.trans hx)
            replace HTd := Hid.mk (HTd.out.x hx)
            replace HK := Hid.mk (HK.out.x hx)
            clear hx
            go_wp2_with fail
            refine (ref_kernel _ _ m d M HTd.out (by omega) (by omega) 1 (by omega) HSd.out (Nat.le_trans HP5.out (by omega))).mono ?_
            rintro e w13' ⟨⟨v13', rfl, hK'⟩, hx13⟩
            replace HX := Hid.mk (HX.out.trans hx13)
            replace HK := Hid.mk (HK.out.x hx13)
            have HK' := Hid.mk hK'
            clear hx13 hK'
            obtain ⟨Z, hZ⟩ : ∃ Z : Nat → Nat → Rat, Z = fun i => kerv (steps m M d) ((frees (steps m M d).piv d).getD i 0) := ⟨_, rfl⟩
            obtain ⟨z, hz⟩ : ∃ z, z = (frees (steps m M d).piv d).length := ⟨_, rfl⟩
            have hzc : z ≤ d := by rw [hz]; exact frees_le _ _
            rw [← hZ, ← hz] at HK HK'
            have HTZ : Hid (TSz Z z d 1000000000) := by
              rw [hZ, hz]
              exact fun i hi j hj => HSZd.out.2.1 _ (frees_lt hi) j
            clear hZ hz
            obtain ⟨KA, kc, rfl, -, -, -⟩ := id HK.out
            obtain ⟨KB, kd, rfl, -, -, -⟩ := id HK'.out
            go_wp2_with fail
            refine (law_is _ _ _ z d Z HK.out HK'.out (by omega) (by omega) 1000000000 HTZ.out (by omega) (HG.out.x HX.out)).mono ?_
            rintro e w14' ⟨⟨v14', rfl, rfl⟩, hx14⟩
            replace HX := Hid.mk (HX.out.trans hx14)
            clear hx14 HK HK' HTZ hzc
            go_wp2_with fail
            go_ret
            exact ⟨⟨_, rfl, rfl⟩, HX.out⟩
end Go.Proofs.YtdgeodnfacnnmaaGreatDoor

/- For every table and every number of columns MatrixReduces returns true and leaves its arguments as they read; no condition. -/
set_option linter.unusedVariables false
set_option linter.unusedSimpArgs false
namespace Go.Proofs.YtdgeodnfacnnmaaGreatDoor
open Go.ChangeShapes Go.WideShapes Go.ChangeAt Go.RowKit Go.Deep Go.Joins

theorem pow_tab {W : World} (h : laidMetH Tryz.prog [("internal/strconv.uint64pow10", Rows.laid_internal_strconv_uint64pow10)] W) : Tab W :=
  Lib.tabIs_of_head (rest := []) gPow (by kernel_rfl) Tryz.underlying184 Tryz.underlying122 (by kernel_rfl) (by kernel_rfl) (by rw [MakeChecks.laidMetH_plain _ _ _ (by kernel_rfl)] at h; exact h)

theorem reduces_reads (os : Os) {H : Type} (enc : TypeId × Value → H) : ∃ places, DataW.whole enc Tryz.prog ((World.laidAll Tryz.prog os Rows.matrixReducesRow.laid).forCall (fun _ _ => 0) ⟨#[], #[.agg #[.int .u8 0, .slice none 0 0], .int .i64 0], []⟩).memory Tryz.f3.params.toList Rows.matrixReducesSpec.vars false #[Value.agg #[.int .u8 0, .slice none 0 0], .int .i64 0].toList 8 = some ([.agg [.lit (.int .u8 0), .nil], .lit (.int .i64 0)], [], places) :=
  ⟨[], by kernel_rfl⟩

set_option maxRecDepth 100000 in
theorem reduces_lifted (os : Os) (started : os.Started) (H : Type) (enc : TypeId × Value → H) (F : Stop.Interp) :
    ReturnsInHanded {} Tryz.checked os 3 .any ((OpenSpec.ofChange Rows.matrixReducesSpec).preRow enc Tryz.prog Tryz.f3 Rows.matrixReducesRow.domain false Rows.matrixReducesRow.laid) (((OpenSpec.ofChange Rows.matrixReducesSpec).at F).post enc Tryz.prog Tryz.f3 false true false false) := by
  obtain ⟨places, hx⟩ := reduces_reads os enc
  refine returnsInHanded_of_row (C := Tryz.checked) (s := OpenSpec.ofChange Rows.matrixReducesSpec) own started (by kernel_rfl) Tryz.func3
    (witness_row_atRef (enc := enc) (C := Tryz.checked) false (World.laidAll Tryz.prog os Rows.matrixReducesRow.laid) #[.agg #[.int .u8 0, .slice none 0 0], .int .i64 0] (World.laidAll_os _ _ _) (by kernel_rfl) (by kernel_rfl) (by kernel_rfl)
      (OpenSpec.preRow_of_cond 8 hx (by kernel_rfl) (fun k hk => by cases hk) (by kernel_rfl) (by rw [MakeChecks.laidMetH_plain _ _ _ (by kernel_rfl)]; exact laidMet_laidAll _ (by kernel_rfl) (by kernel_rfl)))) ?_
  intro W base args ds gs before hval0 hW _ _ _ hL hsh _
  have hval : ∀ (j : Nat) t v, Tryz.f3.params[j]? = some t → args[j]? = some v → Value.okWide Tryz.prog W .any base t v := hval0
  have hW' := hW
  obtain ⟨p, q, hA0, hV, rfl, hfz, hnd⟩ := hW
  have hA : DataW.TrodAll enc Tryz.prog W 0 (fun _ => true) true Tryz.f3.params.toList args.toList ds p := hA0
  rw [Tryz.params3] at hA hval
  obtain ⟨v0, v1, d0, d1, p0, p1, rfl, rfl, rfl, h0, h1⟩ := trodAll_two hA
  obtain ⟨rfl, rfl⟩ := trodVars_none hV
  obtain ⟨C, A, n, c, L, N, D, rfl, hC, hn, hR⟩ := open_table (hval 0 24 v0 rfl rfl) h0
  obtain ⟨z, rfl, rfl, rfl, wz⟩ := open_int Tryz.underlying3 (hval 1 3 v1 rfl rfl) h1
  clear hA0 hval0
  simp only [List.append_nil] at hW'
  have hlt : ∀ x ∈ p0, x.block < W.heap.size := fun x hx => by simpa using hW'.lt x hx
  have hL1 := laidMetH.filter (fun x => x.1 == "internal/strconv.uint64pow10") hL
  rw [show (Rows.matrixReducesRow.laid.filter fun x => x.1 == "internal/strconv.uint64pow10") = [("internal/strconv.uint64pow10", Rows.laid_internal_strconv_uint64pow10)] by kernel_rfl] at hL1
  refine (law_reduces W C A n c L N D hR hC hn z ⟨pow_tab hL1, max_shape hsh⟩).mono ?_
  rintro e W' ⟨⟨v, rfl, rfl⟩, hb⟩
  have ha : DataW.TrodAll enc Tryz.prog W' 0 (fun b => decide (b < W.heap.size)) true [24, 3] [.agg #[.int .u8 C, .slice A n c], .int .i64 z] [d0, .lit (.int .i64 z)] (p0 ++ []) := trodAll_mk2 (Below.trod laidOut (by kernel_rfl) (of_decide_eq_true (by kernel_rfl)) h0 hb hlt) (shut_int Tryz.underlying3 wz)
  rw [List.append_nil] at ha
  exact ⟨_, rfl, _, _, _, [], p0, [], hW', trodAll_mk1 (shut_bool Tryz.underlying4 _), ha, rfl, hb.frame _, fun h => by cases h⟩

theorem reduces_said : Rows.MatrixReducesSaid :=
  OpenClaim.holds_of_cond 3 Tryz.f3 rfl rfl rfl rfl rfl rfl rfl ⟨rfl, rfl, rfl, rfl, rfl⟩ rfl rfl rfl rfl rfl (by kernel_rfl) Tryz.func3 (by kernel_rfl)
    (of_decide_eq_true (by kernel_rfl)) (by unfold Func.isWrapper; first | (rw [if_pos (by decide +kernel)]; kernel_rfl) | (rw [if_neg (by decide +kernel)]; exact ⟨rfl, rfl⟩))
    (fun os started H enc _ F => by rw [OpenClaim.pre_eq_preRow]; exact reduces_lifted os started H enc F)

theorem reduces_plain (f : FuncId) (fn : Func) (hf : Tryz.pinned.checked.prog.funcNamed "dowel/dowellaw05.MatrixReduces" = some f) (hfn : Tryz.pinned.checked.prog.funcs[f]? = some fn) :
    true = Tryz.pinned.checked.prog.looks [] ∧ ∀ (j : Nat) t, fn.params[j]? = some t → Tryz.pinned.checked.prog.wantsStandIn t = false := by
  obtain rfl : f = 3 := Option.some.inj ((show Tryz.prog.funcNamed "dowel/dowellaw05.MatrixReduces" = some 3 by kernel_rfl).symm.trans hf) |>.symm
  obtain rfl : fn = Tryz.f3 := (Option.some.inj (Tryz.func3.symm.trans hfn)).symm
  refine ⟨by kernel_rfl, fun j t ht => ?_⟩
  rw [Tryz.params3] at ht
  have hm : t ∈ [24, 3] := by simpa using Array.mem_of_getElem? ht
  have hall : ([24, 3].all fun u => !Tryz.prog.wantsStandIn u) = true := by kernel_rfl
  exact (show Tryz.prog.wantsStandIn t = false by simpa using List.all_eq_true.1 hall t hm)

theorem matrixReduces_card : Rows.MatrixReducesCardSaid :=
  Claim7.holds_tied_plain_at .later [] _ _ _ _ reduces_said (fun _ h => by cases h) (by kernel_rfl) (fun _ h => by cases h) matrixReduces_row_tie rfl ⟨rfl, rfl⟩ (by kernel_rfl) rfl reduces_plain (by kernel_rfl)
#print axioms matrixReduces_card
end Go.Proofs.YtdgeodnfacnnmaaGreatDoor
