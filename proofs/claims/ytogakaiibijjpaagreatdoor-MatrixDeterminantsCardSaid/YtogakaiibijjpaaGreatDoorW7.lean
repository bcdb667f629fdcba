/- Lemmas for the proof, part 7: F3, F0, F4, K1, N1, N2, N3, N4, N5, N6. -/
import Derived.Test.YtogakaiibijjpaaGreatDoorW6
import Derived.Laws.AppendOwnNone
import Derived.Shelf.Strings.SlTrimAscii
import Derived.Laws.RangeString
/- The reference's Reduce. -/
set_option linter.unusedVariables false
set_option linter.unusedSimpArgs false
namespace Go.Proofs.YtogakaiibijjpaaGreatDoor
open Go.RowKit
open DDig DLin

set_option maxRecDepth 100000 in
set_option maxHeartbeats 8000000 in
theorem ref_reduce1 (w : World) (v : Value) (m c : Nat) (M : Mat) (h : MatF w v m c M) (hm : m ≤ 256) (hc : c ≤ 1000) (hc0 : 0 < c) (hm0 : 0 < m) (b : Nat) (hb : 0 < b) (hs : TSz M m c b) (hsz : 5 ^ (m + 1) * b ≤ 10000000000) :
    Calls Tryz.prog 17 #[v] w (Ret w fun w' v' => ∃ R P, v' = .tuple #[R, P] ∧ MatF w' R (steps m M c).piv.length c (steps m M c).M ∧ PivR w' P (steps m M c).piv) := by
  have H := Hid.mk h
  have HSZ := Hid.mk (steps_size hb hs)
  obtain ⟨A0, d0, rfl, p1, p2, p3⟩ := id h
  have HA := Hid.mk p3
  clear h hs p1 p2 p3
  go_enter Tryz.func17, Tryz.ntmps17
  go_wp2_with fail
  go_loopw [4, 5] (fun t4 t5 wr => ∃ (i : Nat) (us : List Value), i ≤ m ∧ t5 = .int .i64 i ∧ OwnC IsSl wr w.heap.size 51 1 t4 i us ∧ RowsO wr w.heap.size us i c M ∧ X w wr) (fun _ t _ => m - (intOf t).toNat)
  case atStart => exact ⟨0, [], Nat.zero_le _, rfl, OwnC.nil _ _ _ _ _, RowsO.nil _ _ _ _, X.refl _⟩
  case round =>
    obtain ⟨i, us, hi, rfl, ho, hr, hx⟩ := hrel
    have HO := Hid.mk ho
    have HR := Hid.mk hr
    have HX := Hid.mk hx
    clear ho hr hx
    by_cases him : i < m
    · have him' : (i : Int) < (m : Int) := by omega
      obtain ⟨b0, o0, rfl, gg⟩ := HA.out (by omega)
      obtain ⟨u, e0, hs⟩ := gg i him
      obtain ⟨B, d, rfl, q1, q2, q3⟩ := hs
      obtain ⟨b1, o1, rfl, -⟩ := id q3 (by omega)
      obtain ⟨fs, hl, hf, hcl⟩ := q3.list
      have hcl2 : Hid (∀ j u, (fcs fs)[j]? = some u → w.cell? ((⟨b1, o1, none⟩ : Addr).add j) = some u) := by
        intro j u hu
        rw [add_off]
        exact hcl b1 o1 rfl j u hu
      have hql : (fcs fs).length = c * 2 := by rw [fcs, flat_len fvc 2 (fun _ => rfl), hl]
      have e0' : (wr.alloc (.cells #[] 84)).cell? ⟨b0, o0 + i, none⟩ = some (.slice (some ⟨b1, o1, none⟩) c d) := (HX.out.alloc _).cell e0
      have HF := Hid.mk hf
      clear gg q1 q2 q3 hcl e0 hf
      have hlt : Hid (∀ (k : Nat) (v : Value), us[k]? = some v → ∀ (ad : Addr) (n d : Nat), v = Value.slice (some ad) n d → ad.block < wr.heap.size) := by
        intro k v hk ad n d e
        obtain ⟨h1, bs, caps, h2, h3⟩ := HR.out
        have hkl := (List.getElem?_eq_some_iff.1 hk).1
        obtain ⟨g1, g2, g3, cs, g4, g5⟩ := h2 k (by omega)
        rw [hk, e] at g1
        injection g1 with g1
        injection g1 with g1
        injection g1 with g1
        rw [g1]; exact g4.lt
      go_wp2_with (first
        | (at_builtin; refine append_own _ rfl _ _ 51 rfl wr.heap.size 84 (.agg #[.string ⟨#[]⟩, .string ⟨#[]⟩]) 2 32 Tryz.underlying51 info_F rfl (by omega) (.slice (some ⟨wr.heap.size, 0, none⟩) 0 0) 0 [] rfl (World.ownsRow_made wr #[] 0 (Nat.le_refl _) (by simp) rfl) ⟨b1, o1, none⟩ c d (fcs fs) rfl hql (fun j u hu => by exact ((HX.out).alloc _).cell (hcl2.out j u hu)) (fcs_one fs) (by omega) (by omega) (by simp) ?_; intro v1 w1 ho1 hg1; have HO1 := Hid.mk ho1; have HX1 := Hid.mk (((X.refl wr).alloc _).grown hg1 (fun k hk => by injection hk with hk; subst hk; exact Nat.le_refl _)); clear hg1; obtain ⟨b2, cap2, sp2, rfl, hb2, hb2l, hcap2, hB2, -⟩ := (own_parts ho1).resolve_left (fun h => by have := h.2; omega); have HB2 := Hid.mk hB2; have HL2 := Hid.mk hb2; have HOx := Hid.mk (HO.out.x HX1.out); have HXx := Hid.mk (HX.out.trans HX1.out); clear ho1 hB2 hb2)
        | (at_builtin; refine append_oneC IsSl w w1 rfl (.tmp 21) (.tmp 28) 26 rfl 51 (.slice none 0 0) 1 24 Tryz.underlying26 info_sF rfl (by omega) (fun u hu => ⟨none, 0, 0, by simpa [Value.cells] using hu⟩) u4 i us rfl HOx.out _ _ _ rfl rfl (by simp [Value.oneCell']) (fun u hu => ⟨_, _, _, by simpa using hu⟩) (by omega) (by omega) HXx.out ?_; intro v2 w2 ho2 hx2 hk2; have HO2 := Hid.mk ho2; have HX2 := Hid.mk hx2; have HK2 := Hid.mk hk2; clear ho2 hx2 hk2))
      go_roundw
      case rel =>
        refine ⟨i + 1, us ++ [.slice (some ⟨b2, 0, none⟩) c cap2], by omega, by go_num, HO2.out, ?_, HX2.out⟩
        have h1 : RowsO w1 w.heap.size us i c M := HR.out.x HX1.out
        have h2 : RowsO w1 w.heap.size (us ++ [.slice (some ⟨b2, 0, none⟩) c cap2]) (i + 1) c M := by
          exact h1.snoc HB2.out (by rw [List.nil_append]; exact FCs.list hl HF.out) (by omega) HX.out.size HL2.out hlt.out
        refine h2.heap fun b3 cs3 hb3 => ?_
        have hb1 := (HO.out.x HX1.out).type hb3 (by decide)
        exact HK2.out b3 hb3.lt hb1
      case measure => simp [intOf]; omega
    · have hmi : m = i := by omega
      subst hmi
      clear hi him
      have hO := HO.out
      have hR := HR.out
      have HXa := Hid.mk HX.out
      · obtain ⟨g, cap, sp, rfl, hgb, hgl, hmc, hB, -⟩ := (own_parts hO.1).resolve_left (fun h => by have := h.2; omega)
        have HT : Hid (TabR wr w.heap.size wr.heap.size g m c (steps m M 0).M) := ⟨hgb, us, sp, hB, hR, hR.low⟩
        have HP : Hid (OwnC IsI64 wr w.heap.size 3 1 (.slice none 0 0) (steps m M 0).piv.length (pivs (steps m M 0).piv)) := OwnC.nil _ _ _ _ _
        have hml : us.length = m := hR.1
        clear hO hR hgl hB HO HR hml
        go_wp2_with fail
        go_loopw [6, 7] (fun t6 t7 wr => ∃ k : Nat, t7 = .int .i64 k ∧ k ≤ c ∧ TabR wr w.heap.size wr.heap.size g m c (steps m M k).M ∧ OwnC IsI64 wr w.heap.size 3 1 t6 (steps m M k).piv.length (pivs (steps m M k).piv) ∧ X w wr) (fun _ t _ => c - (intOf t).toNat)
        case atStart => exact ⟨0, rfl, Nat.zero_le _, HT.out, HP.out, HXa.out⟩
        case round =>
          clear HT HP HXa HX
          obtain ⟨k, rfl, hkc, hT, hP, hx⟩ := hrel
          obtain ⟨top, htop⟩ : ∃ top, top = wr.heap.size := ⟨_, rfl⟩
          rw [← htop] at hT
          have HTOP : Hid (top ≤ wr.heap.size) := Nat.le_of_eq htop
          clear htop
          have HT := Hid.mk hT
          have HP := Hid.mk hP
          have HX := Hid.mk hx
          clear hT hP hx
          obtain ⟨hS1, hS2, hS3⟩ := HSZ.out k (by omega)
          have HS1 := Hid.mk hS1
          obtain ⟨s, hs⟩ : ∃ s, s = steps m M k := ⟨_, rfl⟩
          rw [← hs] at hS3 HS1 HT HP
          have HS := Hid.mk hs
          clear hs hS1 hS2
          obtain ⟨PA, pc, rfl, hpc⟩ : ∃ A cc, u6 = .slice A s.piv.length cc ∧ s.piv.length ≤ cc := by
            rcases own_parts HP.out.1 with ⟨e, e2⟩ | ⟨g', cap', sp', e, -, -, e2, -, -⟩
            · rw [e2]; exact ⟨none, 0, e, by omega⟩
            · exact ⟨_, _, e, e2⟩
          by_cases hk : k < c
          · have hk1 : (k : Int) < (c : Int) := by omega
            go_wp2_with fail
            refine (ref_columns _ _ m c M (H.out.x HX.out) (by omega) c (by rw [if_neg (by omega)])).mono ?_
            rintro e w1 ⟨⟨v1, rfl, rfl⟩, hx1⟩
            replace HT := Hid.mk (HT.out.x hx1)
            replace HP := Hid.mk (HP.out.x hx1)
            replace HX := Hid.mk (HX.out.trans hx1)
            replace HTOP := Hid.mk (Nat.le_trans HTOP.out hx1.size)
            clear hx1
            go_wp2_with fail
            go_loopw [9] (fun t9 wr => ∃ i : Nat, s.piv.length ≤ i ∧ i ≤ m ∧ t9 = .int .i64 i ∧ (∀ t, s.piv.length ≤ t → t < i → s.M t k = 0) ∧ X w1 wr) (fun t _ => m - (intOf t).toNat)
            case atStart => exact ⟨s.piv.length, Nat.le_refl _, by omega, rfl, fun t h1 h2 => by omega, X.refl _⟩
            case round =>
              obtain ⟨i, hri, him, rfl, hzs, hx⟩ := hrel
              replace HT := Hid.mk (HT.out.x hx)
              replace HP := Hid.mk (HP.out.x hx)
              have HXo := Hid.mk hx
              have HZS := Hid.mk hzs
              clear hx hzs
              by_cases hi : i < m
              · have hi' : (i : Int) < (m : Int) := by omega
                obtain ⟨b1, cap1, cs, e0, -, -, -, hb1, hf1⟩ := HT.out.row hi
                obtain ⟨a, a0, a1, ha⟩ := hf1 k hk
                have e1 := hb1.cell a0
                have e2 := hb1.cell a1
                have HA1 := Hid.mk ha
                clear hb1 hf1 a0 a1 ha
                by_cases hz : s.M i k = 0
                · go_wp2_with fail
                  refine (ref_zero _ a (s.M i k) true HA1.out (by rw [decide_eq_true_eq]; exact hz)).mono ?_
                  rintro e w4 ⟨⟨v4, rfl, rfl⟩, hx4⟩
                  have HX4 := Hid.mk (HXo.out.trans hx4)
                  have HZ2 : Hid (∀ t, s.piv.length ≤ t → t < i + 1 → s.M t k = 0) := fun t h1 h2 => by
                    by_cases e : t = i
                    · rw [e]; exact hz
                    · exact HZS.out t h1 (by omega)
                  clear e0 e1 e2 hx4 hz
                  go_wp2_with fail
                  go_roundw
                  case rel => exact ⟨i + 1, by omega, by omega, by go_num, HZ2.out, HX4.out⟩
                  case measure => simp [intOf]; omega
                · go_wp2_with fail
                  refine (ref_zero _ a (s.M i k) false HA1.out (by rw [decide_eq_false_iff_not]; exact hz)).mono ?_
                  rintro e w4 ⟨⟨v4, rfl, rfl⟩, hx4⟩
                  have hib : ((i : Int) == (m : Int)) = false := by rw [beq_eq_false_iff_ne]; omega
                  replace HT := Hid.mk (HT.out.x hx4)
                  replace HP := Hid.mk (HP.out.x hx4)
                  replace HX := Hid.mk (HX.out.trans (HXo.out.trans hx4))
                  replace HTOP := Hid.mk (Nat.le_trans HTOP.out (HXo.out.trans hx4).size)
                  have HF : Hid (findRow s.M k (m - s.piv.length) s.piv.length = some i) := findRow_some_of hz hri (by omega) HZS.out
                  have HNZ := Hid.mk hz
                  clear e0 e1 e2 hx4 hz HZS HA1 HXo
                  go_upto_region 15 with (fail)
                  go_cut [] (fun wc => TabR wc w.heap.size top g m c (swapped s.M s.piv.length i) ∧ OwnC IsI64 wc w.heap.size 3 1 (.slice PA s.piv.length pc) s.piv.length (pivs s.piv) ∧ X w wc ∧ top ≤ wc.heap.size)
                  case first =>
                    have hrm : s.piv.length < m := by omega
                    have hrm' : (s.piv.length : Int) < (m : Int) := by omega
                    obtain ⟨b1, cap1, cs1, e0, -, -, f0, -, -⟩ := HT.out.row hi
                    obtain ⟨b2, cap2, cs2, e1, -, -, f1, -, -⟩ := HT.out.row hrm
                    obtain ⟨-, us2, sp2, hBg, -⟩ := id HT.out
                    have hty := HP.out.type hBg (by decide)
                    have HTS := Hid.mk (HT.out.swap hrm hi e1 e0)
                    have HPS := Hid.mk ((HP.out.put hty s.piv.length (.slice (some ⟨b1, 0, none⟩) c cap1)).put hty i (.slice (some ⟨b2, 0, none⟩) c cap2))
                    have HXS := Hid.mk ((HX.out.set (p := ⟨g, s.piv.length, none⟩) hgb (.slice (some ⟨b1, 0, none⟩) c cap1)).set (p := ⟨g, i, none⟩) hgb (.slice (some ⟨b2, 0, none⟩) c cap2))
                    clear hBg hty
                    by_cases hir : i = s.piv.length
                    · subst hir
                      have ee := e0.symm.trans e1
                      injection ee with ee
                      injection ee with ee _ ee2
                      injection ee with ee
                      injection ee with ee
                      subst ee ee2
                      clear hri him hi
                      go_wp2_with fail
                      go_region
                      go_wp2_with fail
                      go_meet
                      exact ⟨HTS.out.x (X.refl _).drew, HPS.out.x (X.refl _).drew, HXS.out.drew, by simpa using HTOP.out⟩
                    · have hne1 : ¬ i = s.piv.length := hir
                      have hne2 : ¬ s.piv.length = i := fun h => hir h.symm
                      go_wp2_with fail
                      go_region
                      go_wp2_with fail
                      go_meet
                      exact ⟨HTS.out.x (X.refl _).drew, HPS.out.x (X.refl _).drew, HXS.out.drew, by simpa using HTOP.out⟩
                  case rest =>
                    obtain ⟨hT, hP, hx, htop⟩ := hcut
                    replace HTOP := Hid.mk htop
                    replace HT := Hid.mk hT
                    replace HP := Hid.mk hP
                    replace HX := Hid.mk hx
                    clear hT hP hx htop
                    have hrm : s.piv.length < m := by omega
                    have hrm' : (s.piv.length : Int) < (m : Int) := by omega
                    obtain ⟨S, hSd⟩ : ∃ S, S = 5 ^ s.piv.length * b := ⟨_, rfl⟩
                    have hSle : S ≤ 400000000 := by
                      have h1 : 5 ^ (s.piv.length + 2) ≤ 5 ^ (m + 1) := Nat.pow_le_pow_right (by omega) (by omega)
                      have h2 := Nat.mul_le_mul_right b h1
                      have h3 : 5 ^ (s.piv.length + 2) * b = 25 * S := by rw [hSd, Nat.pow_add]; show 5 ^ s.piv.length * 25 * b = _; rw [Nat.mul_comm (5 ^ s.piv.length) 25, Nat.mul_assoc]
                      omega
                    rw [← hSd] at HS1
                    clear hSd
                    obtain ⟨A, hA⟩ : ∃ A, A = swapped s.M s.piv.length i := ⟨_, rfl⟩
                    have HTA : Hid (TSz A m c S) := by rw [hA]; exact tsz_swapped HS1.out hrm hi
                    have HNA : Hid (A s.piv.length k ≠ 0) := by
                      have : A s.piv.length k = s.M i k := by rw [hA]; simp [swapped]
                      rw [this]; exact HNZ.out
                    rw [← hA] at HT
                    have HA1 := Hid.mk hA
                    clear hA HS1
                    obtain ⟨b2, cap2, cs2, e1, hcc, hb2, f1, B2, hf2⟩ := HT.out.row hrm
                    obtain ⟨a, a0, a1, ha⟩ := hf2 k hk
                    have e2 := B2.cell a0
                    have e3 := B2.cell a1
                    have HRA := Hid.mk ha
                    clear hf2 B2 a0 a1 ha
                    go_upto_region 17 with (fail)
                    obtain ⟨W, hW, hXW, bW, hWs⟩ := setup1 wc #[.string a.p, .string a.q] 84
                    rw [hW]
                    clear hW
                    obtain ⟨q, hq⟩ : ∃ q, q = wc.heap.size := ⟨_, rfl⟩
                    rw [← hq] at bW ⊢
                    replace HT := Hid.mk (HT.out.x hXW)
                    replace HP := Hid.mk (HP.out.x hXW)
                    replace HX := Hid.mk (HX.out.trans hXW)
                    have BW := Hid.mk bW
                    obtain ⟨p, hp⟩ : ∃ p, p = A s.piv.length k := ⟨_, rfl⟩
                    have HPV := Hid.mk hp
                    rw [← hp] at HRA HNA
                    have HQ := Hid.mk hq
                    have HTW : Hid (top ≤ W.heap.size) := Nat.le_trans HTOP.out hXW.size
                    clear hXW bW e1 e2 e3 f1 hp hq hWs
                    go_wp2_with fail
                    go_loopw [11] (fun t11 wr => ∃ j : Nat, j ≤ c ∧ t11 = .int .i64 j ∧ TabR wr w.heap.size top g m c (fun s' t => if s' = s.piv.length ∧ t < j then A s' t / p else A s' t) ∧ OwnC IsI64 wr w.heap.size 3 1 (.slice PA s.piv.length pc) s.piv.length (pivs s.piv) ∧ Blk wr q 84 [.string a.p, .string a.q] ∧ X w wr ∧ top ≤ wr.heap.size) (fun t _ => c - (intOf t).toNat)
                    case atStart => exact ⟨0, Nat.zero_le _, rfl, HT.out.congr (fun i' hi' j' hj' => by simp), HP.out, BW.out, HX.out, HTW.out⟩
                    case round =>
                      clear HT HP BW HX HTW
                      obtain ⟨j, hj, rfl, hT, hP, hbw, hx, htw⟩ := hrel
                      have HTW := Hid.mk htw
                      clear htw
                      have HT := Hid.mk hT
                      have HP := Hid.mk hP
                      have BW := Hid.mk hbw
                      have HX := Hid.mk hx
                      clear hT hP hbw hx
                      by_cases hjc : j < c
                      · have hjc' : (j : Int) < (c : Int) := by omega
                        obtain ⟨b3, cap3, cs3, e1, hc3, hb3, f1, B3, hf3⟩ := HT.out.row hrm
                        obtain ⟨x, a0, a1, ha⟩ := hf3 j hjc
                        replace ha : FR x (A s.piv.length j) := by simpa using ha
                        have e2 := B3.cell a0
                        have e3 := B3.cell a1
                        have hb := BW.out
                        have k0 := hb.cell (j := 0) rfl
                        have k1 := hb.cell (j := 1) rfl
                        have HRX := Hid.mk ha
                        have B3H := Hid.mk B3
                        have hz0 : X wr wr.drew := ⟨rfl, rfl, rfl, Nat.le_refl _, fun _ _ => rfl⟩
                        have HC := Hid.mk (fun w' (h : X wr w') => (⟨h.cell e1, h.cell e2, h.cell e3, h.cell k0, h.cell k1⟩ : w'.cell? ⟨g, s.piv.length, none⟩ = some (.slice (some ⟨b3, 0, none⟩) c cap3) ∧ w'.cell? ⟨b3, j * 2, none⟩ = some (.string x.p) ∧ w'.cell? ⟨b3, j * 2 + 1, none⟩ = some (.string x.q) ∧ w'.cell? ⟨q, 0, none⟩ = some (.string a.p) ∧ w'.cell? ⟨q, 1, none⟩ = some (.string a.q)))
                        clear hf3 B3 a0 a1 ha hb
                        go_wp2_with fail
                        have hS0 : (fun w' : World => w'.cell? ⟨g, s.piv.length, none⟩ = some (.slice (some ⟨b3, 0, none⟩) c cap3) ∧ w'.cell? ⟨b3, j * 2, none⟩ = some (.string x.p) ∧ w'.cell? ⟨b3, j * 2 + 1, none⟩ = some (.string x.q) ∧ w'.cell? ⟨q, 0, none⟩ = some (.string a.p) ∧ w'.cell? ⟨q, 1, none⟩ = some (.string a.q)) _ := HC.out _ hz0
                        refine AnyE.start (S := fun w' : World => w'.cell? ⟨g, s.piv.length, none⟩ = some (.slice (some ⟨b3, 0, none⟩) c cap3) ∧ w'.cell? ⟨b3, j * 2, none⟩ = some (.string x.p) ∧ w'.cell? ⟨b3, j * 2 + 1, none⟩ = some (.string x.q) ∧ w'.cell? ⟨q, 0, none⟩ = some (.string a.p) ∧ w'.cell? ⟨q, 1, none⟩ = some (.string a.q)) 15 (by kernel_rfl) ?_
                        refine AnyE.take (i := 0) (v := ?_) rfl (by kernel_rfl) (by kernel_rfl) (fun _ _ _ h => h) (Or.inl ⟨by rfl, ?_⟩) hS0 ?_
                        rotate_left
                        · (intro w' hSw; (try dsimp only at hSw); go_simp; try with_reducible rfl)
                        try simp only [Act.put, List.setIfInBounds_toArray, List.set_cons_zero, List.set_cons_succ]
                        refine AnyE.take (i := 1) (v := ?_) rfl (by kernel_rfl) (by kernel_rfl) (fun _ _ _ h => h) (Or.inl ⟨by rfl, ?_⟩) hS0 ?_
                        rotate_left
                        · (intro w' hSw; (try dsimp only at hSw); go_simp; try with_reducible rfl)
                        try simp only [Act.put, List.setIfInBounds_toArray, List.set_cons_zero, List.set_cons_succ]
                        refine AnyE.take (i := 2) (v := ?_) rfl (by kernel_rfl) (by kernel_rfl) (fun _ _ _ h => h) (Or.inl ⟨by rfl, ?_⟩) hS0 ?_
                        rotate_left
                        · (intro w' hSw; (try dsimp only at hSw); go_simp; try with_reducible rfl)
                        try simp only [Act.put, List.setIfInBounds_toArray, List.set_cons_zero, List.set_cons_succ]
                        refine AnyE.take (i := 3) (v := ?_) rfl (by kernel_rfl) (by kernel_rfl) (fun _ _ _ h => h) (Or.inl ⟨by rfl, ?_⟩) hS0 ?_
                        rotate_left
                        · (intro w' hSw; (try dsimp only at hSw); go_simp; try with_reducible rfl)
                        try simp only [Act.put, List.setIfInBounds_toArray, List.set_cons_zero, List.set_cons_succ]
                        refine AnyE.take (i := 4) (v := ?_) rfl (by kernel_rfl) (by kernel_rfl) (fun _ _ _ h => h) (Or.inl ⟨by rfl, ?_⟩) hS0 ?_
                        rotate_left
                        · (intro w' hSw; (try dsimp only at hSw); go_simp; try with_reducible rfl)
                        try simp only [Act.put, List.setIfInBounds_toArray, List.set_cons_zero, List.set_cons_succ]
                        refine AnyE.take (i := 5) (v := ?_) rfl (by kernel_rfl) (by kernel_rfl) (fun _ _ _ h => h) (Or.inl ⟨by rfl, ?_⟩) hS0 ?_
                        rotate_left
                        · (intro w' hSw; (try dsimp only at hSw); go_simp; try with_reducible rfl)
                        try simp only [Act.put, List.setIfInBounds_toArray, List.set_cons_zero, List.set_cons_succ]
                        refine AnyE.take (i := 6) (v := ?_) rfl (by kernel_rfl) (by kernel_rfl) (fun _ _ _ h => h) (Or.inl ⟨by rfl, ?_⟩) hS0 ?_
                        rotate_left
                        · (intro w' hSw; (try dsimp only at hSw); go_simp; try with_reducible rfl)
                        try simp only [Act.put, List.setIfInBounds_toArray, List.set_cons_zero, List.set_cons_succ]
                        refine AnyE.take (i := 7) (v := ?_) rfl (by kernel_rfl) (by kernel_rfl) (fun _ _ _ h => h) (Or.inl ⟨by rfl, ?_⟩) hS0 ?_
                        rotate_left
                        · (intro w' hSw; (try dsimp only at hSw); go_simp; try with_reducible rfl)
                        try simp only [Act.put, List.setIfInBounds_toArray, List.set_cons_zero, List.set_cons_succ]
                        refine AnyE.take (i := 8) (v := ?_) rfl (by kernel_rfl) (by kernel_rfl) (fun _ _ _ h => h) (Or.inl ⟨by rfl, ?_⟩) hS0 ?_
                        rotate_left
                        · (intro w' hSw; (try dsimp only at hSw); go_simp; try with_reducible rfl)
                        try simp only [Act.put, List.setIfInBounds_toArray, List.set_cons_zero, List.set_cons_succ]
                        refine AnyE.take (i := 9) (v := ?_) rfl (by kernel_rfl) (by kernel_rfl) (fun _ _ _ h => h) (Or.inl ⟨by rfl, ?_⟩) hS0 ?_
                        rotate_left
                        · (intro w' hSw; (try dsimp only at hSw); go_simp; try with_reducible rfl)
                        try simp only [Act.put, List.setIfInBounds_toArray, List.set_cons_zero, List.set_cons_succ]
                        refine AnyE.take (i := 10) (v := ?_) rfl (by kernel_rfl) (by kernel_rfl) (fun _ _ _ h => h) (Or.inl ⟨by rfl, ?_⟩) hS0 ?_
                        rotate_left
                        · (intro w' hSw; (try dsimp only at hSw); go_simp; try with_reducible rfl)
                        try simp only [Act.put, List.setIfInBounds_toArray, List.set_cons_zero, List.set_cons_succ]
                        refine AnyE.take (i := 11) (v := ?_) rfl (by kernel_rfl) (by kernel_rfl) (fun _ _ _ h => h) (Or.inl ⟨by rfl, ?_⟩) hS0 ?_
                        rotate_left
                        · (intro w' hSw; (try dsimp only at hSw); go_simp; try with_reducible rfl)
                        try simp only [Act.put, List.setIfInBounds_toArray, List.set_cons_zero, List.set_cons_succ]
                        refine AnyE.take (i := 12) (v := ?_) rfl (by kernel_rfl) (by kernel_rfl) (fun _ _ _ h => h) (Or.inl ⟨by rfl, ?_⟩) hS0 ?_
                        rotate_left
                        · (intro w' hSw; (try dsimp only at hSw); go_simp; try with_reducible rfl)
                        try simp only [Act.put, List.setIfInBounds_toArray, List.set_cons_zero, List.set_cons_succ]
                        refine AnyE.one (i := 13) rfl (by kernel_rfl) fun K' hK => ?_
                        go_simp
                        go_at_call 56
                        refine (ref_fdiv _ x a (A s.piv.length j) p HRX.out HRA.out S S (HTA.out _ hrm _ hjc) (by rw [HPV.out]; exact HTA.out _ hrm _ hk) (by omega) HNA.out).mono ?_
                        rintro e w2 ⟨⟨v2, rfl, r, rfl, hr⟩, hx2⟩
                        have hz2 := hz0.trans hx2
                        have hS1 := HC.out _ hz2
                        refine hK.out _ _ (Or.inr hS1) ?_
                        try simp only [Act.put, List.setIfInBounds_toArray, List.set_cons_zero, List.set_cons_succ]
                        refine AnyE.take (i := 14) (v := ?_) rfl (by kernel_rfl) (by kernel_rfl) (fun _ _ _ h => h) (Or.inl ⟨by rfl, ?_⟩) hS1 ?_
                        rotate_left
                        · (intro w' hSw; (try dsimp only at hSw); go_simp; try with_reducible rfl)
                        try simp only [Act.put, List.setIfInBounds_toArray, List.set_cons_zero, List.set_cons_succ]
                        have hb4 := B3H.out.x hz2
                        have f2 := hb4.frozen (j * 2)
                        have f3 := hb4.frozen (j * 2 + 1)
                        obtain ⟨d1, d2, d3, d4, d5⟩ := hS1
                        have HT2 := Hid.mk (((HT.out.x hz2).put hrm hjc d1 hr).congr (S := fun s' t => if s' = s.piv.length ∧ t < j + 1 then A s' t / p else A s' t) (fun t ht y hy => by
                          by_cases e1 : t = s.piv.length
                          · by_cases e2 : y = j
                            · simp [e1, e2]
                            · by_cases e3 : y < j
                              · simp [e1, e2, e3, show y < j + 1 by omega]
                              · simp [e1, e2, e3, show ¬ y < j + 1 by omega]
                          · simp [e1]))
                        have hne3 : b3 ≠ q := by
                          have h1 := HTOP.out
                          have h2 := HQ.out
                          omega
                        have BW2 := Hid.mk (((BW.out.x hz2).other (p := ⟨b3, j * 2, none⟩) hne3 (.string r.p)).other (p := ⟨b3, j * 2 + 1, none⟩) hne3 (.string r.q))
                        have HP2 := Hid.mk (((HP.out.x hz2).put ((HP.out.x hz2).type hb4 (by decide)) (j * 2) (.string r.p)).put ((HP.out.x hz2).type hb4 (by decide)) (j * 2 + 1) (.string r.q))
                        have HX2 := Hid.mk (((HX.out.trans hz2).set (p := ⟨b3, j * 2, none⟩) hb3.1 (.string r.p)).set (p := ⟨b3, j * 2 + 1, none⟩) hb3.1 (.string r.q))
                        have HTW2 : Hid (top ≤ w2.heap.size) := Nat.le_trans HTW.out hz2.size
                        clear hb4 hS0 hz0 hz2 hx2 e1 e2 e3 k0 k1 HC HT HP HX BW hr HTW
                        refine AnyE.one (i := 15) rfl (by kernel_rfl) fun K'' hK2 => ?_
                        go_simp
                        refine hK2.out _ _ (Or.inl (Nat.le_refl _)) (AnyE.done (by kernel_rfl) ?_ _)
                        try simp only [Act.put, List.setIfInBounds_toArray, List.set_cons_zero, List.set_cons_succ]
                        clear hK hK2
                        go_wp2_with fail
                        go_roundw
                        case rel => exact ⟨j + 1, by omega, by go_num, HT2.out, HP2.out, BW2.out, HX2.out, by simpa using HTW2.out⟩
                        case measure => simp [intOf]; omega
                      · obtain rfl : j = c := by omega
                        obtain ⟨b3, cap3, cs3, e1, hc3, hb3, f1, B3, hf3⟩ := HT.out.row hrm
                        obtain ⟨B, hB⟩ : ∃ B, B = scaled A s.piv.length p := ⟨_, rfl⟩
                        have HTB : Hid (TSz B m j (2 * S)) := by rw [hB, HPV.out]; exact tsz_scaled HTA.out hrm hk (by rw [← HPV.out]; exact HNA.out)
                        have HTC : Hid (TabR wr w.heap.size top g m j B) := HT.out.congr (fun t ht y hy => by
                          rw [hB]
                          unfold scaled
                          by_cases e : t = s.piv.length
                          · simp [e, hy]
                          · simp [e])
                        have HBE := Hid.mk hB
                        have hjj : ¬ (j : Int) < (j : Int) := by omega
                        clear B3 hf3 hjc hj HT hB BW
                        go_wp2_with fail
                        go_loopw [12] (fun t12 wr => ∃ y : Nat, y ≤ m ∧ t12 = .int .i64 y ∧ TabR wr w.heap.size top g m j (fun t => if t < y then cleared B s.piv.length k t else B t) ∧ OwnC IsI64 wr w.heap.size 3 1 (.slice PA s.piv.length pc) s.piv.length (pivs s.piv) ∧ X w wr ∧ top ≤ wr.heap.size) (fun t _ => m - (intOf t).toNat)
                        case atStart => exact ⟨0, Nat.zero_le _, rfl, HTC.out.congr (fun t ht y hy => by simp), HP.out, HX.out, HTW.out⟩
                        case round =>
                          clear HTC HP HX HTW e1 f1
                          obtain ⟨y, hy, rfl, hT, hP, hx, htw⟩ := hrel
                          have HT := Hid.mk hT
                          have HP := Hid.mk hP
                          have HX := Hid.mk hx
                          have HTW := Hid.mk htw
                          clear hT hP hx htw
                          by_cases hym : y < m
                          · have hym' : (y : Int) < (m : Int) := by omega
                            obtain ⟨b5, cap5, cs5, e1, hc5, hb5, f1, B5, hf5⟩ := HT.out.row hym
                            obtain ⟨x, a0, a1, ha⟩ := hf5 k hk
                            replace ha : FR x (B y k) := by simpa using ha
                            have e2 := B5.cell a0
                            have e3 := B5.cell a1
                            have HRX := Hid.mk ha
                            clear hf5 B5 a0 a1 ha
                            go_wp2_with fail
                            refine (ref_fneg _ x (B y k) HRX.out (2 * S) (HTB.out _ hym _ hk) (by omega)).mono ?_
                            rintro e w2 ⟨⟨v2, rfl, r, rfl, hr⟩, hx2⟩
                            go_upto_region 25 with (fail)
                            obtain ⟨W2, hW2, hXW, bW, hWs⟩ := setup1 w2 #[.string r.p, .string r.q] 84
                            rw [hW2]
                            clear hW2
                            obtain ⟨q2, hq⟩ : ∃ q2, q2 = w2.heap.size := ⟨_, rfl⟩
                            rw [← hq] at bW ⊢
                            have HTW2 : Hid (top ≤ q2) := by rw [hq]; exact Nat.le_trans HTW.out hx2.size
                            replace HT := Hid.mk (HT.out.x (hx2.trans hXW))
                            replace HP := Hid.mk (HP.out.x (hx2.trans hXW))
                            replace HX := Hid.mk (HX.out.trans (hx2.trans hXW))
                            replace HTW := Hid.mk (Nat.le_trans HTW.out (hx2.trans hXW).size)
                            have BW := Hid.mk bW
                            have HRT := Hid.mk hr
                            clear hXW bW hWs hq hx2 hr e1 e2 e3 f1
                            by_cases hyr : y = s.piv.length
                            · have hnb : ((y : Int) != (s.piv.length : Int)) = false := by rw [hyr]; simp
                              have HN : Hid (TabR W2 w.heap.size top g m j (fun t => if t < y + 1 then cleared B s.piv.length k t else B t)) := HT.out.congr (fun t ht x hx => by
                                by_cases e : t = y
                                · rw [e, if_neg (by omega), if_pos (by omega), hyr]; simp [cleared]
                                · by_cases e2 : t < y
                                  · rw [if_pos e2, if_pos (by omega)]
                                  · rw [if_neg e2, if_neg (by omega)])
                              obtain ⟨b5, cap5, cs5, e1, hc5, hb5, f1, B5, hf5⟩ := HT.out.row hym
                              clear hyr B5 hf5 BW HTW2
                              have hj0 : (0 : Int) < (j : Int) := by omega
                              go_wp2_with fail
                              go_loopw [14] (fun t14 wr => t14 = .int .i64 0 ∧ wr = W2) (fun _ _ => 0)
                              case atStart => exact ⟨rfl, rfl⟩
                              case round =>
                                obtain ⟨rfl, rfl⟩ := hrel
                                go_wp2_with fail
                                go_roundw
                                case rel => exact ⟨y + 1, by omega, by go_num, HN.out, HP.out, HX.out, HTW.out⟩
                                case measure => simp [intOf]; omega
                            · have hnb : ((y : Int) != (s.piv.length : Int)) = true := by rw [bne_iff_ne]; omega
                              go_wp2_with fail
                              go_loopw [14] (fun t14 wr => ∃ z : Nat, z ≤ j ∧ t14 = .int .i64 z ∧ TabR wr w.heap.size top g m j (fun t u => if t < y ∨ t = y ∧ u < z then cleared B s.piv.length k t u else B t u) ∧ OwnC IsI64 wr w.heap.size 3 1 (.slice PA s.piv.length pc) s.piv.length (pivs s.piv) ∧ Blk wr q2 84 [.string r.p, .string r.q] ∧ X w wr ∧ top ≤ wr.heap.size) (fun t _ => j - (intOf t).toNat)
                              case atStart => exact ⟨0, Nat.zero_le _, rfl, HT.out.congr (fun t ht u hu => by
                                by_cases e : t < y
                                · simp [e]
                                · simp [e]), HP.out, BW.out, HX.out, HTW.out⟩
                              case round =>
                                clear HT HP BW HX HTW
                                obtain ⟨z, hz, rfl, hT, hP, hbw, hx, htw⟩ := hrel
                                have HT := Hid.mk hT
                                have HP := Hid.mk hP
                                have BW := Hid.mk hbw
                                have HX := Hid.mk hx
                                have HTW := Hid.mk htw
                                clear hT hP hbw hx htw
                                by_cases hzj : z < j
                                · have hzj' : (z : Int) < (j : Int) := by omega
                                  obtain ⟨b5, cap5, cs5, e1, hc5, hb5, f1, B5, hf5⟩ := HT.out.row hym
                                  obtain ⟨x1, a0, a1, ha⟩ := hf5 z hzj
                                  replace ha : FR x1 (B y z) := by simpa using ha
                                  have e2 := B5.cell a0
                                  have e3 := B5.cell a1
                                  obtain ⟨b6, cap6, cs6, e4, hc6, hb6, f6, B6, hf6⟩ := HT.out.row hrm
                                  obtain ⟨x2, a2, a3, ha2⟩ := hf6 z hzj
                                  replace ha2 : FR x2 (B s.piv.length z) := by
                                    have e : (if s.piv.length < y ∨ s.piv.length = y ∧ z < z then cleared B s.piv.length k s.piv.length z else B s.piv.length z) = B s.piv.length z := by
                                      split
                                      · simp [cleared]
                                      · rfl
                                    rw [← e]; exact ha2
                                  have e5 := B6.cell a2
                                  have e6 := B6.cell a3
                                  have hb := BW.out
                                  have k0 := hb.cell (j := 0) rfl
                                  have k1 := hb.cell (j := 1) rfl
                                  have HRX1 := Hid.mk ha
                                  have HRX2 := Hid.mk ha2
                                  have B5H := Hid.mk B5
                                  have hz0 : X wr wr.drew := ⟨rfl, rfl, rfl, Nat.le_refl _, fun _ _ => rfl⟩
                                  have HC := Hid.mk (fun w' (h : X wr w') => (⟨h.cell e1, h.cell e4, h.cell e2, h.cell e3, h.cell e5, h.cell e6, h.cell k0, h.cell k1⟩ : w'.cell? ⟨g, y, none⟩ = some (.slice (some ⟨b5, 0, none⟩) j cap5) ∧ w'.cell? ⟨g, s.piv.length, none⟩ = some (.slice (some ⟨b6, 0, none⟩) j cap6) ∧ w'.cell? ⟨b5, z * 2, none⟩ = some (.string x1.p) ∧ w'.cell? ⟨b5, z * 2 + 1, none⟩ = some (.string x1.q) ∧ w'.cell? ⟨b6, z * 2, none⟩ = some (.string x2.p) ∧ w'.cell? ⟨b6, z * 2 + 1, none⟩ = some (.string x2.q) ∧ w'.cell? ⟨q2, 0, none⟩ = some (.string r.p) ∧ w'.cell? ⟨q2, 1, none⟩ = some (.string r.q)))
                                  clear hf5 B5 a0 a1 ha hb hf6 B6 a2 a3 ha2
                                  go_wp2_with fail
                                  have hS0 : (fun w' : World => w'.cell? ⟨g, y, none⟩ = some (.slice (some ⟨b5, 0, none⟩) j cap5) ∧ w'.cell? ⟨g, s.piv.length, none⟩ = some (.slice (some ⟨b6, 0, none⟩) j cap6) ∧ w'.cell? ⟨b5, z * 2, none⟩ = some (.string x1.p) ∧ w'.cell? ⟨b5, z * 2 + 1, none⟩ = some (.string x1.q) ∧ w'.cell? ⟨b6, z * 2, none⟩ = some (.string x2.p) ∧ w'.cell? ⟨b6, z * 2 + 1, none⟩ = some (.string x2.q) ∧ w'.cell? ⟨q2, 0, none⟩ = some (.string r.p) ∧ w'.cell? ⟨q2, 1, none⟩ = some (.string r.q)) _ := HC.out _ hz0
                                  refine AnyE.start (S := fun w' : World => w'.cell? ⟨g, y, none⟩ = some (.slice (some ⟨b5, 0, none⟩) j cap5) ∧ w'.cell? ⟨g, s.piv.length, none⟩ = some (.slice (some ⟨b6, 0, none⟩) j cap6) ∧ w'.cell? ⟨b5, z * 2, none⟩ = some (.string x1.p) ∧ w'.cell? ⟨b5, z * 2 + 1, none⟩ = some (.string x1.q) ∧ w'.cell? ⟨b6, z * 2, none⟩ = some (.string x2.p) ∧ w'.cell? ⟨b6, z * 2 + 1, none⟩ = some (.string x2.q) ∧ w'.cell? ⟨q2, 0, none⟩ = some (.string r.p) ∧ w'.cell? ⟨q2, 1, none⟩ = some (.string r.q)) 23 (by kernel_rfl) ?_
                                  refine AnyE.take (i := 0) (v := ?_) rfl (by kernel_rfl) (by kernel_rfl) (fun _ _ _ h => h) (Or.inl ⟨by rfl, ?_⟩) hS0 ?_
                                  rotate_left
                                  · (intro w' hSw; (try dsimp only at hSw); go_simp; try with_reducible rfl)
                                  try simp only [Act.put, List.setIfInBounds_toArray, List.set_cons_zero, List.set_cons_succ]
                                  refine AnyE.take (i := 1) (v := ?_) rfl (by kernel_rfl) (by kernel_rfl) (fun _ _ _ h => h) (Or.inl ⟨by rfl, ?_⟩) hS0 ?_
                                  rotate_left
                                  · (intro w' hSw; (try dsimp only at hSw); go_simp; try with_reducible rfl)
                                  try simp only [Act.put, List.setIfInBounds_toArray, List.set_cons_zero, List.set_cons_succ]
                                  refine AnyE.take (i := 2) (v := ?_) rfl (by kernel_rfl) (by kernel_rfl) (fun _ _ _ h => h) (Or.inl ⟨by rfl, ?_⟩) hS0 ?_
                                  rotate_left
                                  · (intro w' hSw; (try dsimp only at hSw); go_simp; try with_reducible rfl)
                                  try simp only [Act.put, List.setIfInBounds_toArray, List.set_cons_zero, List.set_cons_succ]
                                  refine AnyE.take (i := 3) (v := ?_) rfl (by kernel_rfl) (by kernel_rfl) (fun _ _ _ h => h) (Or.inl ⟨by rfl, ?_⟩) hS0 ?_
                                  rotate_left
                                  · (intro w' hSw; (try dsimp only at hSw); go_simp; try with_reducible rfl)
                                  try simp only [Act.put, List.setIfInBounds_toArray, List.set_cons_zero, List.set_cons_succ]
                                  refine AnyE.take (i := 4) (v := ?_) rfl (by kernel_rfl) (by kernel_rfl) (fun _ _ _ h => h) (Or.inl ⟨by rfl, ?_⟩) hS0 ?_
                                  rotate_left
                                  · (intro w' hSw; (try dsimp only at hSw); go_simp; try with_reducible rfl)
                                  try simp only [Act.put, List.setIfInBounds_toArray, List.set_cons_zero, List.set_cons_succ]
                                  refine AnyE.take (i := 5) (v := ?_) rfl (by kernel_rfl) (by kernel_rfl) (fun _ _ _ h => h) (Or.inl ⟨by rfl, ?_⟩) hS0 ?_
                                  rotate_left
                                  · (intro w' hSw; (try dsimp only at hSw); go_simp; try with_reducible rfl)
                                  try simp only [Act.put, List.setIfInBounds_toArray, List.set_cons_zero, List.set_cons_succ]
                                  refine AnyE.take (i := 6) (v := ?_) rfl (by kernel_rfl) (by kernel_rfl) (fun _ _ _ h => h) (Or.inl ⟨by rfl, ?_⟩) hS0 ?_
                                  rotate_left
                                  · (intro w' hSw; (try dsimp only at hSw); go_simp; try with_reducible rfl)
                                  try simp only [Act.put, List.setIfInBounds_toArray, List.set_cons_zero, List.set_cons_succ]
                                  refine AnyE.take (i := 7) (v := ?_) rfl (by kernel_rfl) (by kernel_rfl) (fun _ _ _ h => h) (Or.inl ⟨by rfl, ?_⟩) hS0 ?_
                                  rotate_left
                                  · (intro w' hSw; (try dsimp only at hSw); go_simp; try with_reducible rfl)
                                  try simp only [Act.put, List.setIfInBounds_toArray, List.set_cons_zero, List.set_cons_succ]
                                  refine AnyE.take (i := 8) (v := ?_) rfl (by kernel_rfl) (by kernel_rfl) (fun _ _ _ h => h) (Or.inl ⟨by rfl, ?_⟩) hS0 ?_
                                  rotate_left
                                  · (intro w' hSw; (try dsimp only at hSw); go_simp; try with_reducible rfl)
                                  try simp only [Act.put, List.setIfInBounds_toArray, List.set_cons_zero, List.set_cons_succ]
                                  refine AnyE.take (i := 9) (v := ?_) rfl (by kernel_rfl) (by kernel_rfl) (fun _ _ _ h => h) (Or.inl ⟨by rfl, ?_⟩) hS0 ?_
                                  rotate_left
                                  · (intro w' hSw; (try dsimp only at hSw); go_simp; try with_reducible rfl)
                                  try simp only [Act.put, List.setIfInBounds_toArray, List.set_cons_zero, List.set_cons_succ]
                                  refine AnyE.take (i := 10) (v := ?_) rfl (by kernel_rfl) (by kernel_rfl) (fun _ _ _ h => h) (Or.inl ⟨by rfl, ?_⟩) hS0 ?_
                                  rotate_left
                                  · (intro w' hSw; (try dsimp only at hSw); go_simp; try with_reducible rfl)
                                  try simp only [Act.put, List.setIfInBounds_toArray, List.set_cons_zero, List.set_cons_succ]
                                  refine AnyE.take (i := 11) (v := ?_) rfl (by kernel_rfl) (by kernel_rfl) (fun _ _ _ h => h) (Or.inl ⟨by rfl, ?_⟩) hS0 ?_
                                  rotate_left
                                  · (intro w' hSw; (try dsimp only at hSw); go_simp; try with_reducible rfl)
                                  try simp only [Act.put, List.setIfInBounds_toArray, List.set_cons_zero, List.set_cons_succ]
                                  refine AnyE.take (i := 12) (v := ?_) rfl (by kernel_rfl) (by kernel_rfl) (fun _ _ _ h => h) (Or.inl ⟨by rfl, ?_⟩) hS0 ?_
                                  rotate_left
                                  · (intro w' hSw; (try dsimp only at hSw); go_simp; try with_reducible rfl)
                                  try simp only [Act.put, List.setIfInBounds_toArray, List.set_cons_zero, List.set_cons_succ]
                                  refine AnyE.take (i := 13) (v := ?_) rfl (by kernel_rfl) (by kernel_rfl) (fun _ _ _ h => h) (Or.inl ⟨by rfl, ?_⟩) hS0 ?_
                                  rotate_left
                                  · (intro w' hSw; (try dsimp only at hSw); go_simp; try with_reducible rfl)
                                  try simp only [Act.put, List.setIfInBounds_toArray, List.set_cons_zero, List.set_cons_succ]
                                  refine AnyE.take (i := 14) (v := ?_) rfl (by kernel_rfl) (by kernel_rfl) (fun _ _ _ h => h) (Or.inl ⟨by rfl, ?_⟩) hS0 ?_
                                  rotate_left
                                  · (intro w' hSw; (try dsimp only at hSw); go_simp; try with_reducible rfl)
                                  try simp only [Act.put, List.setIfInBounds_toArray, List.set_cons_zero, List.set_cons_succ]
                                  refine AnyE.take (i := 15) (v := ?_) rfl (by kernel_rfl) (by kernel_rfl) (fun _ _ _ h => h) (Or.inl ⟨by rfl, ?_⟩) hS0 ?_
                                  rotate_left
                                  · (intro w' hSw; (try dsimp only at hSw); go_simp; try with_reducible rfl)
                                  try simp only [Act.put, List.setIfInBounds_toArray, List.set_cons_zero, List.set_cons_succ]
                                  refine AnyE.take (i := 16) (v := ?_) rfl (by kernel_rfl) (by kernel_rfl) (fun _ _ _ h => h) (Or.inl ⟨by rfl, ?_⟩) hS0 ?_
                                  rotate_left
                                  · (intro w' hSw; (try dsimp only at hSw); go_simp; try with_reducible rfl)
                                  try simp only [Act.put, List.setIfInBounds_toArray, List.set_cons_zero, List.set_cons_succ]
                                  refine AnyE.take (i := 17) (v := ?_) rfl (by kernel_rfl) (by kernel_rfl) (fun _ _ _ h => h) (Or.inl ⟨by rfl, ?_⟩) hS0 ?_
                                  rotate_left
                                  · (intro w' hSw; (try dsimp only at hSw); go_simp; try with_reducible rfl)
                                  try simp only [Act.put, List.setIfInBounds_toArray, List.set_cons_zero, List.set_cons_succ]
                                  refine AnyE.take (i := 18) (v := ?_) rfl (by kernel_rfl) (by kernel_rfl) (fun _ _ _ h => h) (Or.inl ⟨by rfl, ?_⟩) hS0 ?_
                                  rotate_left
                                  · (intro w' hSw; (try dsimp only at hSw); go_simp; try with_reducible rfl)
                                  try simp only [Act.put, List.setIfInBounds_toArray, List.set_cons_zero, List.set_cons_succ]
                                  refine AnyE.take (i := 19) (v := ?_) rfl (by kernel_rfl) (by kernel_rfl) (fun _ _ _ h => h) (Or.inl ⟨by rfl, ?_⟩) hS0 ?_
                                  rotate_left
                                  · (intro w' hSw; (try dsimp only at hSw); go_simp; try with_reducible rfl)
                                  try simp only [Act.put, List.setIfInBounds_toArray, List.set_cons_zero, List.set_cons_succ]
                                  refine AnyE.one (i := 20) rfl (by kernel_rfl) fun K' hK => ?_
                                  go_simp
                                  go_at_call 59
                                  refine (ref_fmul _ r x2 (- B y k) (B s.piv.length z) HRT.out HRX2.out (2 * S) (2 * S) (HTB.out _ hym _ hk).neg (HTB.out _ hrm _ hzj) (by omega)).mono ?_
                                  rintro e w3 ⟨⟨v3, rfl, r3, rfl, hr3⟩, hx3⟩
                                  have hz1 := hz0.trans hx3
                                  have hS1 := HC.out _ hz1
                                  refine hK.out _ _ (Or.inr hS1) ?_
                                  try simp only [Act.put, List.setIfInBounds_toArray, List.set_cons_zero, List.set_cons_succ]
                                  clear hK hS0
                                  refine AnyE.one (i := 21) rfl (by kernel_rfl) fun K' hK => ?_
                                  go_simp
                                  go_at_call 58
                                  refine (ref_fadd _ x1 r3 (B y z) (- B y k * B s.piv.length z) HRX1.out hr3 (2 * S) (2 * S + 2 * S) (HTB.out _ hym _ hzj) ((HTB.out _ hym _ hk).neg.mul (HTB.out _ hrm _ hzj)) (by omega)).mono ?_
                                  rintro e w4 ⟨⟨v4, rfl, r4, rfl, hr4⟩, hx4⟩
                                  have hz2 := hz1.trans hx4
                                  have hS2 := HC.out _ hz2
                                  refine hK.out _ _ (Or.inr hS2) ?_
                                  try simp only [Act.put, List.setIfInBounds_toArray, List.set_cons_zero, List.set_cons_succ]
                                  clear hK hS1
                                  refine AnyE.take (i := 22) (v := ?_) rfl (by kernel_rfl) (by kernel_rfl) (fun _ _ _ h => h) (Or.inl ⟨by rfl, ?_⟩) hS2 ?_
                                  rotate_left
                                  · (intro w' hSw; (try dsimp only at hSw); go_simp; try with_reducible rfl)
                                  try simp only [Act.put, List.setIfInBounds_toArray, List.set_cons_zero, List.set_cons_succ]
                                  have hb4 := B5H.out.x hz2
                                  have f2 := hb4.frozen (z * 2)
                                  have f3 := hb4.frozen (z * 2 + 1)
                                  obtain ⟨d1, d2, d3, d4, -, -, -, -⟩ := hS2
                                  have HT2 := Hid.mk (((HT.out.x hz2).put hym hzj d1 hr4).congr (S := fun t u => if t < y ∨ t = y ∧ u < z + 1 then cleared B s.piv.length k t u else B t u) (fun t ht u hu => by
                                    by_cases e1 : t = y
                                    · by_cases e2 : u = z
                                      · have e3 : cleared B s.piv.length k y z = B y z + - B y k * B s.piv.length z := by
                                          simp only [cleared, if_neg hyr, Rat.sub_eq_add_neg, Rat.neg_mul]
                                        simp [e1, e2, e3]
                                      · by_cases e3 : u < z
                                        · simp [e1, e2, e3, show u < z + 1 by omega]
                                        · simp [e1, e2, e3, show ¬ u < z + 1 by omega]
                                    · simp [e1]))
                                  have hne3 : b5 ≠ q2 := by
                                    have h1 := HTW2.out
                                    omega
                                  have BW2 := Hid.mk (((BW.out.x hz2).other (p := ⟨b5, z * 2, none⟩) hne3 (.string r4.p)).other (p := ⟨b5, z * 2 + 1, none⟩) hne3 (.string r4.q))
                                  have HP2 := Hid.mk (((HP.out.x hz2).put ((HP.out.x hz2).type hb4 (by decide)) (z * 2) (.string r4.p)).put ((HP.out.x hz2).type hb4 (by decide)) (z * 2 + 1) (.string r4.q))
                                  have HX2 := Hid.mk (((HX.out.trans hz2).set (p := ⟨b5, z * 2, none⟩) hb5.1 (.string r4.p)).set (p := ⟨b5, z * 2 + 1, none⟩) hb5.1 (.string r4.q))
                                  have HTW4 : Hid (top ≤ w4.heap.size) := Nat.le_trans HTW.out hz2.size
                                  clear hb4 hz0 hz1 hz2 hx3 hx4 e1 e2 e3 e4 e5 e6 k0 k1 HC HT HP HX BW hr3 hr4 HTW
                                  refine AnyE.one (i := 23) rfl (by kernel_rfl) fun K'' hK2 => ?_
                                  go_simp
                                  refine hK2.out _ _ (Or.inl (Nat.le_refl _)) (AnyE.done (by kernel_rfl) ?_ _)
                                  try simp only [Act.put, List.setIfInBounds_toArray, List.set_cons_zero, List.set_cons_succ]
                                  clear hK2
                                  go_wp2_with fail
                                  go_roundw
                                  case rel => exact ⟨z + 1, by omega, by go_num, HT2.out, HP2.out, BW2.out, HX2.out, by simpa using HTW4.out⟩
                                  case measure => simp [intOf]; omega
                                · obtain rfl : z = j := by omega
                                  have HN : Hid (TabR wr w.heap.size top g m z (fun t => if t < y + 1 then cleared B s.piv.length k t else B t)) := HT.out.congr (fun t ht u hu => by
                                    by_cases e : t = y
                                    · simp [e, hu]
                                    · by_cases e2 : t < y
                                      · simp [e2, show t < y + 1 by omega]
                                      · simp [e, e2, show ¬ t < y + 1 by omega])
                                  obtain ⟨b5, cap5, cs5, e1, hc5, hb5, f1, B5, hf5⟩ := HT.out.row hym
                                  have hzz : ¬ (z : Int) < (z : Int) := by omega
                                  clear B5 hf5 BW hzj hz
                                  go_wp2_with fail
                                  go_roundw
                                  case rel => exact ⟨y + 1, by omega, by go_num, HN.out, HP.out, HX.out, HTW.out⟩
                                  case measure => simp [intOf]; omega
                          · have hmy : m = y := by omega
                            subst hmy
                            have hmm : ¬ (m : Int) < (m : Int) := by omega
                            have HTF : Hid (TabR wr w.heap.size top g m j (cleared B s.piv.length k)) := HT.out.congr (fun t ht u hu => by simp [ht])
                            have hE := step_some HF.out
                            have HST1 : Hid ((steps m M (k + 1)).M = cleared B s.piv.length k) := by
                              show (DLin.step m (steps m M k) k).M = _
                              rw [← HS.out, hE, HBE.out, HPV.out, HA1.out]
                            have HST2 : Hid ((steps m M (k + 1)).piv = s.piv ++ [k]) := by
                              show (DLin.step m (steps m M k) k).piv = _
                              rw [← HS.out, hE]
                            have hpl : (s.piv.length + 1) * 8 ≤ 140737488355328 := by omega
                            clear hE hym hy HT
                            go_wp2_with (at_builtin; refine append_oneC IsI64 w _ rfl _ _ 30 rfl 3 (.int .i64 0) 1 8 Tryz.underlying30 info_int rfl (by omega) (fun u hu => ⟨0, by simpa [Value.cells] using hu⟩) _ _ _ rfl HP.out _ _ _ rfl rfl (by simp [Value.oneCell']) (fun u hu => ⟨k, by simpa using hu⟩) (by omega) (by omega) HX.out ?_; intro v7 w7 ho7 hx7 hk7; have HTG := Hid.mk (HTF.out.heap (fun b cs hb => hk7 b (hb.elim Blk.lt Blk.lt) (hb.elim (fun h => HP.out.type h (by decide)) (fun h => HP.out.type h (by decide))))).retop; have HPG := Hid.mk ho7; have HXG := Hid.mk hx7; clear ho7 hx7 hk7)
                            go_roundw
                            case rel =>
                              refine ⟨k + 1, by go_num, by omega, by rw [HST1.out]; exact HTG.out, ?_, HXG.out⟩
                              rw [HST2.out]
                              have e1 : (s.piv ++ [k]).length = s.piv.length + 1 := by simp
                              have e2 : pivs (s.piv ++ [k]) = pivs s.piv ++ [.int .i64 (k : Int)] := by simp [pivs, nums]
                              rw [e1, e2]; exact HPG.out
                            case measure => simp [intOf]; omega
              · have him' : i = m := by omega
                have hib : ((i : Int) == (m : Int)) = true := by rw [him']; simp
                have hi' : ¬ (i : Int) < (m : Int) := by omega
                have HST : Hid (steps m M (k + 1) = s) := by
                  have hf := findRow_none_of (M := s.M) (k := k) (d := m - s.piv.length) (i := s.piv.length) (fun t h1 h2 => HZS.out t h1 (by omega))
                  have e := step_none hf
                  show steps m M (k + 1) = s
                  rw [← e, HS.out]; rfl
                have HXF := Hid.mk (HX.out.trans HXo.out)
                clear hi him him' hri
                go_wp2_with fail
                go_roundw
                case rel => exact ⟨k + 1, by go_num, by omega, by rw [HST.out]; exact HT.out.retop, by rw [HST.out]; exact HP.out, HXF.out⟩
                case measure => simp [intOf]; omega
          · obtain rfl : k = c := by omega
            have hkk : ¬ (k : Int) < (k : Int) := by omega
            have hl1 : (s.piv.length : Int) ≤ (cap : Int) := by omega
            have hl0 : (0 : Int) ≤ (s.piv.length : Int) := by omega
            go_wp2_with fail
            refine (ref_columns _ _ m k M (H.out.x HX.out) (by omega) k (by rw [if_neg (by omega)])).mono ?_
            rintro e w1 ⟨⟨v1, rfl, rfl⟩, hx1⟩
            have HM := Hid.mk ((HT.out.x hx1).read (p := s.piv.length) (cap := cap) hS3 (by omega))
            have HPV := Hid.mk (PivR.own (HP.out.x hx1))
            have HXF := Hid.mk (HX.out.trans hx1)
            clear hx1 hk
            go_wp2_with fail
            go_ret2
            refine ⟨⟨_, rfl, _, _, rfl, ?_, ?_⟩, HXF.out⟩
            · rw [← HS.out]; exact HM.out
            · rw [← HS.out]; exact HPV.out
end Go.Proofs.YtogakaiibijjpaaGreatDoor

/- The reference's Reduce of a table without rows or without columns. -/
set_option linter.unusedVariables false
set_option linter.unusedSimpArgs false
namespace Go.Proofs.YtogakaiibijjpaaGreatDoor
open Go.RowKit
open DDig DLin

theorem MatF.none {w : World} {v : Value} {m c : Nat} {M N : Nat → Nat → Rat} (h : MatF w v m c M) (h0 : m = 0) : MatF w v 0 c N := by
  subst h0
  obtain ⟨A, k, rfl, h1, h2, h3⟩ := h
  exact ⟨A, k, rfl, h1, h2, fun h => absurd h (by omega)⟩

theorem steps_none {m c : Nat} (M : Mat) (h : m = 0 ∨ c = 0) : (steps m M c).piv = [] := by
  rcases h with h | h
  · have := (inv_steps m M c).len
    rw [h] at this ⊢
    exact List.eq_nil_of_length_eq_zero (by omega)
  · subst h; rfl

theorem append_none {P : Program} (w : World) {ops : Array Oper} {rest : List Oper} {o : Oper} {a : Act} {Q : Exit → Act → World → Prop} (hgd : o.guard = none) (s x : Operand) (t : TypeId)
    (ho : o.op = .call { callee := .builtin .append, args := #[s, x], argTypes := #[t, t] })
    (base : Nat) (e : TypeId) (z : Value) (size bytes : Nat) (ht : P.underlying t = some (.slice e)) (h2 : (P.info? e).map (fun i => (i.zero, i.size, i.bytes)) = some (some z, size, bytes)) (hzs : z.cells.size = size) (hsz : 0 < size)
    (v : Value) (hs : a.eval s = v) (hown : w.ownsRow base e size v 0 []) (B : Option Addr) (d : Nat) (hx : a.eval x = .slice B 0 d) (hB : B = none → d = 0) (hbase : base ≤ w.heap.size)
    (h : ∀ v' w', IsSl v' → w.grownBy w' v.ownBlock → wpList P ops Q rest (a.put o.dst v') w') : wpList P ops Q (o :: rest) a w := by
  have hv : ∀ {v w'} , World.ownsRow w' base e size v 0 [] → IsSl v := by
    intro v w' h
    rcases own_parts h with ⟨h1, -⟩ | ⟨g, cap, sp, h1, -⟩
    · exact ⟨_, _, _, h1⟩
    · exact ⟨_, _, _, h1⟩
  cases B with
  | none =>
    obtain rfl := hB rfl
    obtain ⟨i, hi, e1, e2, e3⟩ := info_parts h2
    exact wpList_append_own_none hgd s x t ho base e i size ht hi v 0 [] hs hown hx (h _ _ (hv hown) (World.grownBy.refl _ _))
  | some ad => exact append_own w hgd s x t ho base e z size bytes ht h2 hzs hsz v 0 [] hs hown ad 0 d [] hx (by simp) (by simp) (by simp) (by simp) (by simp) hbase (fun v' w' k1 k2 => h v' w' (hv k1) k2)

set_option maxRecDepth 100000 in
set_option maxHeartbeats 4000000 in
theorem ref_reduce0 (w : World) (v : Value) (m c : Nat) (M : Mat) (h : MatF w v m c M) (hm : m ≤ 256) (h0 : m = 0 ∨ c = 0) (N : Mat) :
    Calls Tryz.prog 17 #[v] w (Ret w fun w' v' => ∃ R P, v' = .tuple #[R, P] ∧ MatF w' R 0 c N ∧ PivR w' P []) := by
  have H := Hid.mk h
  have H0 := Hid.mk h0
  obtain ⟨A0, d0, rfl, p1, p2, p3⟩ := id h
  have HA := Hid.mk p3
  clear h h0 p1 p2 p3
  go_enter Tryz.func17, Tryz.ntmps17
  go_wp2_with fail
  go_loopw [4, 5] (fun t4 t5 wr => ∃ (i : Nat) (us : List Value), i ≤ m ∧ t5 = .int .i64 i ∧ OwnC IsSl wr w.heap.size 51 1 t4 i us ∧ X w wr) (fun _ t _ => m - (intOf t).toNat)
  case atStart => exact ⟨0, [], Nat.zero_le _, rfl, OwnC.nil _ _ _ _ _, X.refl _⟩
  case round =>
    obtain ⟨i, us, hi, rfl, ho, hx⟩ := hrel
    have HO := Hid.mk ho
    have HX := Hid.mk hx
    clear ho hx
    by_cases him : i < m
    · have him' : (i : Int) < (m : Int) := by omega
      obtain ⟨b0, o0, rfl, gg⟩ := HA.out (by omega)
      obtain ⟨u, e0, hs⟩ := gg i him
      have hc0 : c = 0 := by have := H0.out; omega
      subst hc0
      obtain ⟨B, d, rfl, q1, q2, q3⟩ := hs
      have HB : Hid (B = none → d = 0) := fun h => (q2 h).2
      have e0' : (wr.alloc (.cells #[] 84)).cell? ⟨b0, o0 + i, none⟩ = some (.slice B 0 d) := (HX.out.alloc _).cell e0
      clear gg q1 q2 q3 e0
      go_wp2_with (first
        | (at_builtin; refine append_none _ rfl _ _ 51 rfl wr.heap.size 84 (.agg #[.string ⟨#[]⟩, .string ⟨#[]⟩]) 2 32 Tryz.underlying51 info_F rfl (by omega) (.slice (some ⟨wr.heap.size, 0, none⟩) 0 0) rfl (World.ownsRow_made wr #[] 0 (Nat.le_refl _) (by simp) rfl) B d rfl HB.out (by simp) ?_; intro v1 w1 hv1 hg1; obtain ⟨A1, n1, c1, rfl⟩ := hv1; have HX1 := Hid.mk (((X.refl wr).alloc _).grown hg1 (fun k hk => by injection hk with hk; subst hk; exact Nat.le_refl _)); clear hg1; have HOx := Hid.mk (HO.out.x HX1.out); have HXx := Hid.mk (HX.out.trans HX1.out))
        | (at_builtin; refine append_oneC IsSl w w1 rfl (.tmp 21) (.tmp 28) 26 rfl 51 (.slice none 0 0) 1 24 Tryz.underlying26 info_sF rfl (by omega) (fun u hu => ⟨none, 0, 0, by simpa [Value.cells] using hu⟩) u4 i us rfl HOx.out _ _ _ rfl rfl (by simp [Value.oneCell']) (fun u hu => ⟨_, _, _, by simpa using hu⟩) (by omega) (by omega) HXx.out ?_; intro v2 w2 ho2 hx2 hk2; have HO2 := Hid.mk ho2; have HX2 := Hid.mk hx2; clear ho2 hx2 hk2))
      go_roundw
      case rel => exact ⟨i + 1, us ++ [.slice A1 n1 c1], by omega, by go_num, HO2.out, HX2.out⟩
      case measure => simp [intOf]; omega
    · have hmi : m = i := by omega
      subst hmi
      clear hi him
      go_wp2_with fail
      go_loopw [6, 7] (fun t6 t7 wr' => t6 = .slice none 0 0 ∧ t7 = .int .i64 0 ∧ X wr wr') (fun _ _ _ => 0)
      case atStart => exact ⟨rfl, rfl, X.refl _⟩
      case round =>
        obtain ⟨rfl, rfl, hx⟩ := hrel
        have HXo := Hid.mk hx
        clear hx
        go_wp2_with fail
        refine (ref_columns _ _ m c M (H.out.x (HX.out.trans HXo.out)) (by omega) 0 (by have := H0.out; split <;> omega)).mono ?_
        rintro e w1 ⟨⟨v1, rfl, rfl⟩, hx1⟩
        have HXF := Hid.mk ((HX.out.trans HXo.out).trans hx1)
        clear hx1
        have hsl : ∃ A cap, u4 = .slice A m cap ∧ m ≤ cap ∧ (A = none → m = 0 ∧ cap = 0) := by
          rcases own_parts HO.out.1 with ⟨e, e2⟩ | ⟨g, cap, sp, e, -, -, e2, -, -⟩
          · exact ⟨none, 0, by rw [e, e2], by omega, fun _ => ⟨e2, rfl⟩⟩
          · exact ⟨_, _, e, e2, fun h => by simp at h⟩
        obtain ⟨A, cap, rfl, hcap, hA⟩ := hsl
        have HAA := Hid.mk hA
        clear hA
        have hl0 : (0 : Int) ≤ (cap : Int) := by omega
        go_wp2_with fail
        go_ret2
        refine ⟨⟨_, rfl, _, _, rfl, ⟨A, cap, rfl, by omega, fun h => ⟨rfl, (HAA.out h).2⟩, fun h => absurd h (by omega)⟩, none, 0, rfl, by simp, Rd.nil _ _ _, fun _ => ⟨rfl, rfl⟩⟩, HXF.out⟩
end Go.Proofs.YtogakaiibijjpaaGreatDoor

/- The reference's Reduce, of any table. -/
set_option linter.unusedVariables false
set_option linter.unusedSimpArgs false
namespace Go.Proofs.YtogakaiibijjpaaGreatDoor
open Go.RowKit
open DDig DLin

theorem ref_reduce (w : World) (v : Value) (m c : Nat) (M : Mat) (h : MatF w v m c M) (hm : m ≤ 256) (hc : c ≤ 1000) (b : Nat) (hb : 0 < b) (hs : TSz M m c b) (hsz : 5 ^ (m + 1) * b ≤ 10000000000) :
    Calls Tryz.prog 17 #[v] w (Ret w fun w' v' => ∃ R P, v' = .tuple #[R, P] ∧ MatF w' R (steps m M c).piv.length c (steps m M c).M ∧ PivR w' P (steps m M c).piv) := by
  by_cases h0 : m = 0 ∨ c = 0
  · rw [steps_none M h0]
    exact ref_reduce0 w v m c M h hm h0 _
  · exact ref_reduce1 w v m c M h hm hc (by omega) (by omega) b hb hs hsz
end Go.Proofs.YtogakaiibijjpaaGreatDoor

/- The reference: Kernel. -/
set_option linter.unusedVariables false
set_option linter.unusedSimpArgs false
namespace Go.Proofs.YtogakaiibijjpaaGreatDoor
open Go.RowKit
open DDig DLin

/-- A row of the kernel before its own one is set. -/
def kerq (s : St) (f j : Nat) : Rat := if j ∈ s.piv then - s.M (s.piv.idxOf j) f else 0
theorem kerq_v (s : St) (f j : Nat) : (if j = f then (1 : Rat) else kerq s f j) = kerv s f j := rfl

set_option maxRecDepth 100000 in
set_option maxHeartbeats 8000000 in
theorem ref_kernel (w : World) (v : Value) (m n : Nat) (M : Mat) (h : MatF w v m n M) (hm : m ≤ 256) (hn : n ≤ 1000) (b : Nat) (hb : 0 < b) (hs : TSz M m n b) (hsz : 5 ^ (m + 1) * b ≤ 10000000000) :
    Calls Tryz.prog 21 #[v, .int .i64 n] w (Ret w fun w' R => MatF w' R (frees (steps m M n).piv n).length n (fun i => kerv (steps m M n) ((frees (steps m M n).piv n).getD i 0))) := by
  have H := Hid.mk h
  have HS := Hid.mk hs
  have HSZ := Hid.mk (steps_size hb hs)
  have HI := Hid.mk (inv_steps m M n)
  obtain ⟨A0, c0, rfl, p1, p2, p3⟩ := id h
  clear h hs p1 p2 p3
  go_enter Tryz.func21, Tryz.ntmps21
  go_wp2_with fail
  refine (ref_reduce _ _ m n M H.out hm hn b hb HS.out hsz).mono ?_
  rintro e w3 ⟨⟨v3, rfl, R, P, rfl, hR, hP⟩, hx3⟩
  obtain ⟨A, pc, rfl, h1, h2, h3⟩ := id hP
  obtain ⟨B, rc, rfl, g1, g2, g3⟩ := id hR
  have HPR := Hid.mk hP
  have HR := Hid.mk hR
  have HX := Hid.mk hx3
  have hsz2 := HSZ.out n (Nat.le_refl _)
  obtain ⟨s, hs⟩ : ∃ s, s = steps m M n := ⟨_, rfl⟩
  have HI2 : Hid (Inv m M s n) := by rw [hs]; exact HI.out
  rw [← hs] at HPR HR hsz2 ⊢
  have HSX := Hid.mk hs
  have HTS := Hid.mk hsz2.1
  have hpm := hsz2.2.2
  obtain ⟨K, hK⟩ : ∃ K, K = 5 ^ s.piv.length * b := ⟨_, rfl⟩
  have hKle : K ≤ 10000000000 := by
    have h1 : 5 ^ s.piv.length ≤ 5 ^ (m + 1) := Nat.pow_le_pow_right (by omega) (by omega)
    have h2 := Nat.mul_le_mul_right b h1
    omega
  rw [← hK] at HTS
  clear hs hx3 hR hP h2 h3 h1 g1 g2 g3 HI hsz2 hK HSZ
  go_wp2_with fail
  go_loopw [7, 8] (fun t7 t8 wr => ∃ (f : Nat) (us : List Value), f ≤ n ∧ t8 = .int .i64 f ∧ OwnC IsSl wr w3.heap.size 51 1 t7 (frees s.piv f).length us ∧ us.length = (frees s.piv f).length ∧ (∀ i u, us[i]? = some u → SlF wr u n (kerv s ((frees s.piv f).getD i 0))) ∧ X w3 wr) (fun _ t _ => n - (intOf t).toNat)
  case atStart => exact ⟨0, [], Nat.zero_le _, rfl, OwnC.nil _ _ _ _ _, rfl, by simp, X.refl _⟩
  case round =>
    obtain ⟨f, us, hf, rfl, ho, hl, hu, hx⟩ := hrel
    have HO := Hid.mk ho
    have HU := Hid.mk hu
    have HX4 := Hid.mk hx
    clear ho hu hx
    by_cases hfn : f < n
    · have hfn' : (f : Int) < (n : Int) := by omega
      go_wp2_with fail
      by_cases hmem : f ∈ s.piv
      · refine (ref_at _ _ s.piv f (HPR.out.x HX4.out) (by omega)).mono ?_
        rintro e w5 ⟨⟨v5, rfl, rfl⟩, hx5⟩
        have hat : atv s.piv f = (s.piv.idxOf f : Nat) := by unfold atv; rw [if_pos hmem]
        rw [hat]
        have hge : (0 : Int) ≤ ((s.piv.idxOf f : Nat) : Int) := by omega
        obtain ⟨i0, hi0⟩ : ∃ i0, i0 = s.piv.idxOf f := ⟨_, rfl⟩
        rw [← hi0] at hge ⊢
        have hfe := frees_succ_in hmem
        replace HX4 := Hid.mk (HX4.out.trans hx5)
        replace HO := Hid.mk (HO.out.x hx5)
        replace HU := Hid.mk (fun i u hi => (HU.out i u hi).x hx5)
        rw [← hfe] at HO HU hl
        clear hx5 hmem hfe hat hi0
        go_wp2_with fail
        go_roundw
        case rel => exact ⟨f + 1, us, by omega, by go_num, HO.out, hl, HU.out, HX4.out⟩
        case measure => simp [intOf]; omega
      · refine (ref_at _ _ s.piv f (HPR.out.x HX4.out) (by omega)).mono ?_
        rintro e w5 ⟨⟨v5, rfl, rfl⟩, hx5⟩
        have hat : atv s.piv f = -1 := by unfold atv; rw [if_neg hmem]
        rw [hat]
        replace HX4 := Hid.mk (HX4.out.trans hx5)
        replace HO := Hid.mk (HO.out.x hx5)
        replace HU := Hid.mk (fun i u hi => (HU.out i u hi).x hx5)
        clear hx5 hat
        have HMEM := Hid.mk hmem
        clear hmem
        go_wp2_with (at_make; refine make_blkz _ rfl _ _ 51 rfl 84 (.agg #[.string ⟨#[]⟩, .string ⟨#[]⟩]) 2 32 Tryz.underlying51 info_F rfl .i64 .i64 _ _ n rfl rfl rfl rfl (by omega) (by omega) ?_; intro w6 cs hb1 hb2 hb3 hb4 hx6; have HF := Hid.mk (FFil.start (kerq s f) hb1 hb2); have HX6 := Hid.mk hx6; clear hb1 hb2 hb3 hb4 hx6)
        obtain ⟨g, hg⟩ : ∃ g, g = w5.heap.size := ⟨_, rfl⟩
        rw [← hg] at HF ⊢
        have HG := Hid.mk hg
        clear hg
        go_loopw [10] (fun t10 wr => ∃ k : Nat, k ≤ n ∧ t10 = .int .i64 k ∧ FFil wr g n k (kerq s f) ∧ X w5 wr) (fun t _ => n - (intOf t).toNat)
        case atStart => exact ⟨0, Nat.zero_le _, rfl, HF.out, HX6.out⟩
        case round =>
          clear HF HX6
          obtain ⟨k, hk, rfl, hF, hx⟩ := hrel
          have HF := Hid.mk hF
          have HX5 := Hid.mk hx
          clear hF hx
          by_cases hkn : k < n
          · have hkn' : (k : Int) < (n : Int) := by omega
            obtain ⟨v0, v1, c0, c1, f0, f1⟩ := HF.out.cells hkn
            have HF1 := Hid.mk ((HF.out.congr (e := fun t => if t = k then 0 else kerq s f t) (fun j hj => by
              have : j ≠ k := by omega
              simp [this])).put hkn (r := ⟨⟨#[48]⟩, ⟨#[49]⟩⟩) (by simpa using fzero))
            have HX6 := Hid.mk (HX5.out.put2at (g := g) (by rw [HG.out]; exact Nat.le_refl _) (k * 2) ⟨⟨#[48]⟩, ⟨#[49]⟩⟩)
            clear HF
            go_wp2_with fail
            refine (ref_at _ _ s.piv k (HPR.out.x (HX4.out.trans HX6.out)) (by omega)).mono ?_
            rintro e w7 ⟨⟨v7, rfl, rfl⟩, hx7⟩
            have HF2 := Hid.mk (HF1.out.x hx7)
            have HX7 := Hid.mk (HX6.out.trans hx7)
            clear HF1 HX6 hx7 c0 c1 f0 f1
            by_cases hmem : k ∈ s.piv
            · have hil := List.idxOf_lt_length_iff.2 hmem
              have hat : atv s.piv k = (s.piv.idxOf k : Nat) := by unfold atv; rw [if_pos hmem]
              have hq : kerq s f k = - s.M (s.piv.idxOf k) f := by unfold kerq; rw [if_pos hmem]
              obtain ⟨i, hi⟩ : ∃ i, i = s.piv.idxOf k := ⟨_, rfl⟩
              rw [← hi] at hil hat hq
              rw [hat]
              have HQ := Hid.mk hq
              have hge : (0 : Int) ≤ (i : Int) := by omega
              have him : i < m := by omega
              have hil' : (i : Int) < (s.piv.length : Int) := by omega
              obtain ⟨b1, o1, d1, b2, o2, a, rfl, c0, e0, e1, ha⟩ := (HR.out.x (HX4.out.trans HX7.out)).elem hil hfn
              have HA := Hid.mk ha
              clear hmem hat hq hi ha
              go_wp2_with fail
              refine (ref_fneg _ a (s.M i f) HA.out K (HTS.out i him f hfn) (by omega)).mono ?_
              rintro e w8 ⟨⟨v8, rfl, r, rfl, hr⟩, hx8⟩
              have F3 := HF2.out.x hx8
              obtain ⟨v0, v1, k0, k1, f0, f1⟩ := F3.cells hkn
              have HF3 := Hid.mk ((F3.upd (k := k) (by omega) hr).congr (e := kerq s f) (fun j hj => by
                by_cases e : j = k
                · simp [e, HQ.out]
                · simp [e]))
              have HX8 := Hid.mk ((HX7.out.trans hx8).put2at (g := g) (by rw [HG.out]; exact Nat.le_refl _) (k * 2) r)
              clear F3 hr hx8 c0 e0 e1
              go_wp2_with fail
              go_roundw
              case rel => exact ⟨k + 1, by omega, by go_num, HF3.out, HX8.out⟩
              case measure => simp [intOf]; omega
            · have hat : atv s.piv k = -1 := by unfold atv; rw [if_neg hmem]
              rw [hat]
              have HF3 := Hid.mk (HF2.out.congr (e := kerq s f) (fun j hj => by
                by_cases e : j = k
                · have : kerq s f k = 0 := by unfold kerq; rw [if_neg hmem]
                  simp [e, this]
                · simp [e]))
              clear hat hmem
              go_wp2_with fail
              go_roundw
              case rel => exact ⟨k + 1, by omega, by go_num, HF3.out, HX7.out⟩
              case measure => simp [intOf]; omega
          · obtain rfl : k = n := by omega
            have hkn' : ¬ (k : Int) < (k : Int) := by omega
            obtain ⟨v0, v1, c0, c1, f0, f1⟩ := HF.out.cells hfn
            have HF1 := Hid.mk ((HF.out.upd hfn fone).congr (e := kerv s f) (fun j hj => kerq_v s f j))
            have hx9 := HX5.out.put2at (g := g) (by rw [HG.out]; exact Nat.le_refl _) (f * 2) ⟨⟨#[49]⟩, ⟨#[49]⟩⟩
            have HRow : Hid (SlF (put2at wr g (f * 2) ⟨⟨#[49]⟩, ⟨#[49]⟩⟩) (.slice (some ⟨g, 0, none⟩) k k) k (kerv s f)) := ⟨_, k, rfl, Nat.le_refl _, by simp, HF1.out.row⟩
            have HO2 := Hid.mk (HO.out.x hx9)
            have HU2 := Hid.mk (fun i u hi => (HU.out i u hi).x hx9)
            have HX9 := Hid.mk (HX4.out.trans hx9)
            have hfl := frees_le s.piv f
            have hlb : ((frees s.piv f).length + 1) * 24 ≤ 140737488355328 := by omega
            obtain ⟨W, hW⟩ : ∃ W, W = (wr.setCell ⟨g, f * 2, none⟩ (.string ⟨#[49]⟩)).setCell ⟨g, f * 2 + 1, none⟩ (.string ⟨#[49]⟩) := ⟨_, rfl⟩
            have HRow3 : Hid (SlF W (.slice (some ⟨g, 0, none⟩) k k) k (kerv s f)) := by rw [hW]; exact HRow
            have HO3 : Hid (OwnC IsSl W w3.heap.size 51 1 u7 (frees s.piv f).length us) := by rw [hW]; exact HO2
            have HU3 : Hid (∀ i u, us[i]? = some u → SlF W u k (kerv s ((frees s.piv f).getD i 0))) := by rw [hW]; exact HU2
            have HX3 : Hid (X w3 W) := by rw [hW]; exact HX9
            clear hkn hk hx9 HF HRow HO2 HU2 HX9
            go_upto_region 16 with (fail)
            rw [← hW]
            clear hW
            go_wp2_with (at_builtin; refine append_oneC IsSl w3 _ rfl _ _ 26 rfl 51 (.slice none 0 0) 1 24 Tryz.underlying26 info_sF rfl (by omega) (fun u hu => ⟨none, 0, 0, by simpa [Value.cells] using hu⟩) _ _ _ rfl HO3.out _ _ _ rfl rfl (by simp [Value.oneCell']) (fun u hu => ⟨_, _, _, by simpa using hu⟩) (by omega) (by omega) HX3.out ?_; intro v9 w9 ho9 hx9 hk9; have HO9 := Hid.mk ho9; have HXa := Hid.mk hx9; have HU9 := Hid.mk (fun i u hi => (HU3.out i u hi).kApp HO3.out hk9); have HR9 := Hid.mk (HRow3.out.kApp HO3.out hk9); clear ho9 hx9 hk9)
            go_roundw
            case rel =>
              have hfe := frees_succ_out HMEM.out
              have hle : (frees s.piv (f + 1)).length = (frees s.piv f).length + 1 := by rw [hfe]; simp
              refine ⟨f + 1, us ++ [.slice (some ⟨g, 0, none⟩) k k], by omega, by go_num, by rw [hle]; exact HO9.out, by rw [hle]; simp [hl], fun t u ht => ?_, HXa.out⟩
              rw [hfe]
              by_cases e : t = us.length
              · rw [List.getElem?_append_right (by omega), e] at ht
                simp at ht
                subst ht
                have : (frees s.piv f ++ [f]).getD t 0 = f := by
                  rw [e, hl, List.getD_eq_getElem?_getD, List.getElem?_append_right (Nat.le_refl _)]
                  simp
                rw [this]; exact HR9.out
              · have hil2 : t < us.length := by
                  have := (List.getElem?_eq_some_iff.1 ht).1
                  simp at this
                  omega
                rw [List.getElem?_append_left hil2] at ht
                have : (frees s.piv f ++ [f]).getD t 0 = (frees s.piv f).getD t 0 := by
                  rw [List.getD_eq_getElem?_getD, List.getD_eq_getElem?_getD, List.getElem?_append_left (by omega)]
                rw [this]
                exact HU9.out t u ht
            case measure => simp [intOf]; omega
    · obtain rfl : f = n := by omega
      have HF := Hid.mk (SlM.own (S := SlF) (M := fun i => kerv s ((frees s.piv f).getD i 0)) (c := f) HO.out.1 hl HU.out)
      have HXF := Hid.mk (HX.out.trans HX4.out)
      have hfn' : ¬ (f : Int) < (f : Int) := by omega
      clear hfn hf
      go_wp2_with fail
      go_ret
      refine ⟨⟨_, rfl, ?_⟩, HXF.out⟩
      rw [← HSX.out]; exact HF.out
end Go.Proofs.YtogakaiibijjpaaGreatDoor

/- Texts of digits: what the library answers of them; rational.digits. -/
set_option linter.unusedVariables false
set_option linter.unusedSimpArgs false
namespace Go.Proofs.YtogakaiibijjpaaGreatDoor
open Go.RowKit
open DDig

/-- Digits and nothing else; the number of a text of digits, the highest first. -/
def AllD (l : List UInt8) : Prop := ∀ b ∈ l, 48 ≤ b.toNat ∧ b.toNat ≤ 57
def bstep (a : Nat) (c : UInt8) : Nat := a * 10 + (c.toNat - 48)
def bval (acc : Nat) (l : List UInt8) : Nat := l.foldl bstep acc
theorem bstep_eq (a : Nat) (c : UInt8) : bstep a c = a * 10 + (c.toNat - 48) := by unfold bstep; rfl
theorem bval_nil (a : Nat) : bval a [] = a := by unfold bval; rw [List.foldl_nil]
theorem bval_cons (a : Nat) (c : UInt8) (r : List UInt8) : bval a (c :: r) = bval (a * 10 + (c.toNat - 48)) r := by
  unfold bval; rw [List.foldl_cons, bstep_eq]
theorem bval_append (a : Nat) (p r : List UInt8) : bval a (p ++ r) = bval (bval a p) r := by
  unfold bval; rw [List.foldl_append]
theorem bval_shift (a : Nat) (r : List UInt8) : bval a r = a * 10 ^ r.length + bval 0 r := by
  induction r generalizing a with
  | nil =>
    have e1 : ∀ a, bval a [] = a := fun a => bval_nil a
    rw [e1, e1, List.length_nil, Nat.pow_zero, Nat.mul_one, Nat.add_zero]
  | cons c r ih =>
    have e1 := bval_cons a c r
    have e2 := bval_cons 0 c r
    rw [e1, e2, ih (a * 10 + (c.toNat - 48)), ih (0 * 10 + (c.toNat - 48)), List.length_cons, Nat.pow_succ]
    obtain ⟨q, hq⟩ : ∃ q, q = 10 ^ r.length := ⟨_, rfl⟩
    rw [← hq, Nat.add_mul, Nat.zero_mul, Nat.zero_add, Nat.mul_assoc, Nat.mul_comm q 10, Nat.add_assoc]
theorem parseUintM_step (M acc : Nat) (c : UInt8) (r : List UInt8) (hc : 48 ≤ c.toNat ∧ c.toNat ≤ 57) (s1 : ¬ 1844674407370955162 ≤ acc) (s2 : ¬ M < acc * 10 + (c.toNat - 48)) : Lib.parseUintM M acc (c :: r) = Lib.parseUintM M (acc * 10 + (c.toNat - 48)) r := by
  conv => lhs; unfold Lib.parseUintM
  simp only [hc, s1, s2, and_self, if_true, if_false]
theorem parseUintM_ok (M K : Nat) (hM : K ≤ M) (hK : K < 1844674407370955162) (l : List UInt8) : ∀ acc : Nat, AllD l → (acc + 1) * 10 ^ l.length ≤ K → Lib.parseUintM M acc l = .ok (bval acc l) := by
  induction l with
  | nil => intro acc _ _; rw [bval_nil]; rfl
  | cons c r ih =>
    intro acc h hb
    have hc := h c (by simp)
    obtain ⟨q, hq⟩ : ∃ q, q = 10 ^ r.length := ⟨_, rfl⟩
    have h2 : 0 < q := by rw [hq]; exact Nat.pow_pos (by omega)
    rw [List.length_cons, Nat.pow_succ, Nat.mul_comm (10 ^ r.length) 10, ← Nat.mul_assoc, ← hq] at hb
    have h1 : (acc * 10 + (c.toNat - 48) + 1) * q ≤ K := Nat.le_trans (Nat.mul_le_mul_right q (show acc * 10 + (c.toNat - 48) + 1 ≤ (acc + 1) * 10 by omega)) hb
    have h3 : acc * 10 + (c.toNat - 48) + 1 ≤ K := Nat.le_trans (Nat.le_mul_of_pos_right _ h2) h1
    have e := ih (acc * 10 + (c.toNat - 48)) (fun b hb => h b (by simp [hb])) (by rw [← hq]; exact h1)
    rw [parseUintM_step M acc c r hc (by omega) (by omega), e, bval_cons]
theorem parseUint_ok (l : List UInt8) (h : AllD l) (hl : l.length ≤ 9) (hne : l ≠ []) : Lib.parseUintB 32 l = .ok (bval 0 l) := by
  rw [Lib.parseUintB, if_neg hne]
  refine parseUintM_ok _ 1000000000 (by decide) (by decide) l 0 h ?_
  have : 10 ^ l.length ≤ 10 ^ 9 := Nat.pow_le_pow_right (by omega) hl
  omega
theorem bval_lt (l : List UInt8) (h : AllD l) : bval 0 l < 10 ^ l.length := by
  induction l with
  | nil =>
    have e1 : bval 0 [] = 0 := bval_nil 0
    rw [e1, List.length_nil, Nat.pow_zero]; omega
  | cons c r ih =>
    have hc := h c (by simp)
    have h1 := ih (fun b hb => h b (by simp [hb]))
    have e2 := bval_cons 0 c r
    rw [e2, bval_shift, List.length_cons, Nat.pow_succ]
    obtain ⟨q, hq⟩ : ∃ q, q = 10 ^ r.length := ⟨_, rfl⟩
    rw [← hq] at h1 ⊢
    have : (0 * 10 + (c.toNat - 48)) * q ≤ 9 * q := Nat.mul_le_mul_right _ (by omega)
    omega
theorem bval_digits {xs : List Int} (h : Dig 10 xs) : (bval 0 (xs.reverse.map dby) : Int) = val 10 xs := by
  induction xs with
  | nil => rw [List.reverse_nil, List.map_nil, bval_nil]; rfl
  | cons d xs ih =>
    have hd := h.head
    rw [List.reverse_cons, List.map_append, bval_append, List.map_cons, List.map_nil, bval_cons, bval_nil, val_cons, ← ih h.tail]
    have := dby_nat hd
    omega
theorem AllD.digits {xs : List Int} (h : Dig 10 xs) : AllD (xs.reverse.map dby) := by
  intro b hb
  simp only [List.mem_map, List.mem_reverse] at hb
  obtain ⟨d, hd, rfl⟩ := hb
  have := dby_nat (h d hd)
  have := h d hd
  omega
theorem dropWhile_all {p : UInt8 → Bool} {l : List UInt8} (h : ∀ b ∈ l, p b = true) : l.dropWhile p = [] := by
  induction l with
  | nil => rfl
  | cons c r ih =>
    rw [List.dropWhile_cons, if_pos (h c (by simp))]
    exact ih (fun b hb => h b (by simp [hb]))
theorem trimS_digits {l : List UInt8} (h : AllD l) : Lib.trimS l [48, 49, 50, 51, 52, 53, 54, 55, 56, 57] = [] := by
  have hc : ∀ b ∈ l, ([48, 49, 50, 51, 52, 53, 54, 55, 56, 57] : List UInt8).contains b = true := by
    intro b hb
    have hb' := h b hb
    have e : b = UInt8.ofNat b.toNat := by simp
    have : b.toNat = 48 ∨ b.toNat = 49 ∨ b.toNat = 50 ∨ b.toNat = 51 ∨ b.toNat = 52 ∨ b.toNat = 53 ∨ b.toNat = 54 ∨ b.toNat = 55 ∨ b.toNat = 56 ∨ b.toNat = 57 := by omega
    rcases this with h | h | h | h | h | h | h | h | h | h <;> (rw [e, h]; rfl)
  have : Lib.trimRightS l [48, 49, 50, 51, 52, 53, 54, 55, 56, 57] = [] := by
    unfold Lib.trimRightS
    rw [List.reverse_eq_nil_iff]
    exact dropWhile_all (fun b hb => hc b (by simpa using hb))
  rw [Lib.trimS, this]
  rfl
theorem idxFunc_digits {s : ByteArray} (h : AllD s.data.toList) : Lib.idxFunc (fun r => decide (r < 48 ∨ 57 < r)) true s = -1 := by
  have key : ∀ f pos, Lib.idxFuncFrom (fun r => decide (r < 48 ∨ 57 < r)) true s f pos = -1 := by
    intro f
    induction f with
    | zero => intro pos; rfl
    | succ f ih =>
      intro pos
      unfold Lib.idxFuncFrom
      by_cases hp : pos < s.size
      · have hb : 48 ≤ (s[pos]'hp).toNat ∧ (s[pos]'hp).toNat ≤ 57 := h _ (by
          rw [ByteArray.getElem_eq_getElem_data]
          exact Array.getElem_mem_toList _)
        rw [if_pos hp, decode_ascii s pos hp (by omega)]
        rw [if_neg (by simp; omega)]
        exact ih _
      · rw [if_neg hp]
  exact key _ _

theorem h170 : (Tryz.prog.info? 190).map (fun i => (i.zero, i.size)) = some (some (.agg (Array.replicate 256 (.bool false))), 256) := by kernel_rfl
theorem trim_digits (w : World) (s : ByteArray) (hs : s.size ≤ 9223372036854775807) (h : AllD s.data.toList) :
    Calls Tryz.prog 128 #[.string s, .string ⟨#[48, 49, 50, 51, 52, 53, 54, 55, 56, 57]⟩] w (Ret w fun w' v => v = .string ⟨#[]⟩) := by
  refine (Any.strings_Trim_laid Tryz.lays160 h170 s ⟨#[48, 49, 50, 51, 52, 53, 54, 55, 56, 57]⟩ w hs (by decide) (ascii_of_all (by decide))).mono ?_
  rintro e w' ⟨rfl, hx⟩
  refine ⟨⟨_, rfl, ?_⟩, hx⟩
  show Value.string ⟨(Lib.trimS s.data.toList [48, 49, 50, 51, 52, 53, 54, 55, 56, 57]).toArray⟩ = _
  rw [trimS_digits h]

theorem rat_digits (w : World) (s : ByteArray) (hs : s.size ≤ 9223372036854775807) (h0 : s.size ≠ 0) (h : AllD s.data.toList) :
    Calls Tryz.prog 126 #[.string s] w (Ret w fun w' v => v = .bool true) := by
  have H := Hid.mk h
  have hne : ¬ s.toList = [] := by
    rw [ByteArray.toList_eq]
    intro e
    apply h0
    have : s.data.toList.length = 0 := by rw [e]; rfl
    simpa using this
  have hne1 : (s.toList == []) = false := by simpa using hne
  have hne2 : (s.toList != []) = true := by simpa using hne
  have hne3 : s.toList.isEmpty = false := by simpa using hne
  clear h
  go_enter Tryz.func126, Tryz.ntmps126
  go_wp2_with fail
  refine (trim_digits _ s hs H.out).mono ?_
  rintro e w1 ⟨⟨v, rfl, rfl⟩, hx1⟩
  have HX := Hid.mk hx1
  clear hx1
  go_wp2
  go_ret
  exact ⟨⟨_, rfl, rfl⟩, HX.out⟩
end Go.Proofs.YtogakaiibijjpaaGreatDoor

/- Package integer: scale. -/
set_option linter.unusedVariables false
set_option linter.unusedSimpArgs false
namespace Go.Proofs.YtogakaiibijjpaaGreatDoor
open Go.RowKit
open DDig

theorem scale_step {p xs : List Int} {k : Nat} {cy by_ pl : Int} (hk : k < xs.length) (h : val B32 (xs.take k) + pw B32 k * cy = val B32 (p.take k) * by_ + pl) (s : Int) (hs : s = cy + p.getD k 0 * by_) :
    val B32 ((xs.set k (s % 4294967296)).take (k + 1)) + pw B32 (k + 1) * (s / 4294967296) = val B32 (p.take (k + 1)) * by_ + pl := by
  rw [val_take_set hk, val_take_next p, pw_succ]
  have e : s = s % 4294967296 + 4294967296 * (s / 4294967296) := by omega
  have e2 : pw B32 k * s = pw B32 k * (s % 4294967296) + B32 * pw B32 k * (s / 4294967296) := by
    conv => lhs; rw [e, Int.mul_add]
    rw [Int.mul_comm B32 (pw B32 k), Int.mul_assoc]
    rfl
  have e3 : pw B32 k * s = pw B32 k * cy + pw B32 k * p.getD k 0 * by_ := by rw [hs, Int.mul_add, ← Int.mul_assoc]
  rw [Int.add_mul]
  omega
theorem scale_bound {cy x b : Int} (h0 : 0 ≤ cy ∧ cy ≤ 4294967295) (h1 : 0 ≤ x ∧ x ≤ 4294967295) (h2 : 0 ≤ b ∧ b ≤ 4294967295) : 0 ≤ x * b ∧ x * b ≤ 18446744065119617025 ∧ 0 ≤ cy + x * b ∧ cy + x * b ≤ 18446744073709551615 ∧ 0 ≤ (cy + x * b) / 4294967296 ∧ (cy + x * b) / 4294967296 ≤ 4294967295 := by
  have g0 : 0 ≤ x * b := Int.mul_nonneg h1.1 h2.1
  have g1 : x * b ≤ 4294967295 * b := Int.mul_le_mul_of_nonneg_right h1.2 h2.1
  omega

set_option maxRecDepth 100000 in
set_option maxHeartbeats 1000000 in
theorem int_scale (w : World) (A : Option Addr) (n c : Nat) (x b pl : Int) (h0 : MagR w A n c x) (hn : n ≤ 1099511627776) (hb : 0 ≤ b ∧ b ≤ 4294967295) (hp : 0 ≤ pl ∧ pl ≤ 4294967295) :
    Calls Tryz.prog 157 #[.slice A n c, .int .u32 b, .int .u32 pl] w (Ret w fun w' v => ∃ A' n' c', v = .slice A' n' c' ∧ n' ≤ n + 1 ∧ MagR w' A' n' c' (x * b + pl)) := by
  obtain ⟨p, rfl, _, r0, i0, rfl⟩ := h0
  have HP := Hid.mk r0
  have DP := Hid.mk i0.1
  clear r0 i0
  go_enter Tryz.func157, Tryz.ntmps157
  go_wp2_with (at_make; refine make_blk _ rfl _ _ 67 rfl 145 (.int .u32 0) 4 Tryz.underlying67 info_u32 rfl .i64 .i64 _ _ (p.length + 1) rfl rfl (by omega) (by omega) (by omega) (by omega) ?_; intro w1 hblk hx1; have HB1 := Hid.mk hblk; have HX1 := Hid.mk hx1; clear hblk hx1)
  go_loopw [8, 19] (fun t8 t19 wr => ∃ k : Nat, ∃ xs : List Int, ∃ cy : Int, k ≤ p.length ∧ t19 = .int .i64 k ∧ t8 = .int .u64 cy ∧ 0 ≤ cy ∧ cy ≤ 4294967295 ∧ xs.length = p.length + 1 ∧ Dig B32 xs ∧ val B32 (xs.take k) + pw B32 k * cy = val B32 (p.take k) * b + pl ∧ Blk wr w.heap.size 145 (nums .u32 xs) ∧ X w wr) (fun _ i _ => p.length - (intOf i).toNat)
  case atStart => exact ⟨0, List.replicate (p.length + 1) 0, pl, Nat.zero_le _, rfl, rfl, hp.1, hp.2, by simp, Dig.replicate B32_pos _, by simp [val, pw], by rw [nums_zeros]; exact HB1.out, HX1.out⟩
  case round =>
    obtain ⟨k, xs, cy, hk, rfl, rfl, hc0, hc1, hxl, hd, hv, hbk, hx⟩ := hrel
    have HXL := Hid.mk hxl
    have HB := Hid.mk hbk
    have HX := Hid.mk hx
    have HD := Hid.mk hd
    have HVK := Hid.mk hv
    clear hxl hbk hx hd hv
    by_cases hlt : k < p.length
    · obtain ⟨bP, oP, rfl, gP⟩ := HP.out.2 (by omega)
      have e0 := HX.out.cell (gP k hlt)
      obtain ⟨x, hx⟩ : ∃ x, x = p.getD k 0 := ⟨_, rfl⟩
      rw [← hx] at e0
      have hxr : 0 ≤ x ∧ x ≤ 4294967295 := by rw [hx]; exact dig_le DP.out k
      have ⟨hx0, hx1⟩ := hxr
      have Hx := Hid.mk hx
      clear gP hx
      have ⟨q0, q1, q2, q3, q4, q5⟩ := scale_bound ⟨hc0, hc1⟩ hxr hb
      have eo := HB.out.int (j := k) (by have := HXL.out; omega)
      have ef := HB.out.frozen k
      have hk1 : (k : Int) < (p.length : Int) := by omega
      go_wp2
      go_roundw
      case rel => exact ⟨k + 1, xs.set k ((cy + x * b) % 4294967296), (cy + x * b) / 4294967296, by omega, by go_num, rfl, q4, q5, by rw [List.length_set]; exact HXL.out, HD.out.set k (by omega) (by unfold B32; omega), scale_step (by have := HXL.out; omega) HVK.out _ (by rw [Hx.out]), by rw [nums_set]; exact HB.out.set _ _, HX.out.set (p := ⟨w.heap.size, k, none⟩) (Nat.le_refl _) _⟩
      case measure => simp [intOf]; omega
    · obtain rfl : k = p.length := by omega
      have hl := HXL.out
      have eo := HB.out.int (j := p.length) (by omega)
      have ef := HB.out.frozen p.length
      have e1 := val_take_set (b := B32) (xs := xs) (k := p.length) (by omega) cy
      rw [List.take_of_length_le (by rw [List.length_set]; omega), HVK.out, List.take_length] at e1
      have HV2 := Hid.mk e1
      have hbk2 : Blk (wr.setCell ⟨w.heap.size, p.length, none⟩ (.int .u32 cy)) w.heap.size 145 (nums .u32 (xs.set p.length cy)) := by
        rw [nums_set]; exact HB.out.set _ _
      have hl2 : (xs.set p.length cy).length = p.length + 1 := by rw [List.length_set]; exact hl
      have hrd := Blk.rd (e := 145) hbk2 (by omega)
      have hd2 : Dig B32 (xs.set p.length cy) := HD.out.set _ hc0 (by unfold B32; omega)
      have P := int_trim (wr.setCell ⟨w.heap.size, p.length, none⟩ (.int .u32 cy)) (some ⟨w.heap.size, 0, none⟩) (p.length + 1) (xs.set p.length cy) (by omega) hrd
      rw [hl2] at P
      have HPP := Hid.mk P
      have HRD := Hid.mk hrd
      have HD2 := Hid.mk hd2
      have HXF : Hid (X w (wr.setCell ⟨w.heap.size, p.length, none⟩ (.int .u32 cy))) := HX.out.set (p := ⟨w.heap.size, p.length, none⟩) (Nat.le_refl _) _
      clear P hrd hd2 hbk2 e1
      go_wp2_with fail
      refine HPP.out.mono ?_
      rintro e w2 ⟨⟨v, rfl, rfl⟩, hx2⟩
      have hM := trim_mag (c := p.length + 1) (by omega) (HRD.out.x hx2) HD2.out
      rw [HV2.out] at hM
      have HM := Hid.mk hM
      have HX2 := Hid.mk (HXF.out.trans hx2)
      have htl := trim_length_le (xs.set p.length cy)
      rw [hl2] at htl
      obtain ⟨n', hn'⟩ : ∃ n', n' = (trim (xs.set p.length cy)).length := ⟨_, rfl⟩
      rw [← hn'] at HM htl ⊢
      clear hn' hM hx2 HPP HRD HD2 HXF HV2 eo ef
      go_wp2_with fail
      go_ret
      exact ⟨⟨_, rfl, _, _, _, rfl, htl, HM.out⟩, HX2.out⟩
end Go.Proofs.YtogakaiibijjpaaGreatDoor

/- Package integer: Parse of an integer's text. -/
set_option linter.unusedVariables false
set_option linter.unusedSimpArgs false
namespace Go.Proofs.YtogakaiibijjpaaGreatDoor
open Go.RowKit
open DDig

/-- A text of an integer: its sign, and its digits, the lowest first (one digit for 0). -/
theorem TxtL.split {bs : List UInt8} {z : Int} (h : TxtL bs z) : ∃ (neg : Bool) (D : List Int), Dig 10 D ∧ D ≠ [] ∧ bs = (if neg = true then [45] else []) ++ D.reverse.map dby ∧ z = (if neg = true then - val 10 D else val 10 D) ∧ ((D = [0] ∧ neg = false) ∨ ∃ E d, D = E ++ [d] ∧ 0 < d) := by
  obtain ⟨neg, xs, h1, h2, h3, h4⟩ := h
  by_cases hx : xs = []
  · have := h2 hx
    subst this
    subst hx
    exact ⟨false, [0], Dig.cons (by decide) (by decide) (Dig.nil _), by simp, by rw [h3]; rfl, by rw [h4]; rfl, Or.inl ⟨rfl, rfl⟩⟩
  · refine ⟨neg, xs, h1.1, hx, by rw [h3, txt, if_neg hx], h4, Or.inr ⟨xs.dropLast, xs.getLast hx, (List.dropLast_concat_getLast hx).symm, ?_⟩⟩
    have := h1.2 hx
    have := h1.1 _ (List.getLast_mem hx)
    omega
theorem hasPrefix_minus (t : List UInt8) : Lib.hasPrefix (45 :: t) [45] = true := by simp [Lib.hasPrefix]
theorem hasPrefix_other {b : UInt8} (r : List UInt8) (h : b ≠ 45) : Lib.hasPrefix (b :: r) [45] = false := by
  simp [Lib.hasPrefix, List.isPrefixOf]
  exact fun e => h e.symm
theorem AllD.ne {l : List UInt8} (h : AllD l) {b : UInt8} {r : List UInt8} (e : l = b :: r) : b ≠ 45 := by
  intro e2
  have := h b (by rw [e]; simp)
  rw [e2] at this
  have h2 : (45 : UInt8).toNat = 45 := rfl
  omega

theorem cutprefix_at (w : World) (s : ByteArray) (neg : Bool) (t : List UInt8) (hs : s.data.toList = (if neg = true then [45] else []) ++ t) (ht : AllD t) (h0 : t ≠ []) :
    Calls Tryz.prog 153 #[.string s, .string ⟨#[45]⟩] w (Ret w fun w' v => ∃ d : ByteArray, v = .tuple #[.string d, .bool neg] ∧ d.data.toList = t) := by
  refine (Tryz.strings_CutPrefix s ⟨#[45]⟩ w).mono ?_
  rintro e w' ⟨rfl, rfl⟩
  refine ⟨⟨_, rfl, ⟨t.toArray⟩, ?_, by simp⟩, X.refl _⟩
  show Value.tuple #[.string ⟨(Lib.trimPrefix s.data.toList [45]).toArray⟩, .bool (Lib.hasPrefix s.data.toList [45])] = _
  cases neg with
  | true =>
    have e : s.data.toList = 45 :: t := by rw [hs]; rfl
    rw [e, Lib.trimPrefix, hasPrefix_minus, if_pos rfl]
    rfl
  | false =>
    have e : s.data.toList = t := by rw [hs]; rfl
    obtain ⟨b, r, hbr⟩ : ∃ b r, t = b :: r := by cases t with
      | nil => exact absurd rfl h0
      | cons b r => exact ⟨b, r, rfl⟩
    rw [e, Lib.trimPrefix, hbr, hasPrefix_other r (ht.ne hbr), if_neg (by simp)]
theorem trimprefix_at (w : World) (s : ByteArray) (neg : Bool) (t : List UInt8) (hs : s.data.toList = (if neg = true then [45] else []) ++ t) (ht : AllD t) (h0 : t ≠ []) :
    Calls Tryz.prog 127 #[.string s, .string ⟨#[45]⟩] w (Ret w fun w' v => ∃ d : ByteArray, v = .string d ∧ d.data.toList = t) := by
  refine (Tryz.strings_TrimPrefix s ⟨#[45]⟩ w).mono ?_
  rintro e w' ⟨rfl, rfl⟩
  refine ⟨⟨_, rfl, ⟨t.toArray⟩, ?_, by simp⟩, X.refl _⟩
  show Value.string ⟨(Lib.trimPrefix s.data.toList [45]).toArray⟩ = _
  cases neg with
  | true =>
    have e : s.data.toList = 45 :: t := by rw [hs]; rfl
    rw [e, Lib.trimPrefix, hasPrefix_minus, if_pos rfl]
    rfl
  | false =>
    have e : s.data.toList = t := by rw [hs]; rfl
    obtain ⟨b, r, hbr⟩ : ∃ b r, t = b :: r := by cases t with
      | nil => exact absurd rfl h0
      | cons b r => exact ⟨b, r, rfl⟩
    rw [e, Lib.trimPrefix, hbr, hasPrefix_other r (ht.ne hbr), if_neg (by simp)]

theorem nodigit_fn (w : World) (r : Nat) : Calls Tryz.prog 155 #[.int .i32 r] w fun e w' => e = .returned (.bool (decide (r < 48 ∨ 57 < r))) ∧ RowKit.Below w.heap.size w w' := by
  by_cases h1 : r < 48
  · have h1' : (r : Int) < 48 := by omega
    have e : decide (r < 48 ∨ 57 < r) = true := by simp [h1]
    rw [e]
    go_enter Tryz.func155, Tryz.ntmps155
    go_wp2
    go_ret
    exact ⟨rfl, X.refl _⟩
  · have h1' : ¬ (r : Int) < 48 := by omega
    by_cases h2 : 57 < r
    · have h2' : (57 : Int) < (r : Int) := by omega
      have e : decide (r < 48 ∨ 57 < r) = true := by simp [h2]
      rw [e]
      go_enter Tryz.func155, Tryz.ntmps155
      go_wp2
      go_ret
      exact ⟨rfl, X.refl _⟩
    · have h2' : ¬ (57 : Int) < (r : Int) := by omega
      have e : decide (r < 48 ∨ 57 < r) = false := by simp; omega
      rw [e]
      go_enter Tryz.func155, Tryz.ntmps155
      go_wp2
      go_ret
      exact ⟨rfl, X.refl _⟩

theorem containsfunc_at (w : World) (s : ByteArray) (h : AllD s.data.toList) :
    Calls Tryz.prog 154 #[.string s, .func (.func 155) #[] #[]] w (Ret w fun w' v => v = .bool false) := by
  refine (Tryz.strings_ContainsFunc_grows 155 #[] (enters_of Tryz.func155 (by kernel_rfl) rfl) (fun r => decide (r < 48 ∨ 57 < r)) s w (fun W x _ _ => nodigit_fn W x)).mono ?_
  rintro e w' ⟨rfl, hx⟩
  exact ⟨⟨_, rfl, by rw [idxFunc_digits h]; rfl⟩, hx⟩

theorem parseuint_at (w : World) (s : ByteArray) (h : AllD s.data.toList) (h0 : s.data.toList ≠ []) (h9 : s.data.toList.length ≤ 9) :
    Calls Tryz.prog 156 #[.string s, .int .i64 10, .int .i64 32] w (Ret w fun w' v => v = .tuple #[.int .u64 (bval 0 s.data.toList), .nilIface]) := by
  refine (Tryz.strconv_ParseUint_10_at32_ok s (by have : s.size = s.data.toList.length := Lib.size_eq s; omega) (bval 0 s.data.toList) (parseUint_ok _ h h9 h0) w).mono ?_
  rintro e w' ⟨rfl, hw⟩
  refine ⟨⟨_, rfl, rfl⟩, ?_⟩
  rcases hw with rfl | rfl
  · exact X.refl _
  · exact Lib.bytesWorld_below _ _ _
end Go.Proofs.YtogakaiibijjpaaGreatDoor

/- Package integer: Parse of an integer's text, the walk. -/
set_option linter.unusedVariables false
set_option linter.unusedSimpArgs false
namespace Go.Proofs.YtogakaiibijjpaaGreatDoor
open Go.RowKit
open DDig

theorem dby_first {D : List Int} (hD : Dig 10 D) (h0 : D ≠ []) {d : ByteArray} (hd : d.data.toList = D.reverse.map dby) : ∃ E x, D = E ++ [x] ∧ 0 ≤ x ∧ x < 10 ∧ bty d 0 = 48 + x ∧ d.size = E.length + 1 := by
  refine ⟨D.dropLast, D.getLast h0, (List.dropLast_concat_getLast h0).symm, (hD _ (List.getLast_mem h0)).1, (hD _ (List.getLast_mem h0)).2, ?_, ?_⟩
  · unfold bty
    rw [hd]
    have e : D.reverse.map dby = dby (D.getLast h0) :: (D.dropLast.reverse.map dby) := by
      conv => lhs; rw [← List.dropLast_concat_getLast h0]
      simp
    rw [e]
    simp only [List.getD_cons_zero]
    exact dby_nat (hD _ (List.getLast_mem h0))
  · have e : d.size = d.data.toList.length := Lib.size_eq d
    rw [e, hd]
    have := List.length_pos_iff.2 h0
    simp; omega

theorem ext_take (s : ByteArray) (n : Nat) : (s.extract 0 n).data.toList = s.data.toList.take n := by
  rw [ByteArray.data_extract]
  simp [List.take_eq_take_iff]
theorem ext_drop (s : ByteArray) (n : Nat) : (s.extract n s.size).data.toList = s.data.toList.drop n := by
  rw [ByteArray.data_extract]
  simp only [Array.toList_extract, List.extract_eq_take_drop]
  rw [List.take_of_length_le]
  rw [List.length_drop]
  have : s.data.toList.length = s.size := (Lib.size_eq s).symm
  omega
theorem int_parse_groups {y u q : Int} {n m : Nat} {a b : Nat} (h : y * 10 ^ (n + m) + a * 10 ^ m + b = q) (hu : u = a) : (y * 10 ^ n + u) * 10 ^ m + b = q := by
  rw [hu, ← h, Int.pow_add, Int.add_mul, Int.mul_assoc]

set_option maxRecDepth 100000 in
set_option maxHeartbeats 4000000 in
theorem int_parse (w : World) (s : ByteArray) (z : Int) (h : Txt s z) (hs : s.size ≤ 65536) :
    Calls Tryz.prog 129 #[.string s] w (Ret w fun w' v => ∃ r : IV, v = .tuple #[r.v, .int .i64 0] ∧ IntR w' r z) := by
  obtain ⟨neg, D, hD, hD0, hbs, hz, hlead⟩ := TxtL.split h
  have HD := Hid.mk hD
  have HB := Hid.mk hbs
  have HZ := Hid.mk hz
  have hall : AllD (D.reverse.map dby) := AllD.digits hD
  have HALL := Hid.mk hall
  have hsz : s.size = s.data.toList.length := Lib.size_eq s
  have htl : (D.reverse.map dby).length ≤ s.size := by rw [hsz, hbs]; simp
  have ht0 : D.reverse.map dby ≠ [] := by
    intro e
    apply hD0
    simpa using e
  have HT0 := Hid.mk ht0
  clear h hz hbs hsz hall ht0
  go_enter Tryz.func129, Tryz.ntmps129
  go_wp2_with fail
  obtain ⟨W, hW, hX, b0, hWs⟩ := setup1 w #[.bool false, .slice none 0 0] 69
  rw [hW]
  clear hW
  refine (cutprefix_at _ s neg _ HB.out HALL.out HT0.out).mono ?_
  rintro e w1 ⟨⟨v1, rfl, d, rfl, hd⟩, hx1⟩
  have B0 := Hid.mk (b0.x hx1)
  have HX := Hid.mk (hX.trans hx1)
  have HDD := Hid.mk hd
  obtain ⟨E, x, hEx, hx0, hx10, hbx, hdl⟩ := dby_first HD.out hD0 hd
  have hdne : ¬ d.toList = [] := by rw [ByteArray.toList_eq, hd]; exact HT0.out
  have hdne1 : (d.toList == []) = false := by simpa using hdne
  have hdne2 : d.toList.isEmpty = false := by simpa using hdne
  have hds : d.size ≤ 65536 := by
    have e1 : d.size = d.data.toList.length := Lib.size_eq d
    rw [e1, hd]; omega
  have hix := fun w => index_byte (P := Tryz.prog) 9 Tryz.underlying9 d .i64 0 (by omega) w
  rw [hbx] at hix
  simp only [Int.natCast_zero] at hix
  clear hx1 hX b0 hd htl
  go_wp2_with fail
  refine (containsfunc_at _ d (by rw [HDD.out]; exact HALL.out)).mono ?_
  rintro e w2 ⟨⟨v2, rfl, rfl⟩, hx2⟩
  replace B0 := Hid.mk (B0.out.x hx2)
  replace HX := Hid.mk (HX.out.trans hx2)
  clear hx2
  go_upto_region 6 with (fail)
  go_cut [37] (fun t37 wc => t37 = .bool false ∧ X w2 wc)
  case first =>
    by_cases hx48 : x = 0
    · have hone : D = [0] ∧ neg = false := by
        rcases hlead with h1 | ⟨E', d', h1, h2⟩
        · exact h1
        · rw [hEx] at h1
          have := List.append_inj' h1 rfl
          have h3 := this.2
          simp at h3
          omega
      obtain ⟨h1, rfl⟩ := hone
      have hd1 : d.size = 1 := by
        rw [hdl]
        have : (E ++ [x]).length = 1 := by rw [← hEx, h1]; rfl
        simpa using this
      have hb1 : ((48 + x : Int) == 48) = true := by rw [hx48]; rfl
      have hlen : ¬ (1 : Int) < (E.length : Int) + 1 := by omega
      have hlen2 : ¬ (0 : Int) < (E.length : Int) := by omega
      have hE0 : E = [] := List.eq_nil_of_length_eq_zero (by omega)
      clear hlead h1 hEx
      go_wp2_with fail
      go_meet
      exact ⟨rfl, X.refl _⟩
    · have hb1 : ((48 + x : Int) == 48) = false := by rw [beq_eq_false_iff_ne]; omega
      clear hlead hEx
      go_wp2_with fail
      go_meet
      exact ⟨rfl, X.refl _⟩
  case rest =>
    obtain ⟨rfl, hx2⟩ := hcut
    replace B0 := Hid.mk (B0.out.x hx2)
    replace HX := Hid.mk (HX.out.trans hx2)
    clear hx2 hix hlead hEx hbx
    go_wp2_with fail
    go_loopg [4, 6, 7, 8, 9, 10] (d.size) (fun q t4 t6 t7 t8 t9 t10 wr => ∃ (r : ByteArray) (y : Int) (A : Option Addr) (n c : Nat), t4 = .string r ∧ t6 = .slice A n c ∧ MagR wr A n c y ∧ AllD r.data.toList ∧ y * 10 ^ r.size + bval 0 r.data.toList = val 10 D ∧ r.size ≤ q ∧ r.size ≤ d.size ∧ n + r.size ≤ 65536 ∧ X wc wr)
    case atStart => exact ⟨d, 0, none, 0, 0, rfl, rfl, MagR.nil _ _ _, by rw [HDD.out]; exact HALL.out, by rw [HDD.out, bval_digits HD.out]; simp, Nat.le_refl _, Nat.le_refl _, by omega, X.refl _⟩
    case round =>
      have HXc := Hid.mk HX.out
      obtain ⟨r, y, A, n, c, rfl, rfl, hm, ha, hv, hq, hrd, hnr, hx⟩ := hrel
      have HM := Hid.mk hm
      have HA := Hid.mk ha
      have HV := Hid.mk hv
      have HQ := Hid.mk hq
      replace HX := Hid.mk hx
      have hrl : r.size = r.data.toList.length := Lib.size_eq r
      clear hm ha hv hq hx
      by_cases hr0 : 0 < r.size
      · have hr0' : (0 : Int) < (r.size : Int) := by omega
        obtain ⟨gN, hg, hg1, hg9, hgr⟩ : ∃ g : Nat, ((r.size : Int) - 1) % 9 + 1 = g ∧ 1 ≤ g ∧ g ≤ 9 ∧ g ≤ r.size := by
          refine ⟨(r.size - 1) % 9 + 1, ?_, by omega, by omega, by have := Nat.mod_le (r.size - 1) 9; omega⟩
          omega
        have hgi : (gN : Int) ≤ (r.size : Int) := by omega
        cases gk with
        | zero => exact absurd HQ.out (by omega)
        | succ q1 =>
          have HTK : Hid ((r.extract 0 gN).data.toList = r.data.toList.take gN) := ext_take r gN
          have HDR : Hid ((r.extract gN r.size).data.toList = r.data.toList.drop gN) := ext_drop r gN
          have hsz2 : (r.extract gN r.size).size = r.size - gN := by
            have e1 : (r.extract gN r.size).size = (r.extract gN r.size).data.toList.length := Lib.size_eq _
            rw [e1, HDR.out, List.length_drop, ← hrl]
          have HS2 := Hid.mk hsz2
          have hta : AllD (r.data.toList.take gN) := fun b hb => HA.out b (List.mem_of_mem_take hb)
          have hda : AllD (r.data.toList.drop gN) := fun b hb => HA.out b (List.mem_of_mem_drop hb)
          have htl : (r.data.toList.take gN).length = gN := by rw [List.length_take]; omega
          have hu9 : bval 0 (r.data.toList.take gN) ≤ 999999999 := by
            have h1 := bval_lt _ hta
            rw [htl] at h1
            have h2 : 10 ^ gN ≤ 10 ^ 9 := Nat.pow_le_pow_right (by omega) hg9
            have h3 : (10 : Nat) ^ 9 = 1000000000 := by decide
            omega
          have HTA := Hid.mk hta
          have HDA := Hid.mk hda
          have HTL := Hid.mk htl
          clear hsz2 hta hda htl hrl
          go_wp2_with fail
          obtain ⟨wo, rfl⟩ : ∃ wo : World, wo = wr := ⟨_, rfl⟩
          go_loopw [8, 48] (fun t8 t48 wr => ∃ (i : Nat) (P : Int), i ≤ gN ∧ t48 = .int .i64 i ∧ t8 = .int .u32 P ∧ P = 10 ^ i ∧ 1 ≤ P ∧ P ≤ 1000000000 ∧ wr = wo) (fun _ t _ => gN - (intOf t).toNat)
          case atStart => exact ⟨0, 1, by omega, rfl, rfl, rfl, by omega, by omega, rfl⟩
          case round =>
            obtain ⟨i, P, hi, rfl, rfl, hP, hP1, hP2, rfl⟩ := hrel
            have HP := Hid.mk hP
            clear hP
            by_cases hig : i < gN
            · have hig' : (i : Int) < (gN : Int) := by omega
              have hP3 : P ≤ 100000000 := by
                have h1 : (10 : Int) ^ i ≤ 10 ^ 8 := by
                  have h2 : (10 : Nat) ^ i ≤ 10 ^ 8 := Nat.pow_le_pow_right (by omega) (by omega)
                  exact_mod_cast h2
                have h4 : (10 : Int) ^ 8 = 100000000 := by decide
                rw [HP.out]; omega
              go_wp2_with fail
              go_roundw
              case rel => exact ⟨i + 1, P * 10, by omega, by go_num, rfl, by rw [HP.out, Int.pow_succ], by omega, by omega, by first | rfl | trivial⟩
              case measure => simp [intOf]; omega
            · obtain rfl : i = gN := by omega
              have hig' : ¬ (i : Int) < (i : Int) := by omega
              clear hig hi
              go_wp2_with fail
              refine (parseuint_at _ (r.extract 0 i) (by rw [HTK.out]; exact HTA.out) (by rw [HTK.out]; intro e; have := HTL.out; rw [e] at this; simp at this; omega) (by rw [HTK.out, HTL.out]; exact hg9)).mono ?_
              rintro e w3 ⟨⟨v3, rfl, rfl⟩, hx3⟩
              rw [HTK.out]
              obtain ⟨u, hu⟩ : ∃ u, u = bval 0 (r.data.toList.take i) := ⟨_, rfl⟩
              rw [← hu] at hu9 ⊢
              have HU := Hid.mk hu
              replace HX := Hid.mk (HX.out.trans hx3)
              replace HM := Hid.mk (HM.out.x hx3)
              have hu9' : (u : Int) ≤ 999999999 := by omega
              have hu0' : (0 : Int) ≤ (u : Int) := by omega
              clear hu hx3
              go_wp2_with fail
              refine (int_scale _ A n c y P u HM.out (by omega) (by omega) (by omega)).mono ?_
              rintro e w4 ⟨⟨v4, rfl, A', n', c', rfl, hn', hm'⟩, hx4⟩
              replace HX := Hid.mk (HX.out.trans hx4)
              have HM4 := Hid.mk hm'
              clear hx4 hm'
              go_wp2_with fail
              go_roundg q1
              case measure => omega
              case rel =>
                refine ⟨r.extract i r.size, y * P + u, A', n', c', rfl, rfl, HM4.out, by rw [HDR.out]; exact HDA.out, ?_, by rw [HS2.out]; have := HQ.out; omega, by rw [HS2.out]; omega, by rw [HS2.out]; omega, HX.out⟩
                rw [HDR.out, HS2.out, HP.out]
                refine int_parse_groups (a := u) (m := r.size - i) ?_ rfl
                rw [← HV.out]
                have e1 : i + (r.size - i) = r.size := by omega
                have e2 : bval 0 r.data.toList = u * 10 ^ (r.size - i) + bval 0 (r.data.toList.drop i) := by
                  conv => lhs; rw [← List.take_append_drop i r.data.toList, bval_append, bval_shift]
                  rw [← HU.out, List.length_drop]
                  have : r.data.toList.length = r.size := (Lib.size_eq r).symm
                  rw [this]
                rw [e1, e2, Int.natCast_add, Int.natCast_mul, Int.natCast_pow, Int.add_assoc]
                rfl
      · have hr0' : ¬ (0 : Int) < (r.size : Int) := by omega
        have hy : y = val 10 D := by
          have h1 := HV.out
          have h2 : r.data.toList = [] := List.eq_nil_of_length_eq_zero (by omega)
          have h3 : r.size = 0 := by omega
          rw [h2, bval_nil, h3] at h1
          simpa using h1
        have HY := Hid.mk hy
        clear hr0 hrd hnr hrl hy hds hdne hdne1 hdne2 hdl hx0 hx10 HA HV HQ HDD HALL HT0 HB
        go_wp2_with fail
        refine (int_signed_mag _ neg A n c y HM.out).mono ?_
        rintro e w3 ⟨⟨v3, rfl, r3, rfl, hr3⟩, hx3⟩
        have hb0 := B0.out.x (HX.out.trans hx3)
        have hXX := HXc.out.trans (HX.out.trans hx3)
        rw [HY.out, ← HZ.out] at hr3
        have k0 := hb0.cell (j := 0) rfl; have k1 := hb0.cell (j := 1) rfl; have f0 := hb0.frozen 0; have f1 := hb0.frozen 1
        have K := two_cells (.bool r3.neg) (.slice r3.A r3.n r3.c) k0 k1
        have HR := Hid.mk (hr3.iv (b := ⟨false, none, 0, 0⟩) hb0 r3)
        have HXF := Hid.mk (hXX.iv (Nat.le_refl _) r3)
        clear hb0 hXX hr3 hx3 hD0 hD
        go_wp2_with fail
        exact bodyPost_ret (v := .tuple #[r3.v, .int .i64 0]) (by simp [results, Tryz.results129, go_sem, K.1, K.2]) rfl ⟨⟨_, rfl, r3, rfl, HR.out⟩, HXF.out⟩
end Go.Proofs.YtogakaiibijjpaaGreatDoor

/- Texts of fractions: what the library answers of them. -/
set_option linter.unusedVariables false
set_option linter.unusedSimpArgs false
namespace Go.Proofs.YtogakaiibijjpaaGreatDoor
open Go.RowKit
open DDig

/-- What the library's variables hold at the call. -/
def Gl (w : World) : Prop := Tab w ∧ ∃ m : Int, w.cell? ⟨0, 0, none⟩ = some (.int .i64 m)
theorem Gl.x {w w' : World} (h : Gl w) (hx : X w w') : Gl w' := by
  obtain ⟨h1, m, h2⟩ := h
  exact ⟨h1.x hx, m, hx.cell h2⟩

theorem indexByte_none {l : List UInt8} (h : ∀ b ∈ l, b ≠ 47) : Lib.indexByte l 47 = -1 := by
  induction l with
  | nil => rfl
  | cons b l ih =>
    have hb : (b == 47) = false := by simpa using h b (by simp)
    have := ih (fun c hc => h c (by simp [hc]))
    rw [Lib.indexByte, hb, this]
    rfl
theorem indexByte_at {p q : List UInt8} (h : ∀ b ∈ p, b ≠ 47) : Lib.indexByte (p ++ 47 :: q) 47 = p.length := by
  induction p with
  | nil => rfl
  | cons b p ih =>
    have hb : (b == 47) = false := by simpa using h b (by simp)
    have h1 := ih (fun c hc => h c (by simp [hc]))
    rw [List.cons_append, Lib.indexByte, hb, h1]
    have : ((p.length : Int) == -1) = false := by rw [beq_eq_false_iff_ne]; omega
    simp [this]
theorem TxtL.noslash {l : List UInt8} {z : Int} (h : TxtL l z) : ∀ b ∈ l, b ≠ 47 := by
  obtain ⟨neg, D, hD, hD0, hbs, hz, -⟩ := h.split
  intro b hb e
  rw [hbs, List.mem_append] at hb
  have h47 : (47 : UInt8).toNat = 47 := rfl
  rcases hb with hb | hb
  · split at hb
    · simp at hb
      rw [hb] at e
      exact absurd e (by decide)
    · simp at hb
  · have := AllD.digits hD b hb
    rw [e] at this
    omega
theorem cut_whole {l : List UInt8} {z : Int} (h : TxtL l z) : Lib.cut l [47] = (l, [], false) := by
  rw [Lib.cut, Lib.index_one, indexByte_none h.noslash, if_neg (by omega)]
theorem cut_parts {p q : List UInt8} {z : Int} (h : TxtL p z) : Lib.cut (p ++ 47 :: q) [47] = (p, q, true) := by
  rw [Lib.cut, Lib.index_one, indexByte_at h.noslash, if_pos (by omega)]
  simp

theorem cut_at (w : World) (s : ByteArray) (x : Rat) (bd : Bool) (hbd : decide (x.den ≠ 1) = bd) (h : QTxt s x) (hs : s.size ≤ 65536) (hg : Gl w) :
    Calls Tryz.prog 125 #[.string s, .string ⟨#[47]⟩] w (Ret w fun w' v => ∃ p q : ByteArray, v = .tuple #[.string p, .string q, .bool bd] ∧ Txt p x.num ∧ p.size ≤ s.size ∧ q.size ≤ s.size ∧ (x.den ≠ 1 → Txt q x.den)) := by
  subst hbd
  obtain ⟨m, hm⟩ := hg.2
  obtain ⟨p, q, hp, hq, hl⟩ := h
  have hsz : s.size = s.data.toList.length := Lib.size_eq s
  refine (Tryz.strings_Cut s ⟨#[47]⟩ m w (by omega) hm).mono ?_
  rintro e w' ⟨rfl, k, rfl⟩
  have hx : X w (w.drewN k) := (X.refl w).drewN k
  by_cases hd : x.den = 1
  · rw [if_pos hd] at hl
    have hc : Lib.cut s.data.toList [47] = (p, [], false) := by rw [hl]; exact cut_whole hp
    refine ⟨⟨_, rfl, ⟨p.toArray⟩, ⟨#[]⟩, ?_, ?_, ?_, ?_, fun h => absurd hd h⟩, hx⟩
    · show Value.tuple #[.string ⟨(Lib.cut s.data.toList [47]).1.toArray⟩, .string ⟨(Lib.cut s.data.toList [47]).2.1.toArray⟩, .bool (Lib.cut s.data.toList [47]).2.2] = _
      rw [hc]
      simp [hd]
    · show TxtL p.toArray.toList _
      simpa using hp
    · rw [ba_size]; rw [hl] at hsz; omega
    · show 0 ≤ _; omega
  · rw [if_neg hd] at hl
    have hc : Lib.cut s.data.toList [47] = (p, q, true) := by rw [hl]; exact cut_parts hp
    refine ⟨⟨_, rfl, ⟨p.toArray⟩, ⟨q.toArray⟩, ?_, ?_, ?_, ?_, fun _ => ?_⟩, hx⟩
    · show Value.tuple #[.string ⟨(Lib.cut s.data.toList [47]).1.toArray⟩, .string ⟨(Lib.cut s.data.toList [47]).2.1.toArray⟩, .bool (Lib.cut s.data.toList [47]).2.2] = _
      rw [hc]
      simp [hd]
    · show TxtL p.toArray.toList _
      simpa using hp
    · rw [ba_size]; rw [hl] at hsz; simp at hsz; omega
    · rw [ba_size]; rw [hl] at hsz; simp at hsz; omega
    · show TxtL q.toArray.toList _
      simpa using hq

theorem dropWhile_snoc {p : UInt8 → Bool} {b : UInt8} (h : p b = false) (xs : List UInt8) : (xs ++ [b]).dropWhile p = xs.dropWhile p ++ [b] := by
  induction xs with
  | nil => simp [List.dropWhile, h]
  | cons c xs ih =>
    rw [List.cons_append, List.dropWhile_cons, List.dropWhile_cons]
    split
    · exact ih
    · rfl
theorem trimB_first {b c : UInt8} (h : b ≠ c) (r : List UInt8) : Lib.trimB (b :: r) c ≠ [] := by
  have hb : (b == c) = false := by simpa using h
  rw [Lib.trimB, Lib.trimRightB, List.reverse_cons, dropWhile_snoc (p := (· == c)) hb, List.reverse_append, List.reverse_singleton, List.singleton_append, Lib.trimLeftB, List.dropWhile_cons, hb]
  simp
/-- A positive number's text is of digits, and does not vanish when zeros are struck. -/
theorem TxtL.pos {l : List UInt8} {z : Int} (h : TxtL l z) (hz : 0 < z) : AllD l ∧ l ≠ [] ∧ Lib.trimB l 48 ≠ [] := by
  obtain ⟨neg, D, hD, hD0, hbs, hv, hlead⟩ := h.split
  have hvn := val_nonneg (by decide : (0 : Int) < 10) hD
  have hneg : neg = false := by
    cases neg with
    | false => rfl
    | true => rw [if_pos rfl] at hv; omega
  subst hneg
  rw [if_neg (by simp), List.nil_append] at hbs
  rw [if_neg (by simp)] at hv
  refine ⟨by rw [hbs]; exact AllD.digits hD, by rw [hbs]; simpa using hD0, ?_⟩
  rcases hlead with ⟨h1, -⟩ | ⟨E, d, h1, h2⟩
  · rw [h1] at hv
    have : val 10 [0] = 0 := by decide
    omega
  · have e : l = dby d :: E.reverse.map dby := by rw [hbs, h1]; simp
    have hd := dby_nat (hD d (by rw [h1]; simp))
    have hne : dby d ≠ 48 := by
      intro e
      rw [e] at hd
      have : (48 : UInt8).toNat = 48 := rfl
      omega
    rw [e]
    exact trimB_first hne _
end Go.Proofs.YtogakaiibijjpaaGreatDoor

/- Package rational: Parse of a fraction's text. -/
set_option linter.unusedVariables false
set_option linter.unusedSimpArgs false
namespace Go.Proofs.YtogakaiibijjpaaGreatDoor
open Go.RowKit
open DDig

theorem digits_of (w : World) (q : ByteArray) (z : Int) (h : Txt q z) (hz : 0 < z) (hs : q.size ≤ 65536) :
    Calls Tryz.prog 126 #[.string q] w (Ret w fun w' v => v = .bool true) := by
  obtain ⟨h1, h2, -⟩ := TxtL.pos h hz
  refine rat_digits w q (by omega) ?_ h1
  have e : q.size = q.data.toList.length := Lib.size_eq q
  have := List.length_pos_iff.2 h2
  omega
theorem trim_zero (w : World) (q : ByteArray) (z : Int) (h : Txt q z) (hz : 0 < z) (hs : q.size ≤ 65536) :
    Calls Tryz.prog 128 #[.string q, .string ⟨#[48]⟩] w (Ret w fun w' v => ∃ r : ByteArray, v = .string r ∧ ¬ r.toList = []) := by
  obtain ⟨-, -, h3⟩ := TxtL.pos h hz
  refine (Tryz.strings_Trim_one q 48 (by decide) w (by omega)).mono ?_
  rintro e w' ⟨rfl, hw⟩
  refine ⟨⟨_, rfl, _, rfl, ?_⟩, ?_⟩
  · rw [ByteArray.toList_eq]
    exact h3
  · rcases hw with rfl | rfl
    · exact X.refl _
    · exact (X.refl _).drew

theorem pw10_b32 : ∀ n : Nat, pw 10 n ≤ pw B32 n
  | 0 => Int.le_refl _
  | n + 1 => by
    have h := pw10_b32 n
    have h0 := pw_pos B32_pos n
    rw [pw_succ, pw_succ]
    have : B32 * pw B32 n = 4294967296 * pw B32 n := rfl
    omega
theorem IntR.txt {w : World} {a : IV} {z : Int} {s : ByteArray} (h : IntR w a z) (ht : Txt s z) : a.n ≤ s.size :=
  h.size (Int.lt_of_lt_of_le ht.pw_size (pw10_b32 _))
theorem rat_coprime (x : Rat) : Int.gcd x.num x.den = 1 := by
  have := x.reduced
  unfold Nat.Coprime at this
  simpa [Int.gcd] using this

set_option maxRecDepth 100000 in
set_option maxHeartbeats 4000000 in
theorem rat_read (w : World) (s : ByteArray) (x : Rat) (most : Int) (h : QTxt s x) (hm : (s.size : Int) ≤ most) (hs : s.size ≤ 65536) (hg : Gl w) :
    Calls Tryz.prog 99 #[.string s, .int .i64 most] w (Ret w fun w' v => ∃ r : QV, v = .tuple #[r.v, .int .i64 0] ∧ RatR w' r x) := by
  have H := Hid.mk h
  have HG := Hid.mk hg
  clear h hg
  have hm' : ¬ most < (s.size : Int) := by omega
  go_enter Tryz.func99, Tryz.ntmps99
  go_wp2_with fail
  obtain ⟨W, hW, hX, b0, hWs⟩ := setup1 w #[.bool false, .slice none 0 0, .bool false, .slice none 0 0] 71
  rw [hW]
  clear hW
  have hden := x.den_pos
  by_cases hd1 : x.den = 1
  · refine (cut_at _ s x false (by simpa using hd1) H.out hs (HG.out.x hX)).mono ?_
    rintro e w1 ⟨⟨v1, rfl, p, q, rfl, hp, hps, hqs, -⟩, hx1⟩
    have B0 := Hid.mk (b0.x hx1)
    have HX := Hid.mk (hX.trans hx1)
    have HP := Hid.mk hp
    clear b0 hX hx1 hp
    obtain ⟨neg, D, hD, hD0, hbs, hz, hlead⟩ := TxtL.split HP.out
    have HB := Hid.mk hbs
    have HALL := Hid.mk (AllD.digits hD)
    have HT0 : Hid (D.reverse.map dby ≠ []) := by
      intro e
      apply hD0
      simpa using e
    clear hD hD0 hbs hz hlead
    go_wp2_with fail
    refine (trimprefix_at _ p neg _ HB.out HALL.out HT0.out).mono ?_
    rintro e w2 ⟨⟨v2, rfl, d, rfl, hd⟩, hx2⟩
    replace HX := Hid.mk (HX.out.trans hx2)
    replace B0 := Hid.mk (B0.out.x hx2)
    have HDD := Hid.mk hd
    have hds : d.size ≤ 65536 ∧ d.size ≠ 0 := by
      have e1 : d.size = d.data.toList.length := Lib.size_eq d
      have e2 : p.size = p.data.toList.length := Lib.size_eq p
      have h3 := HB.out
      have h4 := List.length_pos_iff.2 HT0.out
      rw [h3] at e2
      rw [hd] at e1
      simp at e1 e2 h4
      omega
    clear hd hx2
    go_wp2_with fail
    refine (rat_digits _ d (by omega) hds.2 (by rw [HDD.out]; exact HALL.out)).mono ?_
    rintro e w3 ⟨⟨v3, rfl, rfl⟩, hx3⟩
    replace HX := Hid.mk (HX.out.trans hx3)
    replace B0 := Hid.mk (B0.out.x hx3)
    clear hx3 HDD hds HB HALL HT0
    go_wp2_with fail
    refine (int_parse _ p x.num HP.out (by omega)).mono ?_
    rintro e w4 ⟨⟨v4, rfl, r, rfl, hr⟩, hx4⟩
    replace HX := Hid.mk (HX.out.trans hx4)
    replace B0 := Hid.mk (B0.out.x hx4)
    clear hx4
    obtain ⟨W5, hW5, hX5, b5, hWs5⟩ := setup1 w4 #[.bool r.neg, .slice r.A r.n r.c] 69
    have hb0 := B0.out.x hX5
    have hne : ¬ w.heap.size = w4.heap.size := by have := B0.out.lt; omega
    have hR : RatR W5 ⟨r.neg, r.A, r.n, r.c, false, none, 0, 0⟩ x := ⟨0, hr.x hX5, IntR.zero _, Or.inr ⟨rfl, hd1⟩⟩
    have c0 := b5.cell (j := 0) rfl; have c1 := b5.cell (j := 1) rfl
    have k0 := hb0.cell (j := 0) rfl; have k1 := hb0.cell (j := 1) rfl; have k2 := hb0.cell (j := 2) rfl; have k3 := hb0.cell (j := 3) rfl; have f0 := hb0.frozen 0; have f1 := hb0.frozen 1; have f2 := hb0.frozen 2; have f3 := hb0.frozen 3
    have K := four_cells hb0 (.bool r.neg) (.slice r.A r.n r.c) (.bool false) (.slice none 0 0)
    have HR := Hid.mk (hR.put4 hb0 ⟨r.neg, r.A, r.n, r.c, false, none, 0, 0⟩)
    have HXF := Hid.mk ((HX.out.trans hX5).put4 (Nat.le_refl _) ⟨r.neg, r.A, r.n, r.c, false, none, 0, 0⟩)
    clear hb0 b5 hX5 hR hr B0
    go_wp2_with fail
    exact bodyPost_ret (v := .tuple #[.agg #[.bool r.neg, .slice r.A r.n r.c, .bool false, .slice none 0 0], .int .i64 0]) (by simp [results, Tryz.results99, go_sem, K.1, K.2.1, K.2.2.1, K.2.2.2]) rfl ⟨⟨_, rfl, ⟨r.neg, r.A, r.n, r.c, false, none, 0, 0⟩, rfl, HR.out⟩, HXF.out⟩
  · refine (cut_at _ s x true (by simpa using hd1) H.out hs (HG.out.x hX)).mono ?_
    rintro e w1 ⟨⟨v1, rfl, p, q, rfl, hp, hps, hqs, hq⟩, hx1⟩
    have B0 := Hid.mk (b0.x hx1)
    have HX := Hid.mk (hX.trans hx1)
    have HP := Hid.mk hp
    have HQ := Hid.mk (hq hd1)
    clear b0 hX hx1 hp hq
    obtain ⟨neg, D, hD, hD0, hbs, hz, hlead⟩ := TxtL.split HP.out
    have HB := Hid.mk hbs
    have HALL := Hid.mk (AllD.digits hD)
    have HT0 : Hid (D.reverse.map dby ≠ []) := by
      intro e
      apply hD0
      simpa using e
    clear hD hD0 hbs hz hlead
    go_wp2_with fail
    refine (trimprefix_at _ p neg _ HB.out HALL.out HT0.out).mono ?_
    rintro e w2 ⟨⟨v2, rfl, d, rfl, hd⟩, hx2⟩
    replace HX := Hid.mk (HX.out.trans hx2)
    replace B0 := Hid.mk (B0.out.x hx2)
    have HDD := Hid.mk hd
    have hds : d.size ≤ 65536 ∧ d.size ≠ 0 := by
      have e1 : d.size = d.data.toList.length := Lib.size_eq d
      have e2 : p.size = p.data.toList.length := Lib.size_eq p
      have h3 := HB.out
      have h4 := List.length_pos_iff.2 HT0.out
      rw [h3] at e2
      rw [hd] at e1
      simp at e1 e2 h4
      omega
    clear hd hx2
    go_wp2_with fail
    refine (rat_digits _ d (by omega) hds.2 (by rw [HDD.out]; exact HALL.out)).mono ?_
    rintro e w3 ⟨⟨v3, rfl, rfl⟩, hx3⟩
    replace HX := Hid.mk (HX.out.trans hx3)
    replace B0 := Hid.mk (B0.out.x hx3)
    clear hx3 HDD hds HB HALL HT0
    go_wp2_with fail
    refine (digits_of _ q x.den HQ.out (by omega) (by omega)).mono ?_
    rintro e w4 ⟨⟨v4, rfl, rfl⟩, hx4⟩
    replace HX := Hid.mk (HX.out.trans hx4)
    replace B0 := Hid.mk (B0.out.x hx4)
    clear hx4
    go_wp2_with fail
    refine (trim_zero _ q x.den HQ.out (by omega) (by omega)).mono ?_
    rintro e w5 ⟨⟨v5, rfl, tz, rfl, htz⟩, hx5⟩
    have htz2 : tz.toList.isEmpty = false := by simpa using htz
    have htz3 : (tz.toList == []) = false := by simpa using htz
    replace HX := Hid.mk (HX.out.trans hx5)
    replace B0 := Hid.mk (B0.out.x hx5)
    clear hx5
    go_wp2_with fail
    refine (int_parse _ p x.num HP.out (by omega)).mono ?_
    rintro e w6 ⟨⟨v6, rfl, r, rfl, hr⟩, hx6⟩
    replace HX := Hid.mk (HX.out.trans hx6)
    replace B0 := Hid.mk (B0.out.x hx6)
    clear hx6 htz htz2 htz3
    go_wp2_with fail
    obtain ⟨W7, hW7, hX7, b7, hWs7⟩ := setup1 w6 #[.bool r.neg, .slice r.A r.n r.c] 69
    rw [hW7]
    clear hW7
    have hg7 : w.heap.size < w6.heap.size := B0.out.lt
    obtain ⟨g7, hg7e⟩ : ∃ g7, g7 = w6.heap.size := ⟨_, rfl⟩
    rw [← hg7e] at b7 hg7
    simp only [← hg7e]
    refine (int_parse _ q x.den HQ.out (by omega)).mono ?_
    rintro e w8 ⟨⟨v8, rfl, t, rfl, ht⟩, hx8⟩
    have hr8 := (hr.x hX7).x hx8
    have b8 := b7.x hx8
    replace HX := Hid.mk ((HX.out.trans hX7).trans hx8)
    replace B0 := Hid.mk ((B0.out.x hX7).x hx8)
    have HR8 := Hid.mk hr8
    have HT8 := Hid.mk ht
    have hg8 : g7 < w8.heap.size := b8.lt
    clear hX7 hx8 hr hr8 ht b7 hg7e
    go_upto_region 15 with (fail)
    obtain ⟨W9, hW9, hX9, b9, hWs9⟩ := setup1 w8 #[.bool t.neg, .slice t.A t.n t.c] 69
    rw [hW9]
    clear hW9
    have hg79 : ¬ g7 = w8.heap.size := by omega
    obtain ⟨g9, hg9⟩ : ∃ g9, g9 = w8.heap.size := ⟨_, rfl⟩
    rw [← hg9] at b9 hg8 hg79
    simp only [← hg9]
    have h0g9 : w.heap.size < g9 := by omega
    have hrn : r.n ≤ 549755813888 := by have := HR8.out.txt HP.out; omega
    have htn : t.n ≤ 549755813888 := by have := HT8.out.txt HQ.out; omega
    have b79 := b8.x hX9
    have HC := Hid.mk (fun w' (h : X W9 w') => (⟨(b79.x h).cell (j := 0) rfl, (b79.x h).cell (j := 1) rfl, (b9.x h).cell (j := 0) rfl, (b9.x h).cell (j := 1) rfl⟩ : w'.cell? ⟨g7, 0, none⟩ = some (.bool r.neg) ∧ w'.cell? ⟨g7, 1, none⟩ = some (.slice r.A r.n r.c) ∧ w'.cell? ⟨g9, 0, none⟩ = some (.bool t.neg) ∧ w'.cell? ⟨g9, 1, none⟩ = some (.slice t.A t.n t.c)))
    have hsg1 : Int.sign ((x.den : Int) - 1) = 1 := Int.sign_eq_one_of_pos (by omega)
    have hsg0 : Int.sign ((Int.gcd x.num x.den : Int) - 1) = 0 := by rw [rat_coprime]; rfl
    have HXp := Hid.mk (HX.out.trans hX9)
    replace B0 := Hid.mk (B0.out.x hX9)
    replace HR8 := Hid.mk (HR8.out.x hX9)
    replace HT8 := Hid.mk (HT8.out.x hX9)
    clear b8 b9 b79 hX9 hg9 hps hqs hm hWs9 hWs7
    go_upto_region 17 with (fail)
    go_cut [80] (fun t80 wc => t80 = .bool false ∧ X W9 wc)
    case first =>
      go_wp2_with fail
      have hz0 : X W9 W9.drew := ⟨rfl, rfl, rfl, Nat.le_refl _, fun _ _ => rfl⟩
      have hS0 := HC.out W9 (X.refl _)
      go_region_held3 (fun w' => w'.cell? ⟨g7, 0, none⟩ = some (.bool r.neg) ∧ w'.cell? ⟨g7, 1, none⟩ = some (.slice r.A r.n r.c) ∧ w'.cell? ⟨g9, 0, none⟩ = some (.bool t.neg) ∧ w'.cell? ⟨g9, 1, none⟩ = some (.slice t.A t.n t.c))
        (go_keep)
        (first
          | (have hguard := hz4; go_at_call 83; refine (int_compare_at _ r3 r4 (Int.gcd x.num x.den) 1 0 hr3 hr4 hsg0).mono ?_; rintro e w5 ⟨⟨v5, rfl, rfl⟩, hx5⟩; have hz5 : X W9 w5 := hz4.trans hx5; have hr1 := hr1.x hx5; have hr3 := hr3.x hx5; have hr4 := hr4.x hx5; have hS5 := HC.out w5 hz5)
          | (have hguard := hz3; go_at_call 101; refine (rat_one _).mono ?_; rintro e w4 ⟨⟨v4, rfl, r4, rfl, hr4⟩, hx4⟩; have hz4 : X W9 w4 := hz3.trans hx4; have hr1 := hr1.x hx4; have hr3 := hr3.x hx4; have hS4 := HC.out w4 hz4)
          | (have hguard := hz2; go_at_call 109; refine (int_gcd _ r t x.num x.den (by exact HR8.out.x hz2) (by exact HT8.out.x hz2) hrn htn).mono ?_; rintro e w3 ⟨⟨v3, rfl, r3, rfl, -, hr3⟩, hx3⟩; have hz3 : X W9 w3 := hz2.trans hx3; have hr1 := hr1.x hx3; have hS3 := HC.out w3 hz3)
          | (have hguard := hz1; go_at_call 83; refine (int_compare_at _ t r1 x.den 1 1 (by exact HT8.out.x hz1) hr1 hsg1).mono ?_; rintro e w2 ⟨⟨v2, rfl, rfl⟩, hx2⟩; have hz2 : X W9 w2 := hz1.trans hx2; have hr1 := hr1.x hx2; have hS2 := HC.out w2 hz2)
          | (have hguard := hz0; go_at_call 101; refine (rat_one _).mono ?_; rintro e w1 ⟨⟨v1, rfl, r1, rfl, hr1⟩, hx1⟩; have hz1 : X W9 w1 := hz0.trans hx1; have hS1 := HC.out w1 hz1))
      go_wp2_with fail
      go_meet
      exact ⟨rfl, hz5⟩
    case rest =>
      obtain ⟨rfl, hxc⟩ := hcut
      have hS := HC.out wc hxc
      have hb0 := B0.out.x hxc
      have hne1 : ¬ w.heap.size = g7 := by omega
      have hne2 : ¬ w.heap.size = g9 := by omega
      have hR : RatR wc ⟨r.neg, r.A, r.n, r.c, t.neg, t.A, t.n, t.c⟩ x := ⟨x.den, HR8.out.x hxc, HT8.out.x hxc, Or.inl rfl⟩
      have k0 := hb0.cell (j := 0) rfl; have k1 := hb0.cell (j := 1) rfl; have k2 := hb0.cell (j := 2) rfl; have k3 := hb0.cell (j := 3) rfl; have f0 := hb0.frozen 0; have f1 := hb0.frozen 1; have f2 := hb0.frozen 2; have f3 := hb0.frozen 3
      have K := four_cells hb0 (.bool r.neg) (.slice r.A r.n r.c) (.bool t.neg) (.slice t.A t.n t.c)
      have HR := Hid.mk (hR.put4 hb0 ⟨r.neg, r.A, r.n, r.c, t.neg, t.A, t.n, t.c⟩)
      have HXF := Hid.mk ((HXp.out.trans hxc).put4 (Nat.le_refl _) ⟨r.neg, r.A, r.n, r.c, t.neg, t.A, t.n, t.c⟩)
      clear hb0 hR B0 hxc HC
      go_wp2_with fail
      exact bodyPost_ret (v := .tuple #[.agg #[.bool r.neg, .slice r.A r.n r.c, .bool t.neg, .slice t.A t.n t.c], .int .i64 0]) (by simp [results, Tryz.results99, go_sem, K.1, K.2.1, K.2.2.1, K.2.2.2]) rfl ⟨⟨_, rfl, ⟨r.neg, r.A, r.n, r.c, t.neg, t.A, t.n, t.c⟩, rfl, HR.out⟩, HXF.out⟩

set_option maxRecDepth 100000 in
theorem rat_parse (w : World) (s : ByteArray) (x : Rat) (h : QTxt s x) (hs : s.size ≤ 400) (hg : Gl w) :
    Calls Tryz.prog 71 #[.string s] w (Ret w fun w' v => ∃ r : QV, v = .tuple #[r.v, .int .i64 0] ∧ RatR w' r x) := by
  have H := Hid.mk h
  have HG := Hid.mk hg
  clear h hg
  go_enter Tryz.func71, Tryz.ntmps71
  go_wp2_with fail
  obtain ⟨W, hW, hX, b0, hWs⟩ := setup1 w #[.bool false, .slice none 0 0, .bool false, .slice none 0 0] 71
  rw [hW]
  clear hW
  refine (rat_read _ s x 400 H.out (by omega) (by omega) (HG.out.x hX)).mono ?_
  rintro e w1 ⟨⟨v1, rfl, r, rfl, hr⟩, hx1⟩
  have hb0 := b0.x hx1
  have k0 := hb0.cell (j := 0) rfl; have k1 := hb0.cell (j := 1) rfl; have k2 := hb0.cell (j := 2) rfl; have k3 := hb0.cell (j := 3) rfl; have f0 := hb0.frozen 0; have f1 := hb0.frozen 1; have f2 := hb0.frozen 2; have f3 := hb0.frozen 3
  have K := four_cells hb0 (.bool r.s) (.slice r.A r.n r.c) (.bool r.t) (.slice r.B r.m r.d)
  have HR := Hid.mk (hr.put4 hb0 r)
  have HXF := Hid.mk ((hX.trans hx1).put4 (Nat.le_refl _) r)
  clear b0 hb0 hX hx1 hr
  go_wp2_with fail
  exact bodyPost_ret (v := .tuple #[r.v, .int .i64 0]) (by simp [results, Tryz.results71, go_sem, K.1, K.2.1, K.2.2.1, K.2.2.2]) rfl ⟨⟨_, rfl, r, rfl, HR.out⟩, HXF.out⟩
end Go.Proofs.YtogakaiibijjpaaGreatDoor
