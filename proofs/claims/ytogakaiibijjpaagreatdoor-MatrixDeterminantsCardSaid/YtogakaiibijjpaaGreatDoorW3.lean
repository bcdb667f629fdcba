/- Lemmas for the proof, part 3: I14, Sh, I15, I16, I17, I18, R1, R2, T1, R3, R4. -/
import Derived.Test.YtogakaiibijjpaaGreatDoorW2
import Derived.Deep.CutBlock
import Derived.Shelf.Strings.Builder1
import Derived.Shelf.Strings.Builder2
import Derived.Shelf.Strings.OnBuilder
import Derived.Shelf.Strings.Trim
import Derived.Shelf.Small.Utf8
import Derived.Shelf.Small.Bits
import Derived.Shelf.Small.Strs
import Derived.Shelf.Small.Wraps
import Derived.Shelf.Strings.BuilderF
import Derived.Shelf.Strconv.Itoa0
import Derived.Shelf.Strconv.Itoa1
import Derived.Shelf.LaysM
import Derived.Shelf.Strconv.Itoa2
import Derived.Shelf.Strconv.Itoa3
import Derived.Ground.MpProg
import Derived.Shelf.Pu.ParseUintPublic10
import Derived.Shelf.Strings.Search1
import Derived.Shelf.Strings.Search2
import Derived.Shelf.Strings.Cut
import Derived.Shelf.Strings.Shaped
import Derived.Shelf.GgClosure.StringsIndexFunc
import Derived.Ground.GgwProg
import Derived.Shelf.GgClosure.StringsIndexFuncTop
import Derived.Shelf.Strings.Prefix
import Derived.Shelf.Unicode.Decode
import Derived.Shelf.Strings.Runes
import Derived.Shelf.Strings.AsciiSet
import Derived.Shelf.Bits.Mul64
import Derived.Shelf.Strings.Repeat
import Derived.Shelf.Unicode.DecodeSlow
import Derived.Shelf.Unicode.DecodeAny
import Derived.Shelf.Unicode.DecodeLast
import Derived.Shelf.Strings.FuncGrows
import Derived.Shelf.Slices.Turned
import Derived.Ground.Names2Prog
import Derived.Shelf.Slices.ReverseS
import Derived.Shelf.Slices.Cells
import Derived.Ground.SlgnProg
import Derived.Shelf.SlicesE.Clone
import Derived.Test.YtogakaiibijjpaaGreatDoorProg
import Derived.Lib.ItoaNum
import Derived.BigRegion
/- Package integer, fourteenth part: one digit of a long division. -/
set_option linter.unusedVariables false
set_option linter.unusedSimpArgs false
namespace Go.Proofs.YtogakaiibijjpaaGreatDoor
open Go.RowKit
open DDig

set_option maxRecDepth 100000 in
set_option maxHeartbeats 4000000 in
theorem int_digit (w : World) (g bv ov cu cv m : Nat) (lo us hi vs : List Int) (hu : us.length = m + 3) (hv : vs.length = m + 2) (hm : m ≤ 1099511627776) (hne : bv ≠ g)
    (hb : Blk w g 145 (win lo us hi)) (hr : ∀ j, j < m + 2 → w.cell? ⟨bv, ov + j, none⟩ = some (.int .u32 (vs.getD j 0))) (du : Dig B32 us) (dv : Dig B32 vs) (hp : 2147483648 ≤ vs.getD (m + 1) 0) (hlt : val B32 us < B32 * val B32 vs) :
    Calls Tryz.prog 166 #[.slice (some ⟨g, lo.length, none⟩) (m + 3) cu, .slice (some ⟨bv, ov, none⟩) (m + 2) cv] w
      (fun e w' => (e = .returned (.int .u32 (val B32 us / val B32 vs))) ∧ Tn g w w' ∧ ∃ xs, xs.length = m + 3 ∧ Dig B32 xs ∧ Blk w' g 145 (win lo xs hi) ∧ val B32 xs = val B32 us % val B32 vs) := by
  have HTOP := Hid.mk (top_of hu hv du dv (by omega) hlt)
  have HU := Hid.mk hu
  have HV := Hid.mk hv
  have HB := Hid.mk hb
  have HR := Hid.mk hr
  have DU := Hid.mk du
  have DV := Hid.mk dv
  have c0 := hb.wget (i := m + 2) (by omega)
  have c1 := hb.wget (i := m + 1) (by omega)
  have c2 := hb.wget (i := m) (by omega)
  have e1 := hr (m + 1) (by omega)
  have e2 := hr m (by omega)
  obtain ⟨u0, hu0⟩ : ∃ x, x = us.getD (m + 2) 0 := ⟨_, rfl⟩
  obtain ⟨u1, hu1⟩ : ∃ x, x = us.getD (m + 1) 0 := ⟨_, rfl⟩
  obtain ⟨u2, hu2⟩ : ∃ x, x = us.getD m 0 := ⟨_, rfl⟩
  obtain ⟨v1, hv1⟩ : ∃ x, x = vs.getD (m + 1) 0 := ⟨_, rfl⟩
  obtain ⟨v2, hv2⟩ : ∃ x, x = vs.getD m 0 := ⟨_, rfl⟩
  have bu0 : 0 ≤ u0 ∧ u0 ≤ 4294967295 := by rw [hu0]; exact dig_le du _
  have bu1 : 0 ≤ u1 ∧ u1 ≤ 4294967295 := by rw [hu1]; exact dig_le du _
  have bu2 : 0 ≤ u2 ∧ u2 ≤ 4294967295 := by rw [hu2]; exact dig_le du _
  have bv1 : 0 ≤ v1 ∧ v1 ≤ 4294967295 := by rw [hv1]; exact dig_le dv _
  have bv2 : 0 ≤ v2 ∧ v2 ≤ 4294967295 := by rw [hv2]; exact dig_le dv _
  rw [← hv1] at hp
  rw [← hu0] at c0
  rw [← hu1] at c1
  rw [← hu2] at c2
  rw [← hv1] at e1
  rw [← hv2] at e2
  have HTOP : Hid (Top B32 (pw B32 m) (val B32 vs) (val B32 us) v1 v2 u2 (u0 * B32 + u1)) := by rw [hv1, hv2, hu2, hu0, hu1]; exact HTOP.out
  have HC2 := Hid.mk hu2
  clear hu hv hb hr du dv hlt hu0 hu1 hu2 hv1 hv2
  obtain ⟨a0, a0'⟩ := bu0
  obtain ⟨a1, a1'⟩ := bu1
  obtain ⟨a2, a2'⟩ := bu2
  obtain ⟨d1, d1'⟩ := bv1
  obtain ⟨d2, d2'⟩ := bv2
  have hor := or_high a0 a0' a1 a1'
  have hb0 : (v1 == 0) = false := by rw [beq_eq_false_iff_ne]; omega
  go_enter Tryz.func166, Tryz.ntmps166
  have hq0 : 0 ≤ (u0 * 4294967296 + u1) / v1 := Int.ediv_nonneg (by omega) (by omega)
  have hq1 : (u0 * 4294967296 + u1) / v1 ≤ 8589934592 := by
    have : (u0 * 4294967296 + u1) / v1 < 8589934593 := Int.ediv_lt_of_lt_mul (by omega) (by omega)
    omega
  have hm0 : 0 ≤ (u0 * 4294967296 + u1) % v1 := Int.emod_nonneg _ (by omega)
  have hm1 : (u0 * 4294967296 + u1) % v1 < v1 := Int.emod_lt_of_pos _ (by omega)
  go_upto_block 0 with (first | (go_quiet (fail)) | fail)
  go_cut [7] (fun t7 wc => ∃ q : Int, ∃ dn, t7 = .int .u64 q ∧ wc = w.drewN dn ∧ 0 ≤ q ∧ q ≤ 4294967295 ∧ val B32 us / val B32 vs ≤ q ∧ q ≤ val B32 us / val B32 vs + 1)
  case first =>
    go_wp2_with fail
    go_loopw [7, 8] (fun t7 t8 wr => ∃ q r : Int, ∃ dn, t7 = .int .u64 q ∧ t8 = .int .u64 r ∧ wr = w.drewN dn ∧ 0 ≤ q ∧ q ≤ 8589934592 ∧ 0 ≤ r ∧ r ≤ 8589934590 ∧ Est B32 (pw B32 m) (val B32 vs) (val B32 us) v1 v2 u2 (u0 * B32 + u1) q r) (fun _ r _ => (4294967296 - intOf r).toNat)
    case atStart => exact ⟨_, _, _, rfl, rfl, World.drewN_drewN .., hq0, hq1, hm0, by omega, est_start HTOP.out⟩
    case round =>
      obtain ⟨q, r, dn, rfl, rfl, rfl, b0, b1, b2, b3, hest⟩ := hrel
      have HE := Hid.mk hest
      clear hest
      by_cases hr : r < 4294967296
      · have hrb : decide (r < 4294967296) = true := decide_eq_true hr
        by_cases hq : 4294967296 ≤ q
        · have hqb : decide (4294967296 ≤ q) = true := decide_eq_true hq
          have HN := Hid.mk (est_step HTOP.out HE.out (.inl hq))
          clear HE
          go_wp2
          go_quiet (fail)
          go_wp2
          go_roundw
          case rel => exact ⟨q - 1, r + v1, _, rfl, rfl, rfl, by omega, by omega, by omega, by omega, HN.out⟩
          case measure => simp [intOf]; omega
        · have hqb : decide (4294967296 ≤ q) = false := decide_eq_false hq
          have ⟨hm0, hm1⟩ := mul_bounds b0 (by omega) d2 d2'
          have hor2 := or_high b2 (by omega) a2 a2'
          by_cases hgt : r * 4294967296 + u2 < q * v2
          · have hgb : decide (r * 4294967296 + u2 < q * v2) = true := decide_eq_true hgt
            have HN := Hid.mk (est_step HTOP.out HE.out (.inr hgt))
            have hqp : 1 ≤ q := by
              have : 0 < q := Int.lt_of_not_ge fun h => by
                have : q = 0 := by omega
                rw [this] at hgt
                simp at hgt; omega
              omega
            clear HE
            go_wp2
            go_quiet (fail)
            go_wp2
            go_roundw
            case rel =>
              repeat apply Exists.intro
              exact ⟨⟨q - 1, r + v1, _, rfl, rfl, rfl, by omega, by omega, by omega, by omega, HN.out⟩, rfl⟩
            case measure => simp [intOf]; omega
          · have hgb : decide (r * 4294967296 + u2 < q * v2) = false := decide_eq_false hgt
            have HN := Hid.mk (est_end HTOP.out HE.out (.inr ⟨by unfold B32; omega, by unfold B32; omega⟩))
            clear HE
            go_wp2
            go_quiet (fail)
            go_wp2
            go_meet
            exact ⟨q, _, rfl, World.drewN_drewN .., b0, by omega, HN.out.2.1, HN.out.2.2⟩
      · have hrb : decide (r < 4294967296) = false := decide_eq_false hr
        have HN := Hid.mk (est_end HTOP.out HE.out (.inl (by unfold B32; omega)))
        clear HE
        go_wp2
        go_quiet (fail)
        go_wp2
        go_meet
        exact ⟨q, _, rfl, World.drewN_drewN .., b0, by have := HN.out.1; unfold B32 at this; omega, HN.out.2.1, HN.out.2.2⟩
  case rest =>
    obtain ⟨q, dn, rfl, rfl, b0, b1, b2, b3⟩ := hcut
    have HQ1 := Hid.mk b2
    have HQ2 := Hid.mk b3
    clear b2 b3 c0 c1 c2 e1 e2 hor hb0 hq0 hq1 hm0 hm1
    go_wp2_with fail
    go_loopw [9, 10, 86] (fun t9 t10 t86 wr => ∃ i : Nat, ∃ xs : List Int, ∃ cy bo : Int, i ≤ m + 2 ∧ t86 = .int .i64 i ∧ t9 = .int .u64 cy ∧ t10 = .int .i64 bo ∧ 0 ≤ cy ∧ cy ≤ 4294967295 ∧ 0 ≤ bo ∧ bo ≤ 1 ∧ xs.length = m + 3 ∧ Dig B32 xs ∧ (∀ j, i ≤ j → xs.getD j 0 = us.getD j 0) ∧ val B32 (xs.take i) = val B32 (us.take i) - q * val B32 (vs.take i) + pw B32 i * (cy + bo) ∧ Blk wr g 145 (win lo xs hi) ∧ Tn g w wr) (fun _ _ k _ => m + 2 - (intOf k).toNat)
    case atStart => exact ⟨0, us, 0, 0, Nat.zero_le _, rfl, rfl, rfl, by omega, by omega, by omega, by omega, HU.out, DU.out, fun j _ => rfl, by simp, HB.out, (Tn.refl g w).drewN _⟩
    case round =>
      obtain ⟨i, xs, cy, bo, hi', rfl, rfl, rfl, c0, c1, bo0, bo1, hxl, hd, hsame, hval, hbk, htn⟩ := hrel
      have HXL := Hid.mk hxl
      have HD := Hid.mk hd
      have HS := Hid.mk hsame
      have HVK := Hid.mk hval
      have HBK := Hid.mk hbk
      have HTN := Hid.mk htn
      clear hxl hd hsame hval hbk htn
      by_cases hlt : i < m + 2
      · have e0 := (HTN.out.cell (p := ⟨bv, ov + i, none⟩) hne).trans (HR.out i hlt)
        obtain ⟨d, hd⟩ : ∃ d, d = vs.getD i 0 := ⟨_, rfl⟩
        rw [← hd] at e0
        have ⟨x0, x1⟩ : 0 ≤ d ∧ d ≤ 4294967295 := by rw [hd]; exact dig_le DV.out i
        have HDV := Hid.mk hd
        clear hd
        have eo := HBK.out.wget (i := i) (by rw [HXL.out]; omega)
        rw [HS.out i (Nat.le_refl _)] at eo
        obtain ⟨u, hu⟩ : ∃ u, u = us.getD i 0 := ⟨_, rfl⟩
        rw [← hu] at eo
        have ⟨y0, y1⟩ : 0 ≤ u ∧ u ≤ 4294967295 := by rw [hu]; exact dig_le DU.out i
        have HUV := Hid.mk hu
        clear hu
        have ef := HBK.out.frozen (lo.length + i)
        have ⟨m0, m1⟩ := mul_bounds b0 b1 x0 x1
        have hi1 : (i : Int) < (m : Int) + 2 := by omega
        by_cases hneg : u - bo - (cy + q * d) % 4294967296 < 0
        · go_wp2
          go_roundw
          case rel =>
            have hl : i < xs.length := by rw [HXL.out]; omega
            refine ⟨i + 1, xs.set i ((u - bo - (cy + q * d)) % 4294967296), (cy + q * d) / 4294967296, 1, by omega, by go_num, rfl, rfl, by omega, by omega, by omega, by omega, by rw [List.length_set]; exact HXL.out, HD.out.set _ (by omega) (by unfold B32; omega), fun j hj => ?_, msub_step hl HVK.out HDV.out rfl (by rw [← HUV.out]; omega), HBK.out.wset hl _, HTN.out.set rfl _⟩
            rw [List.getD_eq_getElem?_getD, List.getElem?_set_ne (by omega), ← List.getD_eq_getElem?_getD]
            exact HS.out j (by omega)
          case measure => simp [intOf]; omega
        · go_wp2
          go_roundw
          case rel =>
            have hl : i < xs.length := by rw [HXL.out]; omega
            refine ⟨i + 1, xs.set i (u - bo - (cy + q * d) % 4294967296), (cy + q * d) / 4294967296, 0, by omega, by go_num, rfl, rfl, by omega, by omega, by omega, by omega, by rw [List.length_set]; exact HXL.out, HD.out.set _ (by omega) (by unfold B32; omega), fun j hj => ?_, msub_step hl HVK.out HDV.out rfl (by rw [← HUV.out]; omega), HBK.out.wset hl _, HTN.out.set rfl _⟩
            rw [List.getD_eq_getElem?_getD, List.getElem?_set_ne (by omega), ← List.getD_eq_getElem?_getD]
            exact HS.out j (by omega)
          case measure => simp [intOf]; omega
      · obtain rfl : i = m + 2 := by omega
        have hl : m + 2 < xs.length := by rw [HXL.out]; omega
        have eo := HBK.out.wget (i := m + 2) hl
        rw [HS.out _ (Nat.le_refl _)] at eo
        obtain ⟨u, hu⟩ : ∃ u, u = us.getD (m + 2) 0 := ⟨_, rfl⟩
        rw [← hu] at eo
        have ⟨y0, y1⟩ : 0 ≤ u ∧ u ≤ 4294967295 := by rw [hu]; exact dig_le DU.out _
        have ef := HBK.out.frozen (lo.length + (m + 2))
        have hend := msub_end (n := m + 2) HXL.out HU.out HV.out HVK.out
        rw [← hu] at hend
        have hxv := val_lt B32_pos (HD.out.take (m + 2))
        have hx0 := val_nonneg B32_pos (HD.out.take (m + 2))
        rw [List.length_take, Nat.min_eq_left (by omega)] at hxv
        have hVlt := val_lt B32_pos DV.out
        rw [HV.out] at hVlt
        have hV := HTOP.out.Vpos
        by_cases hneg : u - bo - cy < 0
        · have hno := digit_no hV (Int.le_of_lt hVlt) HQ2.out ⟨hx0, hxv⟩ hend hneg
          obtain ⟨k1, k2, k3⟩ := hno
          have HQ := Hid.mk k1
          have HX3 := Hid.mk k3
          have HVLT := Hid.mk hVlt
          have HVP := Hid.mk hV
          have HT := Hid.mk (HTN.out.set (p := ⟨g, lo.length + (m + 2), none⟩) rfl (.int .u32 4294967295))
          have HB2 := Hid.mk (HBK.out.wset hl 4294967295)
          have HD2 := Hid.mk (HD.out.set (m + 2) (v := 4294967295) (by omega) (by unfold B32; omega))
          have HQ0 : Hid (0 ≤ val B32 us / val B32 vs) := HTOP.out.Q0
          have hq1 : 1 ≤ q := by have := HQ0.out; omega
          clear k1 k3 hend hxv hx0 hVlt hV hu hneg
          go_wp2
          go_loopw [9, 139] (fun t9 t139 wr => ∃ i : Nat, ∃ ys : List Int, ∃ cy : Int, i ≤ m + 2 ∧ t139 = .int .i64 i ∧ t9 = .int .u64 cy ∧ 0 ≤ cy ∧ cy ≤ 1 ∧ ys.length = m + 3 ∧ Dig B32 ys ∧ (∀ j, i ≤ j → ys.getD j 0 = (xs.set (m + 2) 4294967295).getD j 0) ∧ val B32 (ys.take i) + pw B32 i * cy = val B32 (xs.take i) + val B32 (vs.take i) ∧ Blk wr g 145 (win lo ys hi) ∧ Tn g w wr) (fun _ k _ => m + 2 - (intOf k).toNat)
          case atStart => exact ⟨0, xs.set (m + 2) 4294967295, 0, Nat.zero_le _, rfl, rfl, by omega, by omega, by rw [List.length_set]; exact HXL.out, HD2.out, fun j _ => rfl, by simp, HB2.out, HT.out⟩
          case round =>
            obtain ⟨i, ys, cz, hi', rfl, rfl, z0, z1, hyl, hyd, hsame, hval, hbk, htn⟩ := hrel
            have HYL := Hid.mk hyl
            have HYD := Hid.mk hyd
            have HYS := Hid.mk hsame
            have HYV := Hid.mk hval
            have HYB := Hid.mk hbk
            have HYT := Hid.mk htn
            clear hyl hyd hsame hval hbk htn
            by_cases hlt : i < m + 2
            · have e0 := (HYT.out.cell (p := ⟨bv, ov + i, none⟩) hne).trans (HR.out i hlt)
              obtain ⟨d, hd⟩ : ∃ d, d = vs.getD i 0 := ⟨_, rfl⟩
              rw [← hd] at e0
              have ⟨x0, x1⟩ : 0 ≤ d ∧ d ≤ 4294967295 := by rw [hd]; exact dig_le DV.out i
              have HDV := Hid.mk hd
              clear hd
              have hli : i < ys.length := by rw [HYL.out]; omega
              have eo := HYB.out.wget hli
              have hxi : ys.getD i 0 = xs.getD i 0 := by
                rw [HYS.out i (Nat.le_refl _), List.getD_eq_getElem?_getD, List.getElem?_set_ne (by omega), ← List.getD_eq_getElem?_getD]
              rw [hxi] at eo
              obtain ⟨x, hx⟩ : ∃ x, x = xs.getD i 0 := ⟨_, rfl⟩
              rw [← hx] at eo
              have ⟨y0, y1⟩ : 0 ≤ x ∧ x ≤ 4294967295 := by rw [hx]; exact dig_le HD.out i
              have HXI := Hid.mk hx
              clear hx hxi
              have ef := HYB.out.frozen (lo.length + i)
              have hi1 : (i : Int) < (m : Int) + 2 := by omega
              have HLI := Hid.mk hli
              clear hli
              go_wp2
              go_roundw
              case rel =>
                refine ⟨i + 1, ys.set i ((cz + (x + d)) % 4294967296), (cz + (x + d)) / 4294967296, by omega, by go_num, rfl, by omega, by omega, by rw [List.length_set]; exact HYL.out, HYD.out.set _ (by omega) (by unfold B32; omega), fun j hj => ?_, plus_step HLI.out HYV.out _ (by rw [← HXI.out, ← HDV.out]; omega), HYB.out.wset HLI.out _, HYT.out.set rfl _⟩
                rw [List.getD_eq_getElem?_getD, List.getElem?_set_ne (by omega), ← List.getD_eq_getElem?_getD]
                exact HYS.out j (by omega)
              case measure => simp [intOf]; omega
            · obtain rfl : i = m + 2 := by omega
              have hly : m + 2 < ys.length := by rw [HYL.out]; omega
              have eo := HYB.out.wget hly
              have hxi : ys.getD (m + 2) 0 = 4294967295 := by
                rw [HYS.out _ (Nat.le_refl _), List.getD_eq_getElem?_getD, List.getElem?_set_self (by rw [HXL.out]; omega)]; rfl
              rw [hxi] at eo
              have ef := HYB.out.frozen (lo.length + (m + 2))
              have w1 := val_lt B32_pos (HYD.out.take (m + 2))
              have w0 := val_nonneg B32_pos (HYD.out.take (m + 2))
              rw [List.length_take, Nat.min_eq_left (by omega)] at w1
              have hv := HYV.out
              rw [HX3.out, List.take_of_length_le (l := vs) (by rw [HV.out]; omega)] at hv
              have hm0 := Int.emod_nonneg (val B32 us) (show val B32 vs ≠ 0 by have := HVP.out; omega)
              have hm1 := Int.emod_lt_of_pos (val B32 us) HVP.out
              have hvl := HVLT.out
              have hcz : cz = 1 := by
                by_cases e : cz = 0
                · subst e; simp at hv; omega
                · omega
              subst hcz
              have hF : (ys.set (m + 2) 0).length = m + 3 ∧ Dig B32 (ys.set (m + 2) 0) ∧ Blk (wr.setCell ⟨g, lo.length + (m + 2), none⟩ (.int .u32 0)) g 145 (win lo (ys.set (m + 2) 0) hi) ∧ val B32 (ys.set (m + 2) 0) = val B32 us % val B32 vs := by
                refine ⟨by rw [List.length_set]; exact HYL.out, HYD.out.set _ (by omega) B32_pos, HYB.out.wset hly 0, ?_⟩
                have := val_take_set (b := B32) hly 0
                rw [List.take_of_length_le (by rw [List.length_set, HYL.out]; omega)] at this
                rw [this]; simp at hv ⊢; omega
              have HF := Hid.mk hF
              have HTT := Hid.mk (HYT.out.set (p := ⟨g, lo.length + (m + 2), none⟩) rfl (.int .u32 0))
              clear hF hv hm0 hm1 hvl w0 w1 hxi hly
              go_wp2
              go_ret
              refine ⟨?_, HTT.out, _, HF.out.1, HF.out.2.1, HF.out.2.2.1, HF.out.2.2.2⟩
              have : val B32 us / val B32 vs = q - 1 := by have := HQ.out; omega
              rw [this]; rfl
        · have hyes := digit_yes hV (Int.le_of_lt hVlt) HQ1.out ⟨hx0, hxv⟩ hend (by omega)
          obtain ⟨k1, k2, k3⟩ := hyes
          have hF : (xs.set (m + 2) 0).length = m + 3 ∧ Dig B32 (xs.set (m + 2) 0) ∧ Blk (wr.setCell ⟨g, lo.length + (m + 2), none⟩ (.int .u32 0)) g 145 (win lo (xs.set (m + 2) 0) hi) ∧ val B32 (xs.set (m + 2) 0) = val B32 us % val B32 vs := by
            refine ⟨by rw [List.length_set]; exact HXL.out, HD.out.set _ (by omega) B32_pos, HBK.out.wset hl 0, ?_⟩
            have := val_take_set (b := B32) hl 0
            rw [List.take_of_length_le (by rw [List.length_set, HXL.out]; omega)] at this
            rw [this, k3]; simp
          have HF := Hid.mk hF
          have HT := Hid.mk (HTN.out.set (p := ⟨g, lo.length + (m + 2), none⟩) rfl (.int .u32 0))
          have HQ := Hid.mk k1
          have HK2 : u - bo - cy = 0 := k2
          clear hF k1 k2 k3 hend hxv hx0 hVlt hV hu
          go_wp2
          go_ret
          exact ⟨by rw [← HQ.out]; rfl, HT.out, _, HF.out.1, HF.out.2.1, HF.out.2.2.1, HF.out.2.2.2⟩
end Go.Proofs.YtogakaiibijjpaaGreatDoor

/- Contracts of the shelf at this translation, in plain words (written by the shelf's own tool). -/
set_option linter.unusedVariables false
set_option linter.unusedSimpArgs false
namespace Go.Proofs
open Go.Shelf
def Tryz.lays133_ren : Go.Shelf.Ren := ⟨fun | 133 => 164 | 128 => 183 | n => n, fun | 51 => 145 | 3 => 3 | 4 => 4 | 46 => 153 | 5 => 5 | 9 => 9 | n => n, fun | n => n⟩
theorem Tryz.lays133 : Go.Proofs.Lays.n133 Tryz.prog Tryz.lays133_ren := {
  mixed := by kernel_rfl
  f128 := Tryz.func183.trans (congrArg some (by kernel_rfl))
  f133 := Tryz.func164.trans (congrArg some (by kernel_rfl))
  t3 := Tryz.underlying3
  a3 := Tryz.isAgg3
  z3 := Tryz.sizeOf3
  v3 := Tryz.zeroValue3
  t4 := Tryz.underlying4
  a4 := Tryz.isAgg4
  z4 := Tryz.sizeOf4
  v4 := Tryz.zeroValue4
  t5 := Tryz.underlying5
  a5 := Tryz.isAgg5
  z5 := Tryz.sizeOf5
  v5 := Tryz.zeroValue5
  t9 := Tryz.underlying9
  a9 := Tryz.isAgg9
  z9 := Tryz.sizeOf9
  v9 := Tryz.zeroValue9
  t46 := Tryz.underlying153
  a46 := Tryz.isAgg153
  z46 := Tryz.sizeOf153
  v46 := Tryz.zeroValue153
  t51 := Tryz.underlying145
  a51 := Tryz.isAgg145
  z51 := Tryz.sizeOf145
  v51 := Tryz.zeroValue145 }
theorem Tryz.bits_LeadingZeros32 (x : Int) (w : World) (h0 : 0 ≤ x) (h1 : x ≤ 4294967295) :
    Calls Tryz.prog 164 #[.int .u32 x] w fun e w' => e = .returned (.int .i64 (32 - (Lib.bitLen x.toNat : Int))) ∧ w' = w := Any.bits_LeadingZeros32 Tryz.lays133 x w h0 h1
end Go.Proofs

/- Package integer, fifteenth part: what long division keeps. -/
set_option linter.unusedVariables false
set_option linter.unusedSimpArgs false
namespace Go.Proofs.YtogakaiibijjpaaGreatDoor
open Go.RowKit
open DDig

theorem lz_calls (w : World) (x : Int) (h0 : 1 ≤ x) (h1 : x ≤ 4294967295) :
    Calls Tryz.prog 164 #[.int .u32 x] w (fun e w' => (∃ b : Nat, e = .returned (.int .i64 b) ∧ b ≤ 31 ∧ 2147483648 ≤ x * 2 ^ b ∧ x * 2 ^ b ≤ 4294967295) ∧ w' = w) := by
  refine (Tryz.bits_LeadingZeros32 x w (by omega) h1).mono ?_
  rintro e w' ⟨rfl, rfl⟩
  refine ⟨?_, rfl⟩
  obtain ⟨n, rfl⟩ := Int.eq_ofNat_of_zero_le (show 0 ≤ x by omega)
  have ⟨k1, k2, k3⟩ := Lib.bitLenAux_bounds 64 n (by omega) (by omega)
  have k4 : Lib.bitLen n ≤ 32 := Lib.bitLen_le n 32 (by omega) (by omega)
  change 1 ≤ Lib.bitLen n at k1
  change 2 ^ (Lib.bitLen n - 1) ≤ n at k2
  change n < 2 ^ Lib.bitLen n at k3
  rw [Int.toNat_natCast]
  generalize Lib.bitLen n = l at k1 k2 k3 k4 ⊢
  have ec : (n : Int) * 2 ^ (32 - l) = ((n * 2 ^ (32 - l) : Nat) : Int) := by rw [Int.natCast_mul, Int.natCast_pow]; rfl
  rw [show (32 : Int) - (l : Int) = ((32 - l : Nat) : Int) by omega]
  refine ⟨32 - l, rfl, by omega, ?_, ?_⟩
  · have e : 2 ^ (l - 1) * 2 ^ (32 - l) = 2147483648 := by
      rw [← Nat.pow_add, show l - 1 + (32 - l) = 31 by omega]
    have : 2 ^ (l - 1) * 2 ^ (32 - l) ≤ n * 2 ^ (32 - l) := Nat.mul_le_mul_right _ k2
    rw [e] at this
    rw [ec]; omega
  · have e : 2 ^ l * 2 ^ (32 - l) = 4294967296 := by
      rw [← Nat.pow_add, show l + (32 - l) = 32 by omega]
    have : (n + 1) * 2 ^ (32 - l) ≤ 2 ^ l * 2 ^ (32 - l) := Nat.mul_le_mul_right _ k3
    rw [e] at this
    have hp : 0 < 2 ^ (32 - l) := Nat.pow_pos (by omega)
    rw [Nat.add_mul] at this
    have h5 : n * 2 ^ (32 - l) ≤ 4294967295 := by omega
    rw [ec]; omega

/-- What the loop of the long division keeps: k digits of the quotient are still to come. -/
structure DivI (m k : Nat) (U V : Int) (us xs : List Int) : Prop where
  du : Dig B32 us
  dx : Dig B32 xs
  kl : k ≤ xs.length
  len : us.length = xs.length + m + 2
  low : val B32 (us.drop k) < V
  sum : U = val B32 us + V * (pw B32 k * val B32 (xs.drop k))

theorem val_drop_zero {b : Int} (hb : 1 < b) {ys : List Int} (d : Dig b ys) {n : Nat} (h : val b ys < pw b n) : val b (ys.drop n) = 0 := by
  by_cases hl : n ≤ ys.length
  · rw [val_take_drop b ys n hl] at h
    have h1 := val_nonneg (b := b) (by omega) (d.take n)
    have h2 := val_nonneg (b := b) (by omega) (d.drop n)
    apply Classical.byContradiction
    intro hne
    have : pw b n * 1 ≤ pw b n * val b (ys.drop n) := Int.mul_le_mul_of_nonneg_left (by omega) (by have := pw_pos (b := b) (by omega) n; omega)
    omega
  · rw [List.drop_of_length_le (by omega)]; rfl

theorem div_step {m i : Nat} {U V : Int} {us xs : List Int} (h : DivI m (i + 1) U V us xs) (hV : V < pw B32 (m + 2)) (hV0 : 0 < V) :
    ∃ lo win hi, us = lo ++ (win ++ hi) ∧ lo.length = i ∧ win.length = m + 3 ∧ Dig B32 win ∧ val B32 win < B32 * V ∧
      ∀ win' : List Int, win'.length = m + 3 → Dig B32 win' → val B32 win' = val B32 win % V → DivI m i U V (lo ++ (win' ++ hi)) (xs.set i (val B32 win / V)) := by
  have hk := h.kl
  have hl := h.len
  have e1 : us = us.take i ++ ((us.drop i).take (m + 3) ++ (us.drop i).drop (m + 3)) := by
    rw [List.take_append_drop, List.take_append_drop]
  have l1 : (us.take i).length = i := by rw [List.length_take]; omega
  have l2 : ((us.drop i).take (m + 3)).length = m + 3 := by rw [List.length_take, List.length_drop]; omega
  have dwin : Dig B32 ((us.drop i).take (m + 3)) := (h.du.drop i).take _
  have dhi : Dig B32 ((us.drop i).drop (m + 3)) := (h.du.drop i).drop _
  have dlo : Dig B32 (us.take i) := h.du.take i
  -- what lies above the window is 0
  have hhi : val B32 ((us.drop i).drop (m + 3)) = 0 := by
    rw [List.drop_drop, show i + (m + 3) = (i + 1) + (m + 2) by omega, ← List.drop_drop]
    exact val_drop_zero B32_gt (h.du.drop _) (Int.lt_trans h.low hV)
  have hwin : val B32 (us.drop i) = val B32 ((us.drop i).take (m + 3)) := by
    rw [val_take_drop B32 (us.drop i) (m + 3) (by rw [List.length_drop]; omega), hhi]; simp
  have hd := val_drop (b := B32) (xs := us) (k := i) (by omega)
  have hdig := h.du.get (i := i) (by omega)
  have hlow := h.low
  have hlow0 := val_nonneg B32_pos (h.du.drop (i + 1))
  have hlt : val B32 ((us.drop i).take (m + 3)) < B32 * V := by
    rw [← hwin, hd]
    have : B32 * (val B32 (us.drop (i + 1)) + 1) ≤ B32 * V := Int.mul_le_mul_of_nonneg_left (by omega) (Int.le_of_lt B32_pos)
    rw [Int.mul_add] at this
    omega
  have hw0 := val_nonneg B32_pos dwin
  refine ⟨_, _, _, e1, l1, l2, dwin, hlt, fun win' k1 k2 k3 => ?_⟩
  obtain ⟨W, hW⟩ : ∃ W, W = val B32 ((us.drop i).take (m + 3)) := ⟨_, rfl⟩
  rw [← hW] at hlt hw0 k3 hwin ⊢
  have hq0 : 0 ≤ W / V := Int.ediv_nonneg hw0 (by omega)
  have hq1 : W / V < B32 := Int.ediv_lt_of_lt_mul hV0 hlt
  have hr1 := Int.emod_lt_of_pos W hV0
  have hsp := Int.mul_ediv_add_emod W V
  have hval : val B32 ((us.take i) ++ (win' ++ (us.drop i).drop (m + 3))) = val B32 (us.take i) + pw B32 i * (W % V) := by
    rw [val_append, val_append, l1, hhi, k3]; simp
  have hold : val B32 us = val B32 (us.take i) + pw B32 i * W := by
    rw [val_take_drop B32 us i (by omega), hwin]
  have hdx : val B32 ((xs.set i (W / V)).drop i) = W / V + B32 * val B32 (xs.drop (i + 1)) := val_drop_set (by omega) _
  refine ⟨dlo.append (k2.append dhi), h.dx.set _ hq0 hq1, by rw [List.length_set]; omega, ?_, ?_, ?_⟩
  · simp only [List.length_append, List.length_set, l1, k1, List.length_drop]; omega
  · rw [List.drop_append_of_le_length (by omega), List.drop_of_length_le (by omega), List.nil_append, val_append, hhi, k3]; simp; exact hr1
  · rw [hval, hdx, h.sum, hold, pw_succ]
    have : pw B32 i * W = pw B32 i * (V * (W / V)) + pw B32 i * (W % V) := by rw [← Int.mul_add, hsp]
    rw [this]; grind

theorem div_end {m : Nat} {U V : Int} {us xs : List Int} (h : DivI m 0 U V us xs) (hV0 : 0 < V) : val B32 xs = U / V ∧ val B32 us = U % V := by
  have h1 := h.low
  have h2 := h.sum
  have h3 := val_nonneg B32_pos h.du
  simp only [List.drop_zero, pw_zero, Int.one_mul] at h1 h2
  rw [h2]
  constructor
  · rw [Int.add_mul_ediv_left _ _ (by omega), Int.ediv_eq_zero_of_lt h3 h1]; simp
  · rw [Int.add_mul_emod_self_left, Int.emod_eq_of_lt h3 h1]

/-- The divisor, raised until its first digit is great. -/
theorem raised_norm {q vs0 : List Int} {m b : Nat} {y : Int} (hq : q.length = m + 2) (dq : Dig B32 q) (hy : y = val B32 q) (hb : b ≤ 31) (h1 : 2147483648 ≤ q.getD (m + 1) 0 * 2 ^ b) (h2 : q.getD (m + 1) 0 * 2 ^ b ≤ 4294967295)
    (d0 : Dig B32 vs0) (hv : val B32 vs0 = y * 2 ^ b) : (trim vs0).length = m + 2 ∧ 2147483648 ≤ (trim vs0).getD (m + 1) 0 ∧ val B32 (trim vs0) < pw B32 (m + 2) := by
  have ⟨p1, p0⟩ := pow_le31 hb
  have e1 := val_take_succ (b := B32) (xs := q) (i := m + 1) (by omega)
  rw [List.take_of_length_le (by omega)] at e1
  have a0 := val_nonneg B32_pos (dq.take (m + 1))
  have a1 := val_lt B32_pos (dq.take (m + 1))
  rw [List.length_take, Nat.min_eq_left (by omega)] at a1
  obtain ⟨l, hl⟩ : ∃ l, l = q.getD (m + 1) 0 := ⟨_, rfl⟩
  rw [← hl] at e1 h1 h2
  have hP := pw_pos B32_pos (m + 1)
  obtain ⟨P, hPP⟩ : ∃ P, P = pw B32 (m + 1) := ⟨_, rfl⟩
  rw [← hPP] at e1 a1 hP
  have hlow : P * 2147483648 ≤ y * 2 ^ b := by
    rw [hy, e1, Int.add_mul, Int.mul_assoc]
    have t1 : P * 2147483648 ≤ P * (l * 2 ^ b) := Int.mul_le_mul_of_nonneg_left h1 (by omega)
    have t2 : 0 ≤ val B32 (q.take (m + 1)) * 2 ^ b := Int.mul_nonneg a0 (by omega)
    omega
  have hhigh : y * 2 ^ b < P * 4294967296 := by
    obtain ⟨c, hc⟩ := pow_dvd32 hb
    have hlc : l + 1 ≤ c := by
      have : l < c := by
        apply Int.lt_of_mul_lt_mul_left (a := 2 ^ b) _ (by omega)
        rw [← hc, Int.mul_comm]; omega
      omega
    have t1 : y < P * (l + 1) := by rw [hy, e1, Int.mul_add]; omega
    have t2 : y * 2 ^ b < P * (l + 1) * 2 ^ b := Int.mul_lt_mul_of_pos_right t1 p0
    have t3 : P * (l + 1) * 2 ^ b ≤ P * c * 2 ^ b := Int.mul_le_mul_of_nonneg_right (Int.mul_le_mul_of_nonneg_left hlc (by omega)) (by omega)
    rw [hc]
    have : P * c * 2 ^ b = P * (2 ^ b * c) := by grind
    omega
  have dt := dig_trim d0
  have vt : val B32 (trim vs0) = y * 2 ^ b := by rw [val_trim, hv]
  have hlt : val B32 (trim vs0) < pw B32 (m + 2) := by rw [vt, pw_succ, ← hPP]; unfold B32; rw [Int.mul_comm 4294967296]; exact hhigh
  have len1 : ¬ m + 2 < (trim vs0).length := by
    intro g
    have t := val_ge B32_pos dt (norm_trim vs0) (by intro e; rw [e] at g; simp at g)
    have t2 := pw_mono (b := B32) (by decide) (show m + 2 ≤ (trim vs0).length - 1 by omega)
    omega
  have len2 : ¬ (trim vs0).length < m + 2 := by
    intro g
    have t := val_lt B32_pos dt
    have t2 := pw_mono (b := B32) (by decide) (show (trim vs0).length ≤ m + 1 by omega)
    rw [vt] at t
    rw [← hPP] at t2
    omega
  have hlen : (trim vs0).length = m + 2 := by omega
  refine ⟨hlen, ?_, hlt⟩
  have e2 := val_take_succ (b := B32) (xs := trim vs0) (i := m + 1) (by omega)
  rw [List.take_of_length_le (by omega), vt, ← hPP] at e2
  have b1 := val_lt B32_pos (dt.take (m + 1))
  rw [List.length_take, Nat.min_eq_left (by omega), ← hPP] at b1
  apply Int.le_of_not_gt
  intro hlt2
  have : P * ((trim vs0).getD (m + 1) 0 + 1) ≤ P * 2147483648 := Int.mul_le_mul_of_nonneg_left (by omega) (by omega)
  rw [Int.mul_add] at this
  omega

/-- The dividend, raised: its first digits are less than the divisor. -/
theorem raised_low {p us : List Int} {k m b : Nat} {x V : Int} (dp : Dig B32 p) (hp : p.length = k + m + 1) (hx : x = val B32 p) (hb : b ≤ 31) (du : Dig B32 us) (hl : us.length = p.length + 1) (hv : val B32 us = x * 2 ^ b) (hV : pw B32 (m + 1) * 2147483648 ≤ V) : val B32 (us.drop k) < V := by
  have ⟨p1, p0⟩ := pow_le31 hb
  have h1 := val_lt B32_pos dp
  have e1 := val_take_drop B32 us k (by omega)
  have a0 := val_nonneg B32_pos (du.take k)
  have hP := pw_pos B32_pos k
  -- B^k * top ≤ x 2^b < B^(k+m+1) 2^b
  have t1 : pw B32 k * val B32 (us.drop k) < pw B32 k * (pw B32 (m + 1) * 2 ^ b) := by
    have : x * 2 ^ b < pw B32 (k + (m + 1)) * 2 ^ b := Int.mul_lt_mul_of_pos_right (by rw [hx, show k + (m + 1) = p.length by omega]; exact h1) p0
    rw [pw_add] at this
    have e3 : pw B32 k * pw B32 (m + 1) * 2 ^ b = pw B32 k * (pw B32 (m + 1) * 2 ^ b) := Int.mul_assoc _ _ _
    omega
  have t2 := Int.lt_of_mul_lt_mul_left t1 (Int.le_of_lt hP)
  have t3 : pw B32 (m + 1) * 2 ^ b ≤ pw B32 (m + 1) * 2147483648 := Int.mul_le_mul_of_nonneg_left p1 (Int.le_of_lt (pw_pos B32_pos _))
  omega

end Go.Proofs.YtogakaiibijjpaaGreatDoor

/- Package integer, sixteenth part: the quotient and the rest of two magnitudes. -/
set_option linter.unusedVariables false
set_option linter.unusedSimpArgs false
namespace Go.Proofs.YtogakaiibijjpaaGreatDoor
open Go.RowKit
open DDig

def DivR (x y : Int) (w' : World) (v : Value) : Prop := ∃ A1 n1 c1 A2 n2 c2, v = .tuple #[.slice A1 n1 c1, .slice A2 n2 c2] ∧ MagR w' A1 n1 c1 (x / y) ∧ MagR w' A2 n2 c2 (x % y)

theorem MagR.nil (w : World) (A : Option Addr) (c : Nat) : MagR w A 0 c 0 := ⟨[], rfl, by omega, Rd.nil _ _ _, ⟨Dig.nil _, Norm.nil⟩, rfl⟩

set_option maxRecDepth 100000 in
set_option maxHeartbeats 1000000 in
theorem div_less (w : World) (A B : Option Addr) (n m c d : Nat) (x y : Int) (hx : MagR w A n c x) (hy : MagR w B m d y) (hlt : x < y) :
    Calls Tryz.prog 138 #[.slice A n c, .slice B m d] w (Ret w (DivR x y)) := by
  have hs : Int.sign (x - y) < 0 := by rw [Int.sign_eq_neg_one_of_neg (by omega)]; omega
  have HR : Hid (∀ w', X w w' → DivR x y w' (.tuple #[.slice none 0 0, .slice A n c])) := by
    intro w' hX
    refine ⟨_, _, _, _, _, _, rfl, ?_, ?_⟩
    · rw [Int.ediv_eq_zero_of_lt hx.nonneg hlt]; exact MagR.nil _ _ _
    · rw [Int.emod_eq_of_lt hx.nonneg hlt]; exact hx.x hX
  have H1 := Hid.mk hx
  have H2 := Hid.mk hy
  clear hx hy hlt
  go_enter Tryz.func138, Tryz.ntmps138
  go_wp2_with fail
  refine (order_calls _ _ _ _ _ _ _ _ _ H1.out H2.out).mono ?_
  rintro e w1 ⟨⟨v, rfl, rfl⟩, hx1⟩
  have HX := Hid.mk hx1
  clear hx1
  go_wp2
  go_ret2
  exact ⟨⟨_, rfl, HR.out _ HX.out⟩, HX.out⟩

set_option maxRecDepth 100000 in
set_option maxHeartbeats 1000000 in
theorem div_one (w : World) (A B : Option Addr) (n c d : Nat) (x y : Int) (hx : MagR w A n c x) (hy : MagR w B 1 d y) (hn : n ≤ 1099511627776) (hy0 : y ≠ 0) (hle : y ≤ x) :
    Calls Tryz.prog 138 #[.slice A n c, .slice B 1 d] w (Ret w (DivR x y)) := by
  have hs : ¬ x - y < 0 := by omega
  obtain ⟨q, hq, _, rq, ⟨dq, _⟩, hyq⟩ := id hy
  have hcell := rq.2 (by omega)
  obtain ⟨b1, o1, rfl, hc⟩ := hcell
  have c0 := hc 0 (by omega)
  have hy1 : y = q.getD 0 0 := by
    rw [hyq]
    match q, hq with
    | [z], _ => simp [val]
  rw [Nat.add_zero, ← hy1] at c0
  have ⟨hy2, hy3⟩ : 0 ≤ y ∧ y ≤ 4294967295 := by rw [hy1]; exact dig_le dq 0
  have hyp : 0 < y := by omega
  have H1 := Hid.mk hx
  have H2 := Hid.mk hy
  clear hx hy hyq hq rq dq hc hy1 hle
  go_enter Tryz.func138, Tryz.ntmps138
  go_wp2_with fail
  refine (order_calls _ _ _ _ _ _ _ _ _ H1.out H2.out).mono ?_
  rintro e w1 ⟨⟨v, rfl, rfl⟩, hx1⟩
  have HX := Hid.mk hx1
  replace c0 := hx1.cell c0
  clear hx1
  go_wp2_with fail
  refine (int_short _ _ _ _ _ _ (H1.out.x HX.out) hn hyp hy3).mono ?_
  rintro e w2 ⟨⟨v, rfl, A', n', c', rfl, hM⟩, hx2⟩
  have HX2 := Hid.mk (HX.out.trans hx2)
  have HM := Hid.mk hM
  clear hx2 hM
  go_wp2_with fail
  obtain ⟨r, hr⟩ : ∃ r, r = x % y := ⟨_, rfl⟩
  have hr0 : 0 ≤ r ∧ r ≤ 4294967295 := by
    rw [hr]
    have := Int.emod_nonneg x hy0
    have := Int.emod_lt_of_pos x hyp
    omega
  rw [← hr]
  have hb := Blk.new w2 #[.int .u32 r] 145
  have hd : Dig B32 [r] := Dig.cons hr0.1 (by unfold B32; omega) (Dig.nil _)
  have hrd : Rd (w2.alloc (.cells #[.int .u32 r] 145)) .u32 (some ⟨w2.heap.size, 0, none⟩) [r] := Blk.rd (k := .u32) (xs := [r]) hb (by simp)
  refine (int_trim _ (some ⟨w2.heap.size, 0, none⟩) 1 [r] (Nat.le_refl _) hrd).mono ?_
  rintro e w3 ⟨⟨v, rfl, rfl⟩, hx3⟩
  have hM3 := trim_mag (c := 1) (Nat.le_refl _) (hrd.x hx3) hd
  have hv : val B32 [r] = x % y := by rw [← hr]; simp [val]
  rw [hv] at hM3
  have hX3 := (HX2.out.alloc (.cells #[.int .u32 r] 145)).trans hx3
  have HR : Hid (DivR x y w3 (.tuple #[.slice A' n' c', .slice (some ⟨w2.heap.size, 0, none⟩) (trim [r]).length 1])) :=
    ⟨_, _, _, _, _, _, rfl, HM.out.x (((X.refl w2).alloc _).trans hx3), hM3⟩
  have HX3 := Hid.mk hX3
  clear hM3 hv hX3 hx3 hrd hd hb HM HX2 HX hr0 hr
  obtain ⟨l, hl⟩ : ∃ l, l = (trim [r]).length := ⟨_, rfl⟩
  rw [← hl] at HR ⊢
  clear hl
  go_wp2
  go_ret2
  exact ⟨⟨_, rfl, HR.out⟩, HX3.out⟩

theorem Blk.fresh {w w' : World} {g : Nat} {e : TypeId} {cs : List Value} (h : Blk w g e cs) (hg : w'.heap.size ≤ w.heap.size) (k : Nat) (hk : k < w'.heap.size) (hge : w'.heap.size ≤ g) : k ≠ g := by omega

set_option maxRecDepth 100000 in
set_option maxHeartbeats 4000000 in
theorem div_long (w : World) (A B : Option Addr) (n k m c d : Nat) (x y : Int) (hx : MagR w A n c x) (hy : MagR w B (m + 2) d y) (hn : n = k + m + 2) (hs : n ≤ 549755813888) (hle : y ≤ x) :
    Calls Tryz.prog 138 #[.slice A n c, .slice B (m + 2) d] w (Ret w (DivR x y)) := by
  subst hn
  have hmb : m ≤ 549755813888 := by omega
  have hkb : k ≤ 549755813888 := by omega
  have hs1 : ¬ x - y < 0 := by omega
  obtain ⟨p, hp, _, rp, ⟨dp, np⟩, hxv⟩ := id hx
  obtain ⟨q, hq, _, rq, ⟨dq, nq⟩, hyv⟩ := id hy
  obtain ⟨b1, o1, rfl, hc⟩ := rq.2 (by omega)
  have c0 := hc (m + 1) (by omega)
  obtain ⟨z, hz⟩ : ∃ z, z = q.getD (m + 1) 0 := ⟨_, rfl⟩
  rw [← hz] at c0
  have ⟨hz0, hz1⟩ : 0 ≤ z ∧ z ≤ 4294967295 := by rw [hz]; exact dig_le dq _
  have hz2 : z ≠ 0 := by
    have := (norm_iff.1 nq) (by omega)
    rw [hz]
    rwa [← hq] at this
  have hyp : 0 < y := by
    rw [hyv]; exact val_pos B32_pos dq nq (by intro e; rw [e] at hq; simp at hq)
  have H1 := Hid.mk hx
  have H2 := Hid.mk hy
  have HP := Hid.mk (And.intro hp (And.intro dp hxv))
  have HQ := Hid.mk (And.intro hq (And.intro dq hyv))
  have HZ := Hid.mk hz
  have hb1 : (((m + 2 : Nat) : Int) == 1) = false := by rw [beq_eq_false_iff_ne]; omega
  have hz3 : 1 ≤ z := by omega
  clear hx hy hp rp dp np hxv hq rq dq nq hyv hc hz hz2 hle
  go_enter Tryz.func138, Tryz.ntmps138
  go_wp2_with fail
  refine (order_calls _ _ _ _ _ _ _ _ _ H1.out H2.out).mono ?_
  rintro e w1 ⟨⟨v, rfl, rfl⟩, hx1⟩
  have HX1 := Hid.mk hx1
  replace c0 := hx1.cell c0
  clear hx1
  go_wp2_with fail
  refine (lz_calls w1 z hz3 hz1).mono ?_
  rintro e w2 ⟨⟨b, rfl, hb, hz4, hz5⟩, rfl⟩
  have HB := Hid.mk (And.intro hz4 hz5)
  clear hz4 hz5
  go_wp2_with fail
  refine (int_raised _ _ _ _ _ b (H1.out.x HX1.out) (by omega) hb).mono ?_
  rintro e w3 ⟨⟨v, rfl, us, gu, rfl, hul, hgu, hbu, du, hvu⟩, hx3⟩
  have HX3 := Hid.mk (HX1.out.trans hx3)
  have HU := Hid.mk (And.intro hul (And.intro hgu (And.intro hbu (And.intro du hvu))))
  clear hul hgu hbu du hvu hx3
  go_wp2_with fail
  refine (int_raised _ _ _ _ _ b (H2.out.x HX3.out) (by omega) hb).mono ?_
  rintro e w4 ⟨⟨v, rfl, vs, gv, rfl, hvl, hgv, hbv, dv, hvv⟩, hx4⟩
  obtain ⟨hq1, hq2, hq3⟩ := HQ.out
  have hnorm := raised_norm hq1.symm hq2 hq3 hb (by rw [← HZ.out]; exact HB.out.1) (by rw [← HZ.out]; exact HB.out.2) dv hvv
  obtain ⟨ht1, ht2, ht3⟩ := hnorm
  have hvr : Rd w4 .u32 (some ⟨gv, 0, none⟩) vs := Blk.rd hbv (by omega)
  have P := int_trim w4 (some ⟨gv, 0, none⟩) vs.length vs (Nat.le_refl _) hvr
  rw [ht1] at P
  obtain ⟨hu1, hu2, hu3, hu4, hu5⟩ := HU.out
  obtain ⟨hp1, hp2, hp3⟩ := HP.out
  obtain ⟨tv, htv⟩ : ∃ tv, tv = trim vs := ⟨_, rfl⟩
  have tv1 : val B32 tv = y * 2 ^ b := by rw [htv, val_trim, hvv]
  have tv2 : Dig B32 tv := by rw [htv]; exact dig_trim dv
  have tv3 : ∀ j, j < m + 2 → vs.getD j 0 = tv.getD j 0 := by
    intro j hj
    obtain ⟨l, l1, l2⟩ := trim_take vs
    have : l = m + 2 := by
      have := congrArg List.length l2
      rw [ht1, List.length_take] at this; omega
    rw [htv, l2, List.getD_eq_getElem?_getD, List.getD_eq_getElem?_getD, List.getElem?_take, if_pos (by omega)]
  rw [← htv] at ht1 ht2 ht3
  have hlowv : pw B32 (m + 1) * 2147483648 ≤ val B32 tv := by
    have e2 := val_take_succ (b := B32) (xs := tv) (i := m + 1) (by omega)
    rw [List.take_of_length_le (by omega)] at e2
    have b0 := val_nonneg B32_pos (tv2.take (m + 1))
    have : pw B32 (m + 1) * 2147483648 ≤ pw B32 (m + 1) * tv.getD (m + 1) 0 := Int.mul_le_mul_of_nonneg_left ht2 (Int.le_of_lt (pw_pos B32_pos _))
    omega
  have hV0 : 0 < val B32 tv := by
    have := pw_pos B32_pos (m + 1)
    have : 0 < pw B32 (m + 1) * 2147483648 := Int.mul_pos this (by omega)
    omega
  have hinv : DivI m (k + 1) (x * 2 ^ b) (y * 2 ^ b) us (List.replicate (k + 1) 0) := by
    refine ⟨hu4, Dig.replicate B32_pos _, by simp, by simp [hu1]; omega, ?_, ?_⟩
    · rw [← tv1]
      exact raised_low (m := m) hp2 (by omega) hp3 hb hu4 (by omega) hu5 hlowv
    · rw [hu5, List.drop_of_length_le (by simp)]; simp
  rw [tv1] at hV0
  have HI := Hid.mk hinv
  have HV0 := Hid.mk hV0
  have HTV := Hid.mk (And.intro tv1 (And.intro tv2 (And.intro ht1 (And.intro ht2 ht3))))
  have HV3 := Hid.mk tv3
  have hlt : gu < gv := Nat.lt_of_lt_of_le hu3.lt hgv
  have hge : w.heap.size ≤ gu := Nat.le_trans HX1.out.size hu2
  have hb4 : Blk w4 gu 145 (nums .u32 us) := hu3.x hx4
  have hX4 : X w w4 := HX3.out.trans hx4
  have HP' := Hid.mk P
  have HVL := Hid.mk hvl
  have HUL := Hid.mk hu1
  have HBV := Hid.mk hbv
  have HB4 := Hid.mk hb4
  have HX4 := Hid.mk hX4
  rw [hu1, hvl]
  rw [hvl] at HP'
  clear tv1 tv2 ht1 ht2 ht3 tv3 hV0 hinv hlowv htv hu1 hu2 hu3 hu4 hu5 hp1 hp2 hp3 hq1 hq2 hq3 hvr P hvl hbv hb4 hX4 hx4 dv hvv hgv HX1 HX3 HU HP HQ HZ HB c0 H1 H2
  go_wp2_with fail
  refine HP'.out.mono ?_
  rintro e w5 ⟨⟨v, rfl, rfl⟩, hx5⟩
  have HX5 := Hid.mk (HX4.out.trans hx5)
  have HBV5 := Hid.mk (HBV.out.x hx5)
  have HB5 := Hid.mk (HB4.out.x hx5)
  clear hx5 HX4 HBV HB4
  go_wp2_with (at_make; refine make_blk _ rfl _ _ 67 rfl 145 (.int .u32 0) 4 Tryz.underlying67 info_u32 rfl .i64 .i64 _ _ (k + 1) rfl rfl (by omega) (by omega) (by omega) (by omega) ?_; intro w6 hblk hx6; have HBQ := Hid.mk hblk; have HX6 := Hid.mk (HX5.out.trans hx6); have HBV6 := Hid.mk (HBV5.out.x hx6); have HB6 := Hid.mk (HB5.out.x hx6); have HGV := Hid.mk (HBV5.out.lt); clear hblk hx6)
  obtain ⟨gq, hgq⟩ : ∃ gq, gq = w5.heap.size := ⟨_, rfl⟩
  rw [← hgq] at HBQ HGV ⊢
  have hvq : gv < gq := HGV.out
  clear hgq HGV HX5 HBV5 HB5
  go_loopw [11] (fun t11 wr => ∃ j : Nat, ∃ ws xs : List Int, j ≤ k + 1 ∧ t11 = .int .i64 ((j : Int) - 1) ∧ xs.length = k + 1 ∧ DivI m j (x * 2 ^ b) (y * 2 ^ b) ws xs ∧ X w wr ∧ Blk wr gu 145 (nums .u32 ws) ∧ Blk wr gv 145 (nums .u32 vs) ∧ Blk wr gq 145 (nums .u32 xs)) (fun i _ => (intOf i + 1).toNat)
  case atStart => exact ⟨k + 1, us, List.replicate (k + 1) 0, Nat.le_refl _, by congr 1; omega, by simp, HI.out, HX6.out, HB6.out, HBV6.out, by rw [nums_zeros]; exact HBQ.out⟩
  case round =>
    obtain ⟨j, ws, xs, hj, rfl, hxl, hinv, hx, hbu, hbv, hbq⟩ := hrel
    have HXL := Hid.mk hxl
    have HINV := Hid.mk hinv
    have HX := Hid.mk hx
    have HBU := Hid.mk hbu
    have HBV := Hid.mk hbv
    have HBQQ := Hid.mk hbq
    clear hxl hinv hx hbu hbv hbq
    by_cases hj0 : 1 ≤ j
    · obtain ⟨i, rfl⟩ : ∃ i, j = i + 1 := ⟨j - 1, by omega⟩
      rw [show (((i + 1 : Nat) : Int) - 1) = (i : Int) by omega]
      have hi1 : (i : Int) ≤ (k : Int) := by omega
      go_wp2_with fail
      rw [show i + (m + 2) + 1 - i = m + 3 by omega]
      obtain ⟨lo, wn, hi, hws, hlo, hwl, dwn, hwlt, hnext⟩ := div_step HINV.out (by rw [← HTV.out.1]; exact HTV.out.2.2.2.2) HV0.out
      have hbw : Blk wr gu 145 (win lo wn hi) := by unfold win; rw [← hws]; exact HBU.out
      have P := int_digit wr gu gv 0 (k + m + 2 + 1 - i) (m + 2 + 1) m lo wn hi tv hwl HTV.out.2.2.1 (by omega) (by omega) hbw (fun j hj => by rw [Nat.zero_add, ← HV3.out j hj]; exact HBV.out.int (by have := HVL.out; omega)) dwn HTV.out.2.1 HTV.out.2.2.2.1 (by rw [HTV.out.1]; exact hwlt)
      rw [hlo, HTV.out.1] at P
      refine P.mono ?_
      rintro e w7 ⟨rfl, htn, wn', k1, k2, k3, k4⟩
      have hN := hnext wn' k1 k2 k4
      have HN := Hid.mk hN
      have HX7 := Hid.mk (htn.x HX.out hge)
      have HBV7 := Hid.mk (htn.blk (by omega) HBV.out)
      have HBQ7 := Hid.mk (htn.blk (by omega) HBQQ.out)
      have HBU7 := Hid.mk k3
      obtain ⟨t, ht⟩ : ∃ t, t = val B32 wn / (y * 2 ^ b) := ⟨_, rfl⟩
      rw [← ht] at HN ⊢
      clear P hN htn k1 k2 k3 k4 ht hnext hwlt dwn hwl hlo hws hbw HX HBU HBV HINV
      have hl : i < xs.length := by rw [HXL.out]; omega
      have eo := HBQ7.out.int hl
      have ef := HBQ7.out.frozen i
      have HL := Hid.mk hl
      clear hl HBQQ
      go_wp2
      go_roundw
      case rel =>
        exact ⟨i, lo ++ (wn' ++ hi), xs.set i t, by omega, rfl, by rw [List.length_set]; exact HXL.out, HN.out, HX7.out.set (p := ⟨gq, i, none⟩) (by show w.heap.size ≤ gq; omega) _, HBU7.out.other (by show gq ≠ gu; omega) _, HBV7.out.other (by show gq ≠ gv; omega) _, by rw [nums_set]; exact HBQ7.out.set _ _⟩
      case measure => simp [intOf]
    · obtain rfl : j = 0 := by omega
      obtain ⟨hq, hr⟩ := div_end HINV.out HV0.out
      have ⟨p1, p0⟩ := pow_le31 hb
      have hq' : val B32 xs = x / y := by rw [hq, Int.mul_ediv_mul_of_pos_left _ _ p0]
      have hr' : val B32 ws = x % y * 2 ^ b := by rw [hr, Int.mul_comm x, Int.mul_comm y, Int.mul_emod_mul_of_pos _ _ p0, Int.mul_comm]
      have hxl := HXL.out
      have hwl : ws.length = k + m + 2 + 1 := by have := HINV.out.len; omega
      have hrx : Rd wr .u32 (some ⟨gq, 0, none⟩) xs := Blk.rd HBQQ.out (by omega)
      have hrw : Rd wr .u32 (some ⟨gu, 0, none⟩) ws := Blk.rd HBU.out (by omega)
      have P1 := int_trim wr (some ⟨gq, 0, none⟩) (k + 1) xs (by omega) hrx
      have P2 := fun W (h : X wr W) => int_trim W (some ⟨gu, 0, none⟩) (k + m + 2 + 1) ws (by omega) (hrw.x h)
      have M1 := fun W (h : X wr W) => trim_mag (c := k + 1) (by omega) (hrx.x h) HINV.out.dx
      have M2 := fun W (h : X wr W) => trim_mag (c := k + m + 2 + 1) (by omega) (hrw.x h) HINV.out.du
      rw [hxl] at P1
      rw [hwl] at P2
      rw [hq'] at M1
      rw [hr'] at M2
      have hlw := trim_length_le ws
      obtain ⟨l1, hl1⟩ : ∃ l, l = (trim xs).length := ⟨_, rfl⟩
      obtain ⟨l2, hl2⟩ : ∃ l, l = (trim ws).length := ⟨_, rfl⟩
      rw [← hl1] at P1 M1
      rw [← hl2] at P2 M2 hlw
      rw [hwl] at hlw
      have HP1 := Hid.mk P1
      have HP2 := Hid.mk P2
      have HM1 := Hid.mk M1
      have HM2 := Hid.mk M2
      clear hq hr p1 p0 hq' hr' hxl hwl hrx hrw P1 P2 M1 M2 hl1 hl2
      go_wp2_with fail
      refine HP1.out.mono ?_
      rintro e w7 ⟨⟨v, rfl, rfl⟩, hx7⟩
      have HX7 := Hid.mk hx7
      clear hx7
      go_wp2_with fail
      refine (HP2.out _ HX7.out).mono ?_
      rintro e w8 ⟨⟨v, rfl, rfl⟩, hx8⟩
      have HX8 := Hid.mk (HX7.out.trans hx8)
      clear hx8
      go_wp2_with fail
      refine (int_lowered _ _ _ _ _ (x % y) b (HM2.out _ HX8.out) (by omega) hb rfl).mono ?_
      rintro e w9 ⟨⟨v, rfl, A', n', c', rfl, hM⟩, hx9⟩
      have HX9 := Hid.mk (HX8.out.trans hx9)
      have HR : Hid (DivR x y w9 (.tuple #[.slice (some ⟨gq, 0, none⟩) l1 (k + 1), .slice A' n' c'])) :=
        ⟨_, _, _, _, _, _, rfl, HM1.out _ HX9.out, hM⟩
      have HXX := Hid.mk (HX.out.trans HX9.out)
      clear hx9 hM
      go_wp2
      go_ret2
      exact ⟨⟨_, rfl, HR.out⟩, HXX.out⟩

theorem int_divide (w : World) (A B : Option Addr) (n m c d : Nat) (x y : Int) (hx : MagR w A n c x) (hy : MagR w B m d y) (hn : n ≤ 549755813888) (hy0 : y ≠ 0) :
    Calls Tryz.prog 138 #[.slice A n c, .slice B m d] w (Ret w (DivR x y)) := by
  by_cases hlt : x < y
  · exact div_less w A B n m c d x y hx hy hlt
  · have hm0 : m ≠ 0 := fun e => hy0 (hy.zero.1 e)
    have hmn : m ≤ n := hy.size (by have := hx.lt; omega)
    by_cases hm1 : m = 1
    · subst hm1
      exact div_one w A B n c d x y hx hy (by omega) hy0 (by omega)
    · obtain ⟨l, rfl⟩ : ∃ l, m = l + 2 := ⟨m - 2, by omega⟩
      exact div_long w A B n (n - (l + 2)) l c d x y hx hy (by omega) hn (by omega)
end Go.Proofs.YtogakaiibijjpaaGreatDoor

/- Package integer, seventeenth part: the greatest common divisor, and exact quotients. -/
set_option linter.unusedVariables false
set_option linter.unusedSimpArgs false
namespace Go.Proofs.YtogakaiibijjpaaGreatDoor
open Go.RowKit
open DDig

set_option maxRecDepth 100000 in
set_option maxHeartbeats 4000000 in
theorem int_gcd (w : World) (a b : IV) (x y : Int) (ha : IntR w a x) (hb : IntR w b y) (s0 : a.n ≤ 549755813888) (s1 : b.n ≤ 549755813888) :
    Calls Tryz.prog 109 #[a.v, b.v] w (Ret w fun w' v => ∃ r : IV, v = r.v ∧ r.neg = false ∧ IntR w' r (Int.gcd x y)) := by
  obtain ⟨s, A, n, c⟩ := a
  obtain ⟨t, B, m, d⟩ := b
  obtain ⟨u, h1, _, h3⟩ := ha
  obtain ⟨v, k1, _, k3⟩ := hb
  have HG : Hid ((Int.gcd x y : Int) = Int.gcd u v) := by
    show (Int.gcd x y : Int) = Int.gcd u v
    congr 1
    rw [h3, k3]
    split <;> split <;> simp
  have H1 : Hid (MagR w A n c u) := h1
  have H2 : Hid (MagR w B m d v) := k1
  have s0' : n ≤ 549755813888 := s0
  have s1' : m ≤ 549755813888 := s1
  clear h1 k1 h3 k3 s0 s1
  go_enter Tryz.func109, Tryz.ntmps109
  go_wp2
  go_quiet (fail)
  go_wp2
  go_loopg [5, 6, 7, 8] (v.toNat) (fun q t5 t6 t7 t8 wr => ∃ A' n' c' B' m' d' u' v', t5 = .slice A' n' c' ∧ t6 = .slice B' m' d' ∧ MagR wr A' n' c' u' ∧ MagR wr B' m' d' v' ∧ n' ≤ 549755813888 ∧ m' ≤ 549755813888 ∧ Int.gcd u' v' = Int.gcd u v ∧ v'.toNat ≤ q ∧ X w wr ∧ Blk wr (w.heap.size + 1 + 1) 69 [.bool false, .slice none 0 0])
  case atStart => exact ⟨A, n, c, B, m, d, u, v, rfl, rfl, H1.out.x ((((X.refl w).alloc _).alloc _).alloc _ |>.drewN _), H2.out.x ((((X.refl w).alloc _).alloc _).alloc _ |>.drewN _), s0', s1', rfl, Nat.le_refl _, ((((X.refl w).alloc _).alloc _).alloc _).drewN _, (Blk.new_at _ #[.bool false, .slice none 0 0] _ (by simp)).drewN _⟩
  case round =>
    obtain ⟨A', n', c', B', m', d', u', v', rfl, rfl, hu, hv, b1, b2, hg, hq, hx, hb⟩ := hrel
    have HU := Hid.mk hu
    have HV := Hid.mk hv
    have HGG := Hid.mk hg
    have HX := Hid.mk hx
    have HB := Hid.mk hb
    have HQ := Hid.mk hq
    clear hu hv hg hx hb hq
    by_cases hm0 : 0 < m'
    · have hv0 : v' ≠ 0 := fun e => by have := HV.out.zero.2 e; omega
      have hvp : 0 < v' := by have := HV.out.nonneg; omega
      cases gk with
      | zero => exact absurd HQ.out (by omega)
      | succ k1 =>
        go_wp2_with fail
        refine (int_divide _ _ _ _ _ _ _ _ _ HU.out HV.out b1 hv0).mono ?_
        rintro e w2 ⟨⟨vv, rfl, A1, n1, c1, A2, n2, c2, rfl, hq, hr⟩, hx2⟩
        have hn2 : n2 ≤ m' := hr.size (by have := HV.out.lt; have := Int.emod_lt_of_pos u' hvp; omega)
        have hlt := Int.emod_lt_of_pos u' hvp
        have hge := Int.emod_nonneg u' hv0
        have HR := Hid.mk hr
        have HV2 := Hid.mk (HV.out.x hx2)
        have HX2 := Hid.mk (HX.out.trans hx2)
        have HB2 := Hid.mk (HB.out.x hx2)
        have HK : Hid ((u' % v').toNat ≤ k1) := by
          show (u' % v').toNat ≤ k1
          have := HQ.out; omega
        have HG3 : Hid (Int.gcd v' (u' % v') = Int.gcd u v) := (gcd_step u' v').trans HGG.out
        clear hr hq hx2 hlt hge
        go_wp2
        go_roundg k1
        case measure => omega
        case rel => exact ⟨B', m', d', A2, n2, c2, v', u' % v', rfl, rfl, HV2.out, HR.out, b2, by omega, HG3.out, HK.out, HX2.out, HB2.out⟩
    · obtain rfl : m' = 0 := by omega
      have hv0 : v' = 0 := HV.out.zero.1 rfl
      have hgg : (Int.gcd x y : Int) = u' := by
        have h1 := HGG.out
        rw [hv0] at h1
        rw [HG.out, ← h1, Int.gcd_zero_right]
        have := HU.out.nonneg; omega
      have c0 := HB.out.cell (j := 0) rfl
      have c1 := HB.out.cell (j := 1) rfl
      have f0 := HB.out.frozen 0
      have f1 := HB.out.frozen 1
      have K := two_cells (.bool false) (.slice A' n' c') c0 c1
      have hR : IntR wr ⟨false, A', n', c'⟩ (Int.gcd x y) := ⟨u', HU.out, by simp, by rw [hgg]; simp⟩
      have hR2 := hR.put2 HB.out false (.slice A' n' c')
      have HR := Hid.mk hR2
      have HXX := Hid.mk ((HX.out.set (p := ⟨w.heap.size + 1 + 1, 0, none⟩) (by simp; omega) (.bool false)).set (p := ⟨w.heap.size + 1 + 1, 1, none⟩) (by simp; omega) (.slice A' n' c'))
      clear hR hR2 hgg hv0
      go_wp2
      exact bodyPost_ret (v := .agg #[.bool false, .slice A' n' c']) (by simp [results, Tryz.results109, go_sem, K.1, K.2]) rfl ⟨⟨_, rfl, ⟨false, A', n', c'⟩, rfl, rfl, HR.out⟩, HXX.out⟩
end Go.Proofs.YtogakaiibijjpaaGreatDoor

/- Package integer, eighteenth part: exact quotients. -/
set_option linter.unusedVariables false
set_option linter.unusedSimpArgs false
namespace Go.Proofs.YtogakaiibijjpaaGreatDoor
open Go.RowKit
open DDig

theorem int_signed_mag (w : World) (neg : Bool) (A : Option Addr) (n c : Nat) (z : Int) (h : MagR w A n c z) :
    Calls Tryz.prog 108 #[.bool neg, .slice A n c] w (Ret w fun w' v => ∃ r : IV, v = r.v ∧ IntR w' r (if neg = true then - z else z)) := by
  obtain ⟨xs, rfl, h1, h2, h3, rfl⟩ := h
  exact int_signed w neg A c xs h1 h2 h3.1

theorem X.same {a b c : World} (h : X a b) (e1 : c.heap = b.heap) (e2 : c.os = b.os) (e3 : c.tape = b.tape) (e4 : c.output = b.output) : X a c :=
  ⟨e2.trans h.os, e3.trans h.tape, e4.trans h.output, by rw [e1]; exact h.size, fun k hk => by rw [e1]; exact h.block k hk⟩

set_option maxRecDepth 100000 in
set_option maxHeartbeats 4000000 in
theorem int_divmod (w : World) (a b : IV) (x y : Int) (ha : IntR w a x) (hb : IntR w b y) (s0 : a.n ≤ 549755813888) (hy : 0 < y) (hneg : b.neg = false) (hd : y ∣ x) :
    Calls Tryz.prog 110 #[a.v, b.v] w (Ret w fun w' v => ∃ q r : IV, v = .tuple #[q.v, r.v, .int .i64 0] ∧ IntR w' q (x / y)) := by
  obtain ⟨s, A, n, c⟩ := a
  obtain ⟨t, B, m, d⟩ := b
  obtain rfl : t = false := hneg
  have KB := Hid.mk hb
  obtain ⟨u, h1, _, h3⟩ := ha
  obtain ⟨v, k1, _, k3⟩ := hb
  have hvy : v = y := by simpa using k3.symm
  subst hvy
  have H1 : Hid (MagR w A n c u) := h1
  have H2 : Hid (MagR w B m d v) := k1
  have s0' : n ≤ 549755813888 := s0
  have hdu : v ∣ u := by
    rw [h3] at hd
    split at hd
    · exact (Int.dvd_neg).1 hd
    · exact hd
  have hmod : u % v = 0 := Int.emod_eq_zero_of_dvd hdu
  have HQ : Hid ((if s = true then -(u / v) else u / v) = x / v) := by
    show (if s = true then -(u / v) else u / v) = x / v
    rw [h3]
    split
    · rw [Int.neg_ediv_of_dvd hdu]
    · rfl
  have HM := Hid.mk hmod
  have hv0 : v ≠ 0 := by omega
  have hsg : Int.sign v = 1 := Int.sign_eq_one_of_pos hy
  clear h1 k1 h3 k3 s0 hd hdu hmod
  go_enter Tryz.func110, Tryz.ntmps110
  go_wp2_with fail
  refine (int_sign _ ⟨false, B, m, d⟩ v (KB.out.x ((((X.refl w).alloc _).alloc _).alloc _ |>.alloc _))).mono ?_
  rintro e w1 ⟨⟨q, rfl, rfl⟩, hx1⟩
  rw [hsg]
  have b0 := (Blk.new w #[.bool s, .slice A n c] 69).x (((((X.refl _).alloc _).alloc _).alloc _).trans hx1)
  have b1 := (Blk.new_at (g := w.heap.size + 1) _ #[.bool false, .slice B m d] 69 (by simp)).x ((((X.refl _).alloc _).alloc _).trans hx1)
  have b2 := (Blk.new_at (g := w.heap.size + 1 + 1) _ #[.bool false, .slice none 0 0] 69 (by simp)).x (((X.refl _).alloc _).trans hx1)
  have b3 := (Blk.new_at (g := w.heap.size + 1 + 1 + 1) _ #[.bool false, .slice none 0 0] 69 (by simp)).x hx1
  have hX1 : X w w1 := (((((X.refl w).alloc _).alloc _).alloc _).alloc _).trans hx1
  have c0 := b0.cell (j := 1) rfl
  have c1 := b1.cell (j := 1) rfl
  have B0 := Hid.mk b0
  have B1 := Hid.mk b1
  have B2 := Hid.mk b2
  have B3 := Hid.mk b3
  have HX1 := Hid.mk hX1
  clear b0 b1 b2 b3 hX1 hx1 hsg
  go_wp2_with fail
  refine (int_divide _ _ _ _ _ _ _ _ _ (H1.out.x HX1.out) (H2.out.x HX1.out) s0' hv0).mono ?_
  rintro e W ⟨⟨vv, rfl, Aq, nq, cq, Ar, nr, cr, rfl, hq, hr⟩, hx2⟩
  rw [HM.out] at hr
  have b0 := B0.out.x hx2
  have b1 := B1.out.x hx2
  have b2 := B2.out.x hx2
  have b3 := B3.out.x hx2
  have hX := HX1.out.trans hx2
  clear hx2 c0 c1 B0 B1 B2 B3
  obtain ⟨g, hg⟩ : ∃ g, g = w.heap.size := ⟨_, rfl⟩
  rw [← hg] at b0 b1 b2 b3
  have c0 := b0.cell (j := 0) rfl
  have c1 := b0.cell (j := 1) rfl
  have c2 := b1.cell (j := 0) rfl
  have c3 := b1.cell (j := 1) rfl
  rw [hg] at c0 c1 c2 c3
  have m1 : ¬ w.heap.size + 1 + 1 = w.heap.size := by omega
  have m2 : ¬ w.heap.size + 1 + 1 + 1 = w.heap.size := by omega
  go_wp2_with fail
  go_region_held3 (fun w' => w'.cell? ⟨w.heap.size, 0, none⟩ = some (.bool s) ∧ w'.cell? ⟨w.heap.size, 1, none⟩ = some (.slice A n c) ∧ w'.cell? ⟨w.heap.size + 1, 0, none⟩ = some (.bool false) ∧ w'.cell? ⟨w.heap.size + 1, 1, none⟩ = some (.slice B m d))
    (go_keep)
    (first
      | (go_at_call_of 108 (Value.slice Aq nq cq); refine (int_signed_mag _ _ Aq nq cq (u / v) (by exact hq.x ⟨rfl, rfl, rfl, Nat.le_refl _, fun _ _ => rfl⟩)).mono ?_; rintro e w3 ⟨⟨v1, rfl, ⟨qn, qA, ql, qc⟩, rfl, hr1⟩, hx3⟩; have hy3 : X W w3 := ⟨hx3.os, hx3.tape, hx3.output, hx3.size, hx3.block⟩; have d0 := hy3.cell c0; have d1 := hy3.cell c1; have d2 := hy3.cell c2; have d3 := hy3.cell c3)
      | (go_at_call_of 108 (Value.slice Ar nr cr); refine (int_signed_mag _ _ Ar nr cr 0 (by exact hr.x ⟨hy3.os, hy3.tape, hy3.output, hy3.size, hy3.block⟩)).mono ?_; rintro e w4 ⟨⟨v2, rfl, ⟨rn, rA, rl, rc⟩, rfl, hr2⟩, hx4⟩; have hy4 : X w3 w4 := ⟨hx4.os, hx4.tape, hx4.output, hx4.size, hx4.block⟩; have e0 := hy4.cell d0; have e1 := hy4.cell d1; have e2 := hy4.cell d2; have e3 := hy4.cell d3; have p2 := (b2.x hy3).x hy4; have p3 := (b3.x hy3).x hy4; rw [hg] at p2 p3; have k0 := p2.cell (j := 0) rfl; have k1 := p2.cell (j := 1) rfl; have k2 := p3.cell (j := 0) rfl; have k3 := p3.cell (j := 1) rfl; have f0 := p2.frozen 0; have f1 := p2.frozen 1; have f2 := p3.frozen 0; have f3 := p3.frozen 1))
  have hq2 : (if s = true then -(u / v) else u / v) = x / v := HQ.out
  have hz : (if s = true then -(0 : Int) else 0) = 0 := by split <;> rfl
  rw [hq2] at hr1
  rw [hz] at hr2
  obtain ⟨g2, hg2⟩ : ∃ g2, g2 = w.heap.size + 1 + 1 := ⟨_, rfl⟩
  obtain ⟨g3, hg3⟩ : ∃ g3, g3 = w.heap.size + 1 + 1 + 1 := ⟨_, rfl⟩
  rw [← hg2] at p2
  rw [← hg3] at p3
  have i1 := (hr1.x hy4).put2 p2 qn (.slice qA ql qc)
  have i2 := hr2.put2 p2 qn (.slice qA ql qc)
  have p3' := (p3.other (p := ⟨g2, 0, none⟩) (by show g2 ≠ g3; omega) (.bool qn)).other (p := ⟨g2, 1, none⟩) (by show g2 ≠ g3; omega) (.slice qA ql qc)
  have i3 := i1.put2 p3' rn (.slice rA rl rc)
  have i4 := i2.put2 p3' rn (.slice rA rl rc)
  have q2 := (((p2.set 0 (.bool qn)).set 1 (.slice qA ql qc)).other (p := ⟨g3, 0, none⟩) (by show g3 ≠ g2; omega) (.bool rn)).other (p := ⟨g3, 1, none⟩) (by show g3 ≠ g2; omega) (.slice rA rl rc)
  have q3 := (p3'.set 0 (.bool rn)).set 1 (.slice rA rl rc)
  have hX5 := (((((hX.trans hy3).trans hy4).set (p := ⟨g2, 0, none⟩) (by show w.heap.size ≤ g2; omega) (.bool qn)).set (p := ⟨g2, 1, none⟩) (by show w.heap.size ≤ g2; omega) (.slice qA ql qc)).set (p := ⟨g3, 0, none⟩) (by show w.heap.size ≤ g3; omega) (.bool rn)).set (p := ⟨g3, 1, none⟩) (by show w.heap.size ≤ g3; omega) (.slice rA rl rc)
  rw [hg2, hg3] at i3 i4 q2 q3 hX5
  clear i1 i2 p3' p2 p3 hX hr1 hr2 hq hr b0 b1 b2 b3 hx3 hx4 hy3 hy4 hq2 hz hg2 hg3 g2 g3 k0 k1 k2 k3 f0 f1 f2 f3 d0 d1 d2 d3 e0 e1 e2 e3 c0 c1 c2 c3
  obtain ⟨W5, hW5⟩ : ∃ W5, W5 = ((((w4.setCell ⟨w.heap.size + 1 + 1, 0, none⟩ (.bool qn)).setCell ⟨w.heap.size + 1 + 1, 1, none⟩ (.slice qA ql qc)).setCell ⟨w.heap.size + 1 + 1 + 1, 0, none⟩ (.bool rn)).setCell ⟨w.heap.size + 1 + 1 + 1, 1, none⟩ (.slice rA rl rc)) := ⟨_, rfl⟩
  rw [← hW5] at i3 i4 q2 q3 hX5 ⊢
  clear hW5
  have I3 := Hid.mk i3
  have I4 := Hid.mk i4
  have Q2 := Hid.mk q2
  have Q3 := Hid.mk q3
  have HX5 := Hid.mk hX5
  have e0 := q3.cell (j := 0) rfl
  have e1 := q3.cell (j := 1) rfl
  clear i3 i4 q2 q3 hX5
  go_wp2_with fail
  refine (int_sign _ ⟨rn, rA, rl, rc⟩ 0 I4.out).mono ?_
  rintro e w6 ⟨⟨q, rfl, rfl⟩, hx6⟩
  have q2 := Q2.out.x hx6
  have q3 := Q3.out.x hx6
  have k0 := q2.cell (j := 0) rfl
  have k1 := q2.cell (j := 1) rfl
  have k2 := q3.cell (j := 0) rfl
  have k3 := q3.cell (j := 1) rfl
  have f0 := q2.frozen 0
  have f1 := q2.frozen 1
  have f2 := q3.frozen 0
  have f3 := q3.frozen 1
  have I3' := Hid.mk (I3.out.x hx6)
  have HX6 := Hid.mk (HX5.out.trans hx6)
  have Q2' := Hid.mk q2
  have Q3' := Hid.mk q3
  clear q2 q3 hx6 e0 e1 I3 I4 Q2 Q3 HX5
  rw [Int.sign_zero]
  go_wp2_with fail
  have j1 := I3'.out.put2 Q2'.out qn (.slice qA ql qc)
  have p3' := (Q3'.out.other (p := ⟨w.heap.size + 1 + 1, 0, none⟩) (by simp) (.bool qn)).other (p := ⟨w.heap.size + 1 + 1, 1, none⟩) (by simp) (.slice qA ql qc)
  have j2 := j1.put2 p3' rn (.slice rA rl rc)
  have K := two_cells (.bool qn) (.slice qA ql qc) k0 k1
  have K2 := two_cells (.bool rn) (.slice rA rl rc) (p3'.cell (j := 0) rfl) (p3'.cell (j := 1) rfl)
  have hX7 := ((((HX6.out.set (p := ⟨w.heap.size + 1 + 1, 0, none⟩) (by simp; omega) (.bool qn)).set (p := ⟨w.heap.size + 1 + 1, 1, none⟩) (by simp; omega) (.slice qA ql qc)).set (p := ⟨w.heap.size + 1 + 1 + 1, 0, none⟩) (by simp; omega) (.bool rn)).set (p := ⟨w.heap.size + 1 + 1 + 1, 1, none⟩) (by simp; omega) (.slice rA rl rc)).drew
  have J2 := Hid.mk j2
  have HX7 := Hid.mk hX7
  clear j1 j2 p3' hX7
  go_region
  go_wp2
  refine bodyPost_ret (v := .tuple #[.agg #[.bool qn, .slice qA ql qc], .agg #[.bool rn, .slice rA rl rc], .int .i64 0]) ?_ rfl ⟨⟨_, rfl, ⟨qn, qA, ql, qc⟩, ⟨rn, rA, rl, rc⟩, rfl, J2.out⟩, HX7.out⟩
  simp [results, Tryz.results110, go_sem, K.1, K.2, K2.1, K2.2]
end Go.Proofs.YtogakaiibijjpaaGreatDoor

/- Package rational, first part: the leaves. -/
set_option linter.unusedVariables false
set_option linter.unusedSimpArgs false
namespace Go.Proofs.YtogakaiibijjpaaGreatDoor
open Go.RowKit
open DDig

/-- A rational as the program holds it: two integers; a denominator 0 counts as 1. -/
structure QV where
  s : Bool
  A : Option Addr
  n : Nat
  c : Nat
  t : Bool
  B : Option Addr
  m : Nat
  d : Nat
abbrev QV.v (a : QV) : Value := .agg #[.bool a.s, .slice a.A a.n a.c, .bool a.t, .slice a.B a.m a.d]
def RatR (w : World) (a : QV) (q : Rat) : Prop := ∃ e : Int, IntR w ⟨a.s, a.A, a.n, a.c⟩ q.num ∧ IntR w ⟨a.t, a.B, a.m, a.d⟩ e ∧ (e = q.den ∨ (e = 0 ∧ q.den = 1))
theorem RatR.x {w w' : World} {a : QV} {q : Rat} (h : RatR w a q) (hx : X w w') : RatR w' a q := by
  obtain ⟨e, h1, h2, h3⟩ := h
  exact ⟨e, h1.x hx, h2.x hx, h3⟩
theorem RatR.put {w : World} {a : QV} {q : Rat} (h : RatR w a q) {g : Nat} {e : TypeId} {cs : List Value} (hb : Blk w g e cs) (hn : NoInt cs) (j : Nat) (v : Value) : RatR (w.setCell ⟨g, j, none⟩ v) a q := by
  obtain ⟨e, h1, h2, h3⟩ := h
  exact ⟨e, h1.put hb hn j v, h2.put hb hn j v, h3⟩
theorem noint4 (b1 : Bool) (A1 : Option Addr) (n1 c1 : Nat) (b2 : Bool) (A2 : Option Addr) (n2 c2 : Nat) : NoInt [.bool b1, .slice A1 n1 c1, .bool b2, .slice A2 n2 c2] := by
  intro v hv k x
  simp at hv
  rcases hv with rfl | rfl | rfl | rfl <;> simp
/-- A rational result is stored in its place. -/
abbrev put4 (w : World) (g : Nat) (a : QV) : World := (((w.setCell ⟨g, 0, none⟩ (.bool a.s)).setCell ⟨g, 1, none⟩ (.slice a.A a.n a.c)).setCell ⟨g, 2, none⟩ (.bool a.t)).setCell ⟨g, 3, none⟩ (.slice a.B a.m a.d)
theorem Blk.put4 {w : World} {g : Nat} {e : TypeId} {x0 x1 x2 x3 : Value} (hb : Blk w g e [x0, x1, x2, x3]) (a : QV) : Blk (put4 w g a) g e [.bool a.s, .slice a.A a.n a.c, .bool a.t, .slice a.B a.m a.d] :=
  (((hb.set 0 (.bool a.s)).set 1 (.slice a.A a.n a.c)).set 2 (.bool a.t)).set 3 (.slice a.B a.m a.d)
theorem RatR.put4 {w : World} {a : QV} {q : Rat} (h : RatR w a q) {g : Nat} {e : TypeId} {b1 : Bool} {A1 : Option Addr} {n1 c1 : Nat} {b2 : Bool} {A2 : Option Addr} {n2 c2 : Nat} (hb : Blk w g e [.bool b1, .slice A1 n1 c1, .bool b2, .slice A2 n2 c2]) (r : QV) : RatR (Go.Proofs.YtogakaiibijjpaaGreatDoor.put4 w g r) a q :=
  (((h.put hb (noint4 b1 A1 n1 c1 b2 A2 n2 c2) 0 _).put (hb.set 0 (.bool r.s)) ((noint4 b1 A1 n1 c1 b2 A2 n2 c2).set 0 (by simp)) 1 _).put ((hb.set 0 (.bool r.s)).set 1 (.slice r.A r.n r.c)) (((noint4 b1 A1 n1 c1 b2 A2 n2 c2).set 0 (by simp)).set 1 (by simp)) 2 _).put (((hb.set 0 (.bool r.s)).set 1 (.slice r.A r.n r.c)).set 2 (.bool r.t)) ((((noint4 b1 A1 n1 c1 b2 A2 n2 c2).set 0 (by simp)).set 1 (by simp)).set 2 (by simp)) 3 _
theorem X.put4 {w w' : World} (h : X w w') {g : Nat} (hg : w.heap.size ≤ g) (a : QV) : X w (Go.Proofs.YtogakaiibijjpaaGreatDoor.put4 w' g a) :=
  (((h.set (p := ⟨g, 0, none⟩) hg _).set (p := ⟨g, 1, none⟩) hg _).set (p := ⟨g, 2, none⟩) hg _).set (p := ⟨g, 3, none⟩) hg _
theorem four_cells {w : World} {g : Nat} {e : TypeId} {x0 x1 x2 x3 : Value} (hb : Blk w g e [x0, x1, x2, x3]) (y0 y1 y2 y3 : Value) :
    (w.setCell ⟨g, 0, none⟩ y0).cell? ⟨g, 0, none⟩ = some y0 ∧ ((w.setCell ⟨g, 0, none⟩ y0).setCell ⟨g, 1, none⟩ y1).cell? ⟨g, 1, none⟩ = some y1 ∧ (((w.setCell ⟨g, 0, none⟩ y0).setCell ⟨g, 1, none⟩ y1).setCell ⟨g, 2, none⟩ y2).cell? ⟨g, 2, none⟩ = some y2 ∧ ((((w.setCell ⟨g, 0, none⟩ y0).setCell ⟨g, 1, none⟩ y1).setCell ⟨g, 2, none⟩ y2).setCell ⟨g, 3, none⟩ y3).cell? ⟨g, 3, none⟩ = some y3 :=
  ⟨(hb.set 0 y0).cell rfl, ((hb.set 0 y0).set 1 y1).cell rfl, (((hb.set 0 y0).set 1 y1).set 2 y2).cell rfl, ((((hb.set 0 y0).set 1 y1).set 2 y2).set 3 y3).cell rfl⟩

theorem IntR.neg_false {w : World} {a : IV} {z : Int} (h : IntR w a z) (hz : 0 ≤ z) : a.neg = false := by
  obtain ⟨m, h1, h2, h3⟩ := h
  cases hn : a.neg with
  | false => rfl
  | true =>
    have h0 := h2 hn
    have hm : m ≠ 0 := fun e => h0 (h1.zero.2 e)
    have := h1.nonneg
    rw [hn] at h3
    simp at h3
    omega

theorem rat_one (w : World) : Calls Tryz.prog 101 #[] w (Ret w fun w' v => ∃ r : IV, v = r.v ∧ IntR w' r 1) := by
  go_enter Tryz.func101, Tryz.ntmps101
  go_wp2_with fail
  refine (int_from _ 1 (by omega) (by omega)).mono ?_
  rintro e w1 ⟨⟨v, rfl, ⟨rn, rA, rl, rc⟩, rfl, hr⟩, hx⟩
  have hb := (Blk.new w #[.bool false, .slice none 0 0] 69).x hx
  have c0 := hb.cell (j := 0) rfl
  have c1 := hb.cell (j := 1) rfl
  have f0 := hb.frozen 0
  have f1 := hb.frozen 1
  have K := two_cells (.bool rn) (.slice rA rl rc) c0 c1
  have HX := Hid.mk (((((X.refl w).alloc _).trans hx).set (p := ⟨w.heap.size, 0, none⟩) (Nat.le_refl _) (.bool rn)).set (p := ⟨w.heap.size, 1, none⟩) (Nat.le_refl _) (.slice rA rl rc))
  have HR := Hid.mk (hr.put2 hb rn (.slice rA rl rc))
  clear hx hb hr
  go_wp2
  exact bodyPost_ret (v := .agg #[.bool rn, .slice rA rl rc]) (by simp [results, Tryz.results101, go_sem, K.1, K.2]) rfl ⟨⟨_, rfl, ⟨rn, rA, rl, rc⟩, rfl, HR.out⟩, HX.out⟩

theorem rat_sign (w : World) (a : QV) (x : Rat) (ha : RatR w a x) : Calls Tryz.prog 32 #[a.v] w (Ret w fun _ v => v = .int .i64 (Int.sign x.num)) := by
  obtain ⟨s, A, n, c, t, B, m, d⟩ := a
  obtain ⟨e, h1, h2, h3⟩ := ha
  have H1 := Hid.mk h1
  clear h1 h2 h3
  go_enter Tryz.func32, Tryz.ntmps32
  go_wp2_with fail
  refine (int_sign _ ⟨s, A, n, c⟩ x.num (H1.out.x ((X.refl w).alloc _))).mono ?_
  rintro e w1 ⟨⟨v, rfl, rfl⟩, hx⟩
  have HX := Hid.mk (((X.refl w).alloc _).trans hx)
  clear hx
  go_wp2
  go_ret
  exact ⟨⟨_, rfl, rfl⟩, HX.out⟩

theorem int_sign_at (w : World) (a : IV) (z s : Int) (h : IntR w a z) (hs : Int.sign z = s) :
    Calls Tryz.prog 75 #[a.v] w (Ret w fun _ v => v = .int .i64 s) := by
  subst hs
  exact int_sign w a z h
theorem int_compare_at (w : World) (a b : IV) (x y s : Int) (ha : IntR w a x) (hb : IntR w b y) (hs : Int.sign (x - y) = s) :
    Calls Tryz.prog 83 #[a.v, b.v] w (Ret w fun _ v => v = .int .i64 s) := by
  subst hs
  exact int_compare w a b x y ha hb

set_option maxHeartbeats 1000000 in
theorem rat_whole (w : World) (a : QV) (x : Rat) (ha : RatR w a x) : Calls Tryz.prog 80 #[a.v] w (Ret w fun _ v => v = .bool (decide (x.den = 1))) := by
  obtain ⟨s, A, n, c, t, B, m, d⟩ := a
  obtain ⟨e, h1, h2, h3⟩ := ha
  have H2 := Hid.mk h2
  by_cases he : e = 0
  · have HD : Hid (x.den = 1) := by
      rcases h3 with h3 | ⟨_, h3⟩
      · have := x.den_nz; omega
      · exact h3
    clear h1 h2 h3
    subst he
    go_enter Tryz.func80, Tryz.ntmps80
    go_wp2_with fail
    have hb := Blk.new w #[.bool s, .slice A n c, .bool t, .slice B m d] 71
    have hX := (X.refl w).alloc (.cells #[.bool s, .slice A n c, .bool t, .slice B m d] 71)
    obtain ⟨W, hW⟩ : ∃ W, W = w.alloc (.cells #[.bool s, .slice A n c, .bool t, .slice B m d] 71) := ⟨_, rfl⟩
    rw [← hW] at hb hX ⊢
    clear hW
    have c2 := hb.cell (j := 2) rfl
    have c3 := hb.cell (j := 3) rfl
    first
      | go_region_with (first
          | (go_at_call 75; refine (int_sign_at _ ⟨t, B, m, d⟩ 0 0 ?_ rfl).mono ?_; exact H2.out.x ⟨hX.os, hX.tape, hX.output, hX.size, hX.block⟩; rintro e w1 ⟨⟨v, rfl, rfl⟩, hx1⟩; have hy1 : X W w1 := ⟨hx1.os, hx1.tape, hx1.output, hx1.size, hx1.block⟩; have d2 := hy1.cell c2; have d3 := hy1.cell c3))
      | fail "no"
    all_goals go_wp2
    all_goals go_ret
    all_goals exact ⟨⟨_, rfl, by rw [HD.out]; rfl⟩, hX.trans hy1⟩
  · have HD : Hid (e = x.den) := by
      rcases h3 with h3 | ⟨h3, _⟩
      · exact h3
      · exact absurd h3 he
    have hs1 : Int.sign e = 1 := by
      rw [HD.out]
      exact Int.sign_eq_one_of_pos (by have := x.den_pos; omega)
    have hs2 : ∃ z : Int, Int.sign (e - 1) = z ∧ (z == 0) = decide (x.den = 1) := ⟨_, rfl, by
      rw [Bool.eq_iff_iff]
      simp [Int.sign_eq_zero_iff_zero, HD.out]
      omega⟩
    obtain ⟨z, hz, hzd⟩ := hs2
    have HS1 := Hid.mk hs1
    have HZ := Hid.mk hz
    have HZD := Hid.mk hzd
    clear h1 h2 h3 he hs1 hz hzd
    go_enter Tryz.func80, Tryz.ntmps80
    go_wp2_with fail
    have hb := Blk.new w #[.bool s, .slice A n c, .bool t, .slice B m d] 71
    have hX := (X.refl w).alloc (.cells #[.bool s, .slice A n c, .bool t, .slice B m d] 71)
    obtain ⟨W, hW⟩ : ∃ W, W = w.alloc (.cells #[.bool s, .slice A n c, .bool t, .slice B m d] 71) := ⟨_, rfl⟩
    rw [← hW] at hb hX ⊢
    clear hW
    have c2 := hb.cell (j := 2) rfl
    have c3 := hb.cell (j := 3) rfl
    first
      | go_region_with (first
          | (go_at_call 75; refine (int_sign_at _ ⟨t, B, m, d⟩ e 1 ?_ ?_).mono ?_; exact H2.out.x ⟨hX.os, hX.tape, hX.output, hX.size, hX.block⟩; exact HS1.out; rintro e w1 ⟨⟨v, rfl, rfl⟩, hx1⟩; have hy1 : X W w1 := ⟨hx1.os, hx1.tape, hx1.output, hx1.size, hx1.block⟩; have d2 := hy1.cell c2; have d3 := hy1.cell c3)
          | (go_at_call 101; refine (rat_one _).mono ?_; rintro e w2 ⟨⟨v, rfl, ⟨rn, rA, rl, rc⟩, rfl, hr⟩, hx2⟩; have hy2 : X w1 w2 := ⟨hx2.os, hx2.tape, hx2.output, hx2.size, hx2.block⟩; have d2 := hy2.cell d2; have d3 := hy2.cell d3)
          | (go_at_call 83; refine (int_compare_at _ ⟨t, B, m, d⟩ ⟨rn, rA, rl, rc⟩ e 1 z ?_ ?_ ?_).mono ?_; exact H2.out.x ((hX.trans hy1).trans hy2); exact hr; exact HZ.out; rintro e w3 ⟨⟨v, rfl, rfl⟩, hx3⟩; have d2 := hx3.cell d2; have d3 := hx3.cell d3))
      | fail "no"
    all_goals go_wp2
    all_goals go_ret
    all_goals exact ⟨⟨_, rfl, by rw [← HZD.out]; rfl⟩, ((hX.trans hy1).trans hy2).trans hx3⟩
end Go.Proofs.YtogakaiibijjpaaGreatDoor

/- Package rational, second part: denominators, From, reduced. -/
set_option linter.unusedVariables false
set_option linter.unusedSimpArgs false
namespace Go.Proofs.YtogakaiibijjpaaGreatDoor
open Go.RowKit
open DDig

theorem IntR.zero (w : World) : IntR w ⟨false, none, 0, 0⟩ 0 :=
  ⟨0, ⟨[], rfl, Nat.le_refl _, Rd.nil _ _ _, ⟨Dig.nil _, Norm.nil⟩, by simp⟩, by simp, by simp⟩

theorem rat_den (w : World) (a : QV) (x : Rat) (ha : RatR w a x) : Calls Tryz.prog 85 #[a.v] w (Ret w fun w' v => ∃ r : IV, v = r.v ∧ IntR w' r x.den) := by
  obtain ⟨s, A, n, c, t, B, m, d⟩ := a
  obtain ⟨e, h1, h2, h3⟩ := ha
  have H2 := Hid.mk h2
  by_cases he : e = 0
  · have HD : Hid ((1 : Int) = x.den) := by
      rcases h3 with h3 | ⟨_, h3⟩
      · have := x.den_nz; omega
      · show (1 : Int) = _; omega
    clear h1 h2 h3
    subst he
    go_enter Tryz.func85, Tryz.ntmps85
    go_wp2_with fail
    have hb := (Blk.new w #[.bool s, .slice A n c, .bool t, .slice B m d] 71).x ((X.refl _).alloc (.cells #[.bool false, .slice none 0 0] 69))
    have hX := ((X.refl w).alloc (.cells #[.bool s, .slice A n c, .bool t, .slice B m d] 71)).alloc (.cells #[.bool false, .slice none 0 0] 69)
    have h3 := Blk.new_at (g := w.heap.size + 1) (w.alloc (.cells #[.bool s, .slice A n c, .bool t, .slice B m d] 71)) #[.bool false, .slice none 0 0] 69 (by simp)
    refine (int_sign_at _ ⟨t, B, m, d⟩ 0 0 (H2.out.x hX) rfl).mono ?_
    rintro e w1 ⟨⟨v, rfl, rfl⟩, hx1⟩
    have HX := Hid.mk (hX.trans hx1)
    have HB := Hid.mk (h3.x hx1)
    clear hb hX h3 hx1
    go_wp2_with fail
    refine (rat_one _).mono ?_
    rintro e w2 ⟨⟨v, rfl, ⟨rn, rA, rl, rc⟩, rfl, hr⟩, hx2⟩
    have hb := HB.out.x hx2
    have k0 := hb.cell (j := 0) rfl
    have k1 := hb.cell (j := 1) rfl
    have f0 := hb.frozen 0
    have f1 := hb.frozen 1
    have K := two_cells (.bool rn) (.slice rA rl rc) k0 k1
    have HX2 := Hid.mk (((HX.out.trans hx2).set (p := ⟨w.heap.size + 1, 0, none⟩) (by show w.heap.size ≤ w.heap.size + 1; omega) (.bool rn)).set (p := ⟨w.heap.size + 1, 1, none⟩) (by show w.heap.size ≤ w.heap.size + 1; omega) (.slice rA rl rc))
    have hR := hr.put2 hb rn (.slice rA rl rc)
    rw [HD.out] at hR
    have HR := hR
    replace HR : Hid _ := HR
    clear hR hr hx2 hb HX HB
    go_wp2
    exact bodyPost_ret (v := .agg #[.bool rn, .slice rA rl rc]) (by simp [results, Tryz.results85, go_sem, K.1, K.2]) rfl ⟨⟨_, rfl, ⟨rn, rA, rl, rc⟩, rfl, HR.out⟩, HX2.out⟩
  · have HD : Hid (e = x.den) := by
      rcases h3 with h3 | ⟨h3, _⟩
      · exact h3
      · exact absurd h3 he
    have HS : Hid (Int.sign e = 1) := by
      show Int.sign e = 1
      rw [HD.out]
      exact Int.sign_eq_one_of_pos (by have := x.den_pos; omega)
    clear h1 h2 h3 he
    go_enter Tryz.func85, Tryz.ntmps85
    go_wp2_with fail
    have hb := (Blk.new w #[.bool s, .slice A n c, .bool t, .slice B m d] 71).x ((X.refl _).alloc (.cells #[.bool false, .slice none 0 0] 69))
    have hX := ((X.refl w).alloc (.cells #[.bool s, .slice A n c, .bool t, .slice B m d] 71)).alloc (.cells #[.bool false, .slice none 0 0] 69)
    have h3 := Blk.new_at (g := w.heap.size + 1) (w.alloc (.cells #[.bool s, .slice A n c, .bool t, .slice B m d] 71)) #[.bool false, .slice none 0 0] 69 (by simp)
    refine (int_sign_at _ ⟨t, B, m, d⟩ e 1 (H2.out.x hX) HS.out).mono ?_
    rintro e' w1 ⟨⟨v, rfl, rfl⟩, hx1⟩
    have hb0 := hb.x hx1
    have hb := h3.x hx1
    have c2 := hb0.cell (j := 2) rfl
    have c3 := hb0.cell (j := 3) rfl
    have k0 := hb.cell (j := 0) rfl
    have k1 := hb.cell (j := 1) rfl
    have f0 := hb.frozen 0
    have f1 := hb.frozen 1
    have K := two_cells (.bool t) (.slice B m d) k0 k1
    have HX2 := Hid.mk (((hX.trans hx1).set (p := ⟨w.heap.size + 1, 0, none⟩) (by show w.heap.size ≤ w.heap.size + 1; omega) (.bool t)).set (p := ⟨w.heap.size + 1, 1, none⟩) (by show w.heap.size ≤ w.heap.size + 1; omega) (.slice B m d))
    have hR := (H2.out.x (hX.trans hx1)).put2 hb t (.slice B m d)
    rw [HD.out] at hR
    have HR := hR
    replace HR : Hid _ := HR
    clear hR hX hx1 hb0 hb h3
    go_wp2
    exact bodyPost_ret (v := .agg #[.bool t, .slice B m d]) (by simp [results, Tryz.results85, go_sem, K.1, K.2]) rfl ⟨⟨_, rfl, ⟨t, B, m, d⟩, rfl, HR.out⟩, HX2.out⟩

theorem rat_from (w : World) (x : Int) (h0 : -9223372036854775808 ≤ x) (h1 : x ≤ 9223372036854775807) : Calls Tryz.prog 61 #[.int .i64 x] w (Ret w fun w' v => ∃ r : QV, v = r.v ∧ RatR w' r x) := by
  go_enter Tryz.func61, Tryz.ntmps61
  go_wp2_with fail
  have hb := Blk.new w #[.bool false, .slice none 0 0, .bool false, .slice none 0 0] 71
  have hX := (X.refl w).alloc (.cells #[.bool false, .slice none 0 0, .bool false, .slice none 0 0] 71)
  refine (int_from _ x h0 h1).mono ?_
  rintro e w1 ⟨⟨v, rfl, ⟨rn, rA, rl, rc⟩, rfl, hr⟩, hx1⟩
  replace hb := hb.x hx1
  have c0 := hb.cell (j := 0) rfl
  have c1 := hb.cell (j := 1) rfl
  have c2 := hb.cell (j := 2) rfl
  have c3 := hb.cell (j := 3) rfl
  have f0 := hb.frozen 0
  have f1 := hb.frozen 1
  have f2 := hb.frozen 2
  have f3 := hb.frozen 3
  have K := four_cells hb (.bool rn) (.slice rA rl rc) (.bool false) (.slice none 0 0)
  have HX := Hid.mk ((hX.trans hx1).put4 (g := w.heap.size) (Nat.le_refl _) ⟨rn, rA, rl, rc, false, none, 0, 0⟩)
  have hq : RatR w1 ⟨rn, rA, rl, rc, false, none, 0, 0⟩ x := ⟨0, by simpa using hr, IntR.zero _, Or.inr ⟨rfl, by simp⟩⟩
  have HR := Hid.mk (hq.put4 hb ⟨rn, rA, rl, rc, false, none, 0, 0⟩)
  clear hb hX hx1 hr hq
  go_wp2
  exact bodyPost_ret (v := .agg #[.bool rn, .slice rA rl rc, .bool false, .slice none 0 0]) (by simp [results, Tryz.results61, go_sem, K.1, K.2.1, K.2.2.1, K.2.2.2]) rfl ⟨⟨_, rfl, ⟨rn, rA, rl, rc, false, none, 0, 0⟩, rfl, HR.out⟩, HX.out⟩

theorem divInt_parts {x y : Int} (hy : 0 < y) : (Rat.divInt x y).num = x / (Int.gcd x y : Int) ∧ ((Rat.divInt x y).den : Int) = y / (Int.gcd x y : Int) := by
  constructor
  · rw [Rat.num_divInt, Int.sign_eq_one_of_pos hy, Int.one_mul, Int.gcd_comm]
  · rw [Rat.den_divInt, if_neg (by omega), Int.gcd_comm]
    rw [Int.natCast_ediv, Int.natAbs_of_nonneg (by omega)]

abbrev ivc (a : IV) : List Value := [.bool a.neg, .slice a.A a.n a.c]

abbrev put2w (w : World) (g : Nat) (r : IV) : World := (w.setCell ⟨g, 0, none⟩ (.bool r.neg)).setCell ⟨g, 1, none⟩ (.slice r.A r.n r.c)
theorem Blk.iv {w : World} {g : Nat} {e : TypeId} {a : IV} (hb : Blk w g e (ivc a)) (r : IV) : Blk (put2w w g r) g e (ivc r) := (hb.set 0 (.bool r.neg)).set 1 (.slice r.A r.n r.c)
theorem Blk.ivo {w : World} {g k : Nat} {e : TypeId} {cs : List Value} (hb : Blk w g e cs) (hk : k ≠ g) (r : IV) : Blk (put2w w k r) g e cs :=
  (hb.other (p := ⟨k, 0, none⟩) hk _).other (p := ⟨k, 1, none⟩) hk _
theorem IntR.iv {w : World} {a : IV} {z : Int} (h : IntR w a z) {g : Nat} {e : TypeId} {b : IV} (hb : Blk w g e (ivc b)) (r : IV) : IntR (put2w w g r) a z := h.put2 hb r.neg (.slice r.A r.n r.c)
theorem X.iv {w w' : World} (h : X w w') {g : Nat} (hg : w.heap.size ≤ g) (r : IV) : X w (put2w w' g r) := (h.set (p := ⟨g, 0, none⟩) hg _).set (p := ⟨g, 1, none⟩) hg _
theorem Blk.ne {w : World} {g k : Nat} {e : TypeId} {cs : List Value} (hb : Blk w g e cs) (hk : w.heap.size ≤ k) : k ≠ g := by
  have := hb.lt; omega

set_option maxRecDepth 100000 in
set_option maxHeartbeats 4000000 in
theorem rat_reduced (w : World) (a b : IV) (x y : Int) (ha : IntR w a x) (hb : IntR w b y) (s0 : a.n ≤ 549755813888) (s1 : b.n ≤ 549755813888) (hy : y ≠ 0) :
    Calls Tryz.prog 86 #[a.v, b.v] w (Ret w fun w' v => ∃ r : QV, v = r.v ∧ RatR w' r (Rat.divInt x y)) := by
  have HA := Hid.mk ha
  have HB := Hid.mk hb
  have HY := Hid.mk hy
  clear ha hb hy
  go_enter Tryz.func86, Tryz.ntmps86
  go_wp2_with fail
  obtain ⟨W, hW⟩ : ∃ W : World, W = (((w.alloc (.cells #[.bool a.neg, .slice a.A a.n a.c] 69)).alloc (.cells #[.bool b.neg, .slice b.A b.n b.c] 69)).alloc (.cells #[.bool false, .slice none 0 0, .bool false, .slice none 0 0] 71)) := ⟨_, rfl⟩
  have hX : X w W := by rw [hW]; exact (((X.refl w).alloc _).alloc _).alloc _
  have b0 : Blk W w.heap.size 69 (ivc a) := by rw [hW]; exact ((Blk.new _ _ _).x (((X.refl _).alloc _).alloc _))
  have b1 : Blk W (w.heap.size + 1) 69 (ivc b) := by rw [hW]; exact ((Blk.new_at _ _ _ (by simp)).x ((X.refl _).alloc _))
  have b2 : Blk W (w.heap.size + 1 + 1) 71 [.bool false, .slice none 0 0, .bool false, .slice none 0 0] := by rw [hW]; exact Blk.new_at _ _ _ (by simp)
  rw [← hW]
  clear hW
  refine (int_sign _ b y (HB.out.x hX)).mono ?_
  rintro e w1 ⟨⟨v, rfl, rfl⟩, hx1⟩
  replace b0 := b0.x hx1
  replace b1 := b1.x hx1
  replace b2 := b2.x hx1
  replace hX := hX.trans hx1
  clear hx1
  go_upto_if 8 with (fail)
  go_cut [] (fun wc => ∃ (p q : IV) (x' y' : Int), Blk wc w.heap.size 69 (ivc p) ∧ Blk wc (w.heap.size + 1) 69 (ivc q) ∧ Blk wc (w.heap.size + 1 + 1) 71 [.bool false, .slice none 0 0, .bool false, .slice none 0 0] ∧ IntR wc p x' ∧ IntR wc q y' ∧ 0 < y' ∧ Rat.divInt x' y' = Rat.divInt x y ∧ p.n ≤ 549755813888 ∧ q.n ≤ 549755813888 ∧ X w wc)
  case first =>
    by_cases hy0 : y < 0
    · have hsg : Int.sign y < 0 := by rw [Int.sign_eq_neg_one_of_neg hy0]; omega
      have hc0 := b0.cell (j := 0) rfl
      have hc1 := b0.cell (j := 1) rfl
      have hc2 := b1.cell (j := 0) rfl
      have hc3 := b1.cell (j := 1) rfl
      go_wp2_with fail
      have hz0 : X w1 w1.drew := ⟨rfl, rfl, rfl, Nat.le_refl _, fun _ _ => rfl⟩
      first
        | go_region_with (first
            | (have hq := hz1; go_at_call 87; refine (int_neg _ b y ?_).mono ?_; exact HB.out.x (hX.trans hz1); rintro e w3 ⟨⟨v3, rfl, r3, rfl, hr3⟩, hx3⟩; have hr2 := hr2.x hx3; have hz3 := hz1.trans hx3; have q0 := b0.x hz3; have q1 := b1.x hz3; have q2 := b2.x hz3; have k0 := q0.cell (j := 0) rfl; have k1 := q0.cell (j := 1) rfl; have k2 := q1.cell (j := 0) rfl; have k3 := q1.cell (j := 1) rfl; have f0 := q0.frozen 0; have f1 := q0.frozen 1; have f2 := q1.frozen 0; have f3 := q1.frozen 1)
            | (go_at_call 87; refine (int_neg _ a x ?_).mono ?_; exact HA.out.x (hX.trans hz0); rintro e w2 ⟨⟨v2, rfl, r2, rfl, hr2⟩, hx2⟩; have hz1 := hz0.trans hx2; have k0 := (b0.x hz1).cell (j := 0) rfl; have k1 := (b0.x hz1).cell (j := 1) rfl; have k2 := (b1.x hz1).cell (j := 0) rfl; have k3 := (b1.x hz1).cell (j := 1) rfl))
        | fail "no"
      all_goals go_wp2
      all_goals go_meet
      all_goals exact ⟨r2, r3, -x, -y, (q0.iv r2).ivo (by omega) r3, (q1.ivo (by omega) r2).iv r3, (q2.ivo (by omega) r2).ivo (by omega) r3, (hr2.iv q0 r2).iv (q1.ivo (by omega) r2) r3, (hr3.iv q0 r2).iv (q1.ivo (by omega) r2) r3, by omega, by rw [Rat.neg_divInt_neg], by
        have := hr2.size (k := a.n) (by have := HA.out.lt; omega)
        omega, by
        have := hr3.size (k := b.n) (by have := HB.out.lt; omega)
        omega, ((hX.trans hz3).iv (Nat.le_refl _) r2).iv (by omega) r3⟩
    · have hsg : ¬ Int.sign y < 0 := by rw [Int.sign_eq_one_of_pos (by have := HY.out; omega)]; omega
      go_wp2_with fail
      go_meet
      exact ⟨a, b, x, y, b0, b1, b2, HA.out.x hX, HB.out.x hX, by have := HY.out; omega, rfl, s0, s1, hX⟩
  case rest =>
    clear b0 b1 b2 hX W
    obtain ⟨p, q, x', y', b0, b1, b2, hp, hq, hy0, hdiv, hs0, hs1, hX⟩ := hcut
    have hd0 : Int.gcd x' y' ≠ 0 := by
      intro e
      have := (Int.gcd_eq_zero_iff.1 e).2
      omega
    obtain ⟨dd, hdd⟩ : ∃ dd : Int, dd = (Int.gcd x' y' : Int) := ⟨_, rfl⟩
    have c0 := b0.cell (j := 0) rfl
    have c1 := b0.cell (j := 1) rfl
    have c2 := b1.cell (j := 0) rfl
    have c3 := b1.cell (j := 1) rfl
    go_wp2_with fail
    refine (int_gcd _ p q x' y' hp hq hs0 hs1).mono ?_
    rintro e w1 ⟨⟨v, rfl, ⟨gn, gA, gl, gc⟩, rfl, hgn, hg⟩, hx1⟩
    obtain rfl : gn = false := hgn
    rw [← hdd] at hg
    replace b0 := b0.x hx1
    replace b1 := b1.x hx1
    replace b2 := b2.x hx1
    replace hX := hX.trans hx1
    replace hp := hp.x hx1
    replace hq := hq.x hx1
    clear hx1 c0 c1 c2 c3
    go_wp2_with fail
    have hxa := (X.refl w1).alloc (.cells #[.bool false, .slice gA gl gc] 69)
    have b3 := Blk.new w1 #[.bool false, .slice gA gl gc] 69
    obtain ⟨W, hW⟩ : ∃ W, W = w1.alloc (.cells #[.bool false, .slice gA gl gc] 69) := ⟨_, rfl⟩
    rw [← hW] at hxa b3 ⊢
    clear hW
    have e0 := b0.ne (Nat.le_refl _)
    have e1 := b1.ne (Nat.le_refl _)
    have e2 := b2.ne (Nat.le_refl _)
    obtain ⟨g, hge⟩ : ∃ g, g = w1.heap.size := ⟨_, rfl⟩
    rw [← hge] at b3 e0 e1 e2 ⊢
    have hgw : w.heap.size ≤ g := by rw [hge]; exact hX.size
    replace b0 := b0.x hxa
    replace b1 := b1.x hxa
    replace b2 := b2.x hxa
    replace hX := hX.trans hxa
    replace hp := hp.x hxa
    replace hq := hq.x hxa
    replace hg := hg.x hxa
    clear hxa hge
    have HC := Hid.mk (fun w' (h : X W w') => (⟨(b3.x h).cell (j := 0) rfl, (b3.x h).cell (j := 1) rfl⟩ : w'.cell? ⟨g, 0, none⟩ = some (.bool false) ∧ w'.cell? ⟨g, 1, none⟩ = some (.slice gA gl gc)))
    obtain ⟨z, hz⟩ : ∃ z, Int.sign (dd - 1) = z := ⟨_, rfl⟩
    have hz0 : X W W.drew := ⟨rfl, rfl, rfl, Nat.le_refl _, fun _ _ => rfl⟩
    have hS0 := HC.out W (X.refl _)
    go_region_held3 (fun w' => w'.cell? ⟨g, 0, none⟩ = some (.bool false) ∧ w'.cell? ⟨g, 1, none⟩ = some (.slice gA gl gc))
      (go_keep)
      (first
        | (have hguard := hz1; go_at_call 83; refine (int_compare_at _ ⟨false, gA, gl, gc⟩ r4 dd 1 z (by exact hg.x hz1) hr4 hz).mono ?_; rintro e w2 ⟨⟨v2, rfl, rfl⟩, hx2⟩; have hz2 : X W w2 := hz1.trans hx2; have hr4 := hr4.x hx2; have hS2 := HC.out w2 hz2)
        | (have hguard := hz0; go_at_call 101; refine (rat_one _).mono ?_; rintro e w1 ⟨⟨v1, rfl, r4, rfl, hr4⟩, hx1⟩; have hz1 : X W w1 := hz0.trans hx1; have hS1 := HC.out w1 hz1))
    replace b0 := b0.x hz2
    replace b1 := b1.x hz2
    replace b2 := b2.x hz2
    replace b3 := b3.x hz2
    replace hX := hX.trans hz2
    replace hp := hp.x hz2
    replace hq := hq.x hz2
    replace hg := hg.x hz2
    clear hS0 hS1 hS2 hz0 hz1 hz2 hx1 hx2 hr4 HC
    go_upto_if 19 with (fail)
    go_cut [] (fun wc => ∃ (p q : IV), Blk wc w.heap.size 69 (ivc p) ∧ Blk wc (w.heap.size + 1) 69 (ivc q) ∧ Blk wc (w.heap.size + 1 + 1) 71 [.bool false, .slice none 0 0, .bool false, .slice none 0 0] ∧ IntR wc p (Rat.divInt x y).num ∧ IntR wc q (Rat.divInt x y).den ∧ X w wc)
    case first =>
      have hparts := divInt_parts (x := x') hy0
      rw [hdiv, ← hdd] at hparts
      by_cases hd1 : dd = 1
      · obtain rfl : z = 0 := by rw [← hz, hd1]; rfl
        go_wp2_with fail
        go_meet
        rw [hd1, Int.ediv_one, Int.ediv_one] at hparts
        exact ⟨p, q, b0, b1, b2, by rw [hparts.1]; exact hp, by rw [hparts.2]; exact hq, hX⟩
      · have hzn : ¬ z = 0 := by
          rw [← hz, Int.sign_eq_zero_iff_zero]; omega
        have c0 := b0.cell (j := 0) rfl
        have c1 := b0.cell (j := 1) rfl
        have c2 := b3.cell (j := 0) rfl
        have c3 := b3.cell (j := 1) rfl
        go_wp2_with fail
        have hdp : 0 < dd := by omega
        have hdx : dd ∣ x' := by rw [hdd]; exact Int.gcd_dvd_left ..
        have hdy : dd ∣ y' := by rw [hdd]; exact Int.gcd_dvd_right ..
        refine (int_divmod _ p ⟨false, gA, gl, gc⟩ x' dd hp hg hs0 hdp rfl hdx).mono ?_
        rintro e w3 ⟨⟨v, rfl, r5, r6, rfl, hr5⟩, hx3⟩
        replace b0 := b0.x hx3
        replace b1 := b1.x hx3
        replace b2 := b2.x hx3
        replace b3 := b3.x hx3
        replace hX := hX.trans hx3
        replace hq := hq.x hx3
        replace hg := hg.x hx3
        clear hx3 c0 c1 c2 c3 hp
        have c0 := b0.cell (j := 0) rfl
        have c1 := b0.cell (j := 1) rfl
        have f0 := b0.frozen 0
        have f1 := b0.frozen 1
        have d0 := (b0.iv r5)
        have d1 := b1.ivo (k := w.heap.size) (by omega) r5
        have d2 := b2.ivo (k := w.heap.size) (by omega) r5
        have d3 := b3.ivo (k := w.heap.size) (by omega) r5
        have hY := hX.iv (Nat.le_refl _) r5
        replace hq := hq.iv b0 r5
        replace hg := hg.iv b0 r5
        replace hr5 := hr5.iv b0 r5
        have k0 := d1.cell (j := 0) rfl
        have k1 := d1.cell (j := 1) rfl
        have k2 := d3.cell (j := 0) rfl
        have k3 := d3.cell (j := 1) rfl
        clear b0 b1 b2 b3 hX
        go_wp2_with fail
        refine (int_divmod _ q ⟨false, gA, gl, gc⟩ y' dd hq hg hs1 hdp rfl hdy).mono ?_
        rintro e w4 ⟨⟨v, rfl, r7, r8, rfl, hr7⟩, hx4⟩
        replace d0 := d0.x hx4
        replace d1 := d1.x hx4
        replace d2 := d2.x hx4
        replace hY := hY.trans hx4
        replace hr5 := hr5.x hx4
        clear hx4 k0 k1 k2 k3 d3 c0 c1 f0 f1 hq hg
        have c0 := d1.cell (j := 0) rfl
        have c1 := d1.cell (j := 1) rfl
        have f0 := d1.frozen 0
        have f1 := d1.frozen 1
        go_wp2_with fail
        go_meet
        exact ⟨r5, r7, d0.ivo (by omega) r7, d1.iv r7, d2.ivo (by omega) r7, by rw [hparts.1]; exact hr5.iv d1 r7, by rw [hparts.2]; exact hr7.iv d1 r7, hY.iv (by omega) r7⟩
    case rest =>
      clear b0 b1 b2 b3 hX hp hq hg hs0 hs1 p q
      obtain ⟨p, q, b0, b1, b2, hp, hq, hX⟩ := hcut
      have c0 := b0.cell (j := 0) rfl
      have c1 := b0.cell (j := 1) rfl
      have c2 := b1.cell (j := 0) rfl
      have c3 := b1.cell (j := 1) rfl
      have k0 := b2.cell (j := 0) rfl
      have k1 := b2.cell (j := 1) rfl
      have k2 := b2.cell (j := 2) rfl
      have k3 := b2.cell (j := 3) rfl
      have f0 := b2.frozen 0
      have f1 := b2.frozen 1
      have f2 := b2.frozen 2
      have f3 := b2.frozen 3
      have K := four_cells b2 (.bool p.neg) (.slice p.A p.n p.c) (.bool q.neg) (.slice q.A q.n q.c)
      have HR : Hid (RatR (put4 wc (w.heap.size + 1 + 1) ⟨p.neg, p.A, p.n, p.c, q.neg, q.A, q.n, q.c⟩) ⟨p.neg, p.A, p.n, p.c, q.neg, q.A, q.n, q.c⟩ (Rat.divInt x y)) :=
        RatR.put4 ⟨_, hp, hq, Or.inl rfl⟩ b2 _
      have HX := Hid.mk (hX.put4 (g := w.heap.size + 1 + 1) (by omega) ⟨p.neg, p.A, p.n, p.c, q.neg, q.A, q.n, q.c⟩)
      clear b0 b1 b2 hp hq hX
      go_wp2
      exact bodyPost_ret (v := .agg #[.bool p.neg, .slice p.A p.n p.c, .bool q.neg, .slice q.A q.n q.c]) (by simp [results, Tryz.results86, go_sem, K.1, K.2.1, K.2.2.1, K.2.2.2]) rfl ⟨⟨_, rfl, ⟨p.neg, p.A, p.n, p.c, q.neg, q.A, q.n, q.c⟩, rfl, HR.out⟩, HX.out⟩
end Go.Proofs.YtogakaiibijjpaaGreatDoor

/- Reference 05 (fractions of texts), first part: words; Make, Of. -/
set_option linter.unusedVariables false
set_option linter.unusedSimpArgs false
namespace Go.Proofs.YtogakaiibijjpaaGreatDoor
open Go.RowKit
open DDig

/-- A fraction of the reference: two texts. -/
structure FV where
  p : ByteArray
  q : ByteArray
abbrev FV.v (f : FV) : Value := .agg #[.string f.p, .string f.q]
abbrev fvc (f : FV) : List Value := [.string f.p, .string f.q]
def FR (f : FV) (x : Rat) : Prop := Txt f.p x.num ∧ Txt f.q x.den
theorem Txt.pw_size {s : ByteArray} {z : Int} (h : Txt s z) : (z.natAbs : Int) < pw 10 s.size := by
  obtain ⟨h3, h4⟩ := TxtL.digits h
  have h5 := val_lt (by decide : (0 : Int) < 10) h3.1
  have h6 := trim_length_le (dgs s.data.toList)
  have h7 := dgs_length s.data.toList
  simp at h7
  have := pw_mono (b := 10) (by decide) (show (trim (dgs s.data.toList)).length ≤ s.size by omega)
  omega
theorem Txt.le_size {s : ByteArray} {z : Int} (h : Txt s z) {n : Nat} (hz : (z.natAbs : Int) < pw 10 n) : s.size ≤ n + 1 := by
  have := TxtL.length_le h hz
  simpa using this
theorem txt_neg_size {s t : ByteArray} {z : Int} (h : Txt s z) (g : Txt t (-z)) : t.size ≤ s.size + 1 := by
  exact g.size_le h (by simp)

set_option maxRecDepth 100000 in
set_option maxHeartbeats 2000000 in
theorem ref_make (w : World) (s t : ByteArray) (x y : Int) (hs : Txt s x) (ht : Txt t y) (hn : s.size ≤ 274877906930) (hm : t.size ≤ 274877906930) (hy : y ≠ 0) :
    Calls Tryz.prog 91 #[.string s, .string t] w (Ret w fun w' v => ∃ r : FV, v = r.v ∧ FR r (Rat.divInt x y)) := by
  have HS := Hid.mk hs
  have HT := Hid.mk ht
  clear hs ht
  go_enter Tryz.func91, Tryz.ntmps91
  go_wp2_with fail
  have b0 := Blk.new w #[.string ⟨#[]⟩, .string ⟨#[]⟩] 84
  have hX := (X.refl w).alloc (.cells #[.string ⟨#[]⟩, .string ⟨#[]⟩] 84)
  refine (ref_sign _ t y HT.out).mono ?_
  rintro e w1 ⟨⟨v, rfl, rfl⟩, hx1⟩
  replace b0 := b0.x hx1
  replace hX := hX.trans hx1
  clear hx1
  have B0 := Hid.mk b0
  have HX := Hid.mk hX
  clear b0 hX
  go_upto_if 8 with (fail)
  go_cut [0, 1] (fun t0 t1 wc => ∃ (p q : ByteArray) (x' y' : Int), t0 = .string p ∧ t1 = .string q ∧ Txt p x' ∧ Txt q y' ∧ 0 < y' ∧ Rat.divInt x' y' = Rat.divInt x y ∧ p.size ≤ 274877906934 ∧ q.size ≤ 274877906934 ∧ X w1 wc)
  case first =>
    by_cases hy0 : y < 0
    · have hsg : Int.sign y < 0 := by rw [Int.sign_eq_neg_one_of_neg hy0]; omega
      go_wp2_with fail
      refine (ref_neg _ s x HS.out (by omega)).mono ?_
      rintro e w2 ⟨⟨v, rfl, p, rfl, hp⟩, hx2⟩
      have HP := Hid.mk hp
      have HX2 := Hid.mk hx2
      clear hp hx2
      go_wp2_with fail
      refine (ref_neg _ t y HT.out (by omega)).mono ?_
      rintro e w3 ⟨⟨v, rfl, q, rfl, hq⟩, hx3⟩
      have HQ := Hid.mk hq
      have HX3 := Hid.mk (HX2.out.trans hx3)
      clear hq hx3
      go_wp2_with fail
      go_meet
      exact ⟨p, q, -x, -y, rfl, rfl, HP.out, HQ.out, by omega, Rat.neg_divInt_neg .., by have := txt_neg_size HS.out HP.out; omega, by have := txt_neg_size HT.out HQ.out; omega, HX3.out⟩
    · have hsg : ¬ Int.sign y < 0 := by rw [Int.sign_eq_one_of_pos (by omega)]; omega
      go_wp2_with fail
      go_meet
      exact ⟨s, t, x, y, rfl, rfl, HS.out, HT.out, by omega, rfl, by omega, by omega, X.refl _⟩
  case rest =>
    obtain ⟨p, q, x', y', rfl, rfl, hp, hq, hy', hdiv, sp, sq, hx⟩ := hcut
    have HP := Hid.mk hp
    have HQ := Hid.mk hq
    replace HX := Hid.mk (HX.out.trans hx)
    replace B0 := Hid.mk (B0.out.x hx)
    have HD := Hid.mk hdiv
    clear hp hq hx hdiv
    go_wp2_with fail
    refine (ref_gcd _ p q x' y' HP.out HQ.out (by omega) (by omega)).mono ?_
    rintro e w2 ⟨⟨v, rfl, g, rfl, hg⟩, hx2⟩
    have hgp : 0 < Int.gcd x' y' := Int.gcd_pos_of_ne_zero_right _ (by omega)
    have HG := Hid.mk hg
    replace HX := Hid.mk (HX.out.trans hx2)
    replace B0 := Hid.mk (B0.out.x hx2)
    have sg : g.size ≤ 274877906940 := by
      have := HG.out.size_le HQ.out (by
        rw [Int.natAbs_natCast]
        have := Int.gcd_le_natAbs_right (b := y') x' (by omega)
        omega)
      omega
    clear hx2 hg
    go_wp2_with fail
    refine (ref_divmod _ p g x' (Int.gcd x' y') HP.out HG.out (by omega) (by omega) (by omega) (Or.inr (Int.gcd_dvd_left ..))).mono ?_
    rintro e w3 ⟨⟨v, rfl, tq, tr, rfl, ha, -⟩, hx3⟩
    have HA := Hid.mk ha
    replace HX := Hid.mk (HX.out.trans hx3)
    replace B0 := Hid.mk (B0.out.x hx3)
    clear hx3 ha
    go_wp2_with fail
    refine (ref_divmod _ q g y' (Int.gcd x' y') HQ.out HG.out (by omega) (by omega) (by omega) (Or.inr (Int.gcd_dvd_right ..))).mono ?_
    rintro e w4 ⟨⟨v, rfl, tb, tr', rfl, hb, -⟩, hx4⟩
    have HB := Hid.mk hb
    replace HX := Hid.mk (HX.out.trans hx4)
    replace B0 := Hid.mk (B0.out.x hx4)
    clear hx4 hb
    have HF : Hid (FR ⟨tq, tb⟩ (Rat.divInt x y)) := by
      have h := divInt_parts (x := x') hy'
      rw [HD.out] at h
      exact ⟨by rw [h.1]; exact HA.out, by rw [h.2]; exact HB.out⟩
    have b0 := B0.out
    have k0 := b0.cell (j := 0) rfl; have k1 := b0.cell (j := 1) rfl; have f0 := b0.frozen 0; have f1 := b0.frozen 1
    have K := two_cells (.string tq) (.string tb) k0 k1
    have HX2 := Hid.mk ((HX.out.set (p := ⟨w.heap.size, 0, none⟩) (Nat.le_refl _) (.string tq)).set (p := ⟨w.heap.size, 1, none⟩) (Nat.le_refl _) (.string tb))
    clear b0
    go_wp2
    exact bodyPost_ret (v := .agg #[.string tq, .string tb]) (by simp [results, Tryz.results91, go_sem, K.1, K.2]) rfl ⟨⟨_, rfl, ⟨tq, tb⟩, rfl, HF.out⟩, HX2.out⟩

theorem ref_of (w : World) (x y : Int) (h0 : -9223372036854775808 ≤ x) (h1 : x ≤ 9223372036854775807) (h2 : 0 < y) (h3 : y ≤ 9223372036854775807) :
    Calls Tryz.prog 64 #[.int .i64 x, .int .i64 y] w (Ret w fun w' v => ∃ r : FV, v = r.v ∧ FR r (Rat.divInt x y)) := by
  go_enter Tryz.func64, Tryz.ntmps64
  go_wp2_with fail
  have b0 := Blk.new w #[.string ⟨#[]⟩, .string ⟨#[]⟩] 84
  have hX := (X.refl w).alloc (.cells #[.string ⟨#[]⟩, .string ⟨#[]⟩] 84)
  refine (ref_from _ x h0 h1).mono ?_
  rintro e w1 ⟨⟨v, rfl, s, rfl, hs⟩, hx1⟩
  have B0 := Hid.mk (b0.x hx1)
  have HX := Hid.mk (hX.trans hx1)
  have HS := Hid.mk hs
  clear hx1 b0 hX hs
  go_wp2_with fail
  refine (ref_from _ y (by omega) h3).mono ?_
  rintro e w2 ⟨⟨v, rfl, t, rfl, ht⟩, hx2⟩
  replace B0 := Hid.mk (B0.out.x hx2)
  replace HX := Hid.mk (HX.out.trans hx2)
  have HT := Hid.mk ht
  clear hx2 ht
  have e1 : (10000000000000000000 : Int) = pw 10 19 := by decide
  have ss := HS.out.le_size (n := 19) (by omega)
  have st := HT.out.le_size (n := 19) (by omega)
  clear e1
  go_wp2_with fail
  refine (ref_make _ s t x y HS.out HT.out (by omega) (by omega) (by omega)).mono ?_
  rintro e w3 ⟨⟨v, rfl, r, rfl, hr⟩, hx3⟩
  replace B0 := Hid.mk (B0.out.x hx3)
  replace HX := Hid.mk (HX.out.trans hx3)
  have HR := Hid.mk hr
  clear hx3 hr
  have b0 := B0.out
  have k0 := b0.cell (j := 0) rfl; have k1 := b0.cell (j := 1) rfl; have f0 := b0.frozen 0; have f1 := b0.frozen 1
  have K := two_cells (.string r.p) (.string r.q) k0 k1
  have HX2 := Hid.mk ((HX.out.set (p := ⟨w.heap.size, 0, none⟩) (Nat.le_refl _) (.string r.p)).set (p := ⟨w.heap.size, 1, none⟩) (Nat.le_refl _) (.string r.q))
  clear b0
  go_wp2
  exact bodyPost_ret (v := r.v) (by simp [results, Tryz.results64, go_sem, K.1, K.2]) rfl ⟨⟨_, rfl, r, rfl, HR.out⟩, HX2.out⟩
end Go.Proofs.YtogakaiibijjpaaGreatDoor

/- Package rational, third part: Neg, Mul. -/
set_option linter.unusedVariables false
set_option linter.unusedSimpArgs false
namespace Go.Proofs.YtogakaiibijjpaaGreatDoor
open Go.RowKit
open DDig

theorem RatR.num {w : World} {a : QV} {q : Rat} (h : RatR w a q) : IntR w ⟨a.s, a.A, a.n, a.c⟩ q.num := by
  obtain ⟨e, h1, h2, h3⟩ := h; exact h1
abbrev qvc (a : QV) : List Value := [.bool a.s, .slice a.A a.n a.c, .bool a.t, .slice a.B a.m a.d]
theorem noint_qvc (a : QV) : NoInt (qvc a) := noint4 _ _ _ _ _ _ _ _
abbrev zero4 : List Value := [.bool false, .slice none 0 0, .bool false, .slice none 0 0]
theorem RatR.whole {w : World} {a : IV} {x : Int} (h : IntR w a x) : RatR w ⟨a.neg, a.A, a.n, a.c, false, none, 0, 0⟩ x := ⟨0, by simpa using h, IntR.zero _, Or.inr ⟨rfl, by simp⟩⟩

/-- Numerator and denominator are of at most k digits. -/
def RSz (x : Rat) (k : Nat) : Prop := (x.num.natAbs : Int) < pw B32 k ∧ (x.den : Int) < pw B32 k
theorem B32_one : 1 ≤ B32 := by decide
theorem RSz.mono {x : Rat} {k l : Nat} (h : RSz x k) (hl : k ≤ l) : RSz x l :=
  ⟨Int.lt_of_lt_of_le h.1 (pw_mono B32_one hl), Int.lt_of_lt_of_le h.2 (pw_mono B32_one hl)⟩
theorem mul_lt_pw {a b : Nat} {k l : Nat} (h : (a : Int) < pw B32 k) (h' : (b : Int) < pw B32 l) : ((a * b : Nat) : Int) < pw B32 (k + l) := by
  rw [pw_add, Int.natCast_mul]
  have := pw_pos B32_pos k
  have h1 : (a : Int) * b ≤ pw B32 k * b := Int.mul_le_mul_of_nonneg_right (by omega) (by omega)
  have h2 : pw B32 k * b < pw B32 k * pw B32 l := Int.mul_lt_mul_of_pos_left h' this
  omega
theorem natAbs_lt_pw {a b : Int} {k l : Nat} (h : (a.natAbs : Int) < pw B32 k) (h' : (b.natAbs : Int) < pw B32 l) : ((a * b).natAbs : Int) < pw B32 (k + l) := by
  rw [Int.natAbs_mul]; exact mul_lt_pw h h'

/-- The blocks of a function of two parameters and a result. -/
theorem setup3 (w : World) (c0 c1 c2 : Array Value) (t0 t1 t2 : TypeId) :
    ∃ W, ((w.alloc (.cells c0 t0)).alloc (.cells c1 t1)).alloc (.cells c2 t2) = W ∧ X w W ∧ Blk W w.heap.size t0 c0.toList ∧ Blk W (w.heap.size + 1) t1 c1.toList ∧ Blk W (w.heap.size + 1 + 1) t2 c2.toList :=
  ⟨_, rfl, (((X.refl w).alloc _).alloc _).alloc _, (Blk.new _ _ _).x (((X.refl _).alloc _).alloc _), (Blk.new_at _ _ _ (by simp)).x ((X.refl _).alloc _), Blk.new_at _ _ _ (by simp)⟩
theorem setup2 (w : World) (c0 c1 : Array Value) (t0 t1 : TypeId) :
    ∃ W, (w.alloc (.cells c0 t0)).alloc (.cells c1 t1) = W ∧ X w W ∧ Blk W w.heap.size t0 c0.toList ∧ Blk W (w.heap.size + 1) t1 c1.toList :=
  ⟨_, rfl, ((X.refl w).alloc _).alloc _, (Blk.new _ _ _).x ((X.refl _).alloc _), Blk.new_at _ _ _ (by simp)⟩

theorem whole_self {z : Rat} (h : z.den = 1) : ((z.num : Int) : Rat) = z := Rat.ext (by simp) (by simp [h])
theorem whole_mul {x y : Rat} (hx : x.den = 1) (hy : y.den = 1) : ((x.num * y.num : Int) : Rat) = x * y := by
  rw [Rat.intCast_mul, whole_self hx, whole_self hy]
theorem whole_add {x y : Rat} (hx : x.den = 1) (hy : y.den = 1) : ((x.num + y.num : Int) : Rat) = x + y := by
  rw [Rat.intCast_add, whole_self hx, whole_self hy]

theorem rat_whole_at (w : World) (a : QV) (x : Rat) (b : Bool) (ha : RatR w a x) (hb : decide (x.den = 1) = b) : Calls Tryz.prog 80 #[a.v] w (Ret w fun _ v => v = .bool b) := by
  subst hb
  exact rat_whole w a x ha

set_option maxRecDepth 100000 in
set_option maxHeartbeats 1000000 in
theorem rat_neg (w : World) (a : QV) (x : Rat) (ha : RatR w a x) :
    Calls Tryz.prog 49 #[a.v] w (Ret w fun w' v => ∃ r : QV, v = r.v ∧ RatR w' r (-x)) := by
  have HA := Hid.mk ha
  clear ha
  go_enter Tryz.func49, Tryz.ntmps49
  go_wp2_with fail
  obtain ⟨W, hW, hX, b0, b1⟩ := setup2 w #[.bool a.s, .slice a.A a.n a.c, .bool a.t, .slice a.B a.m a.d] #[.bool false, .slice none 0 0, .bool false, .slice none 0 0] 71 71
  rw [hW]
  clear hW
  have HC := Hid.mk (fun w' (h : X W w') => (⟨(b0.x h).cell (j := 0) rfl, (b0.x h).cell (j := 1) rfl, (b0.x h).cell (j := 2) rfl, (b0.x h).cell (j := 3) rfl⟩ : w'.cell? ⟨w.heap.size, 0, none⟩ = some (.bool a.s) ∧ w'.cell? ⟨w.heap.size, 1, none⟩ = some (.slice a.A a.n a.c) ∧ w'.cell? ⟨w.heap.size, 2, none⟩ = some (.bool a.t) ∧ w'.cell? ⟨w.heap.size, 3, none⟩ = some (.slice a.B a.m a.d)))
  have n1 : ¬ w.heap.size + 1 = w.heap.size := by omega
  have hz0 : X W W.drew := ⟨rfl, rfl, rfl, Nat.le_refl _, fun _ _ => rfl⟩
  have hS0 := HC.out W (X.refl _)
  go_region_held3 (fun w' => w'.cell? ⟨w.heap.size, 0, none⟩ = some (.bool a.s) ∧ w'.cell? ⟨w.heap.size, 1, none⟩ = some (.slice a.A a.n a.c) ∧ w'.cell? ⟨w.heap.size, 2, none⟩ = some (.bool a.t) ∧ w'.cell? ⟨w.heap.size, 3, none⟩ = some (.slice a.B a.m a.d))
    (go_keep)
    (first
      | (have hguard := hz0; go_at_call 87; refine (int_neg _ ⟨a.s, a.A, a.n, a.c⟩ x.num (by exact (HA.out.x (hX.trans hz0)).num)).mono ?_; rintro e w1 ⟨⟨v1, rfl, r1, rfl, hr1⟩, hx1⟩; have hz1 : X W w1 := hz0.trans hx1; have hS1 := HC.out w1 hz1; have p1 := b1.x hz1; have k0 := p1.cell (j := 0) rfl; have k1 := p1.cell (j := 1) rfl; have k2 := p1.cell (j := 2) rfl; have k3 := p1.cell (j := 3) rfl; have f0 := p1.frozen 0; have f1 := p1.frozen 1; have f2 := p1.frozen 2; have f3 := p1.frozen 3))
  have K := four_cells p1 (.bool r1.neg) (.slice r1.A r1.n r1.c) (.bool a.t) (.slice a.B a.m a.d)
  have HR : Hid (RatR (put4 w1 (w.heap.size + 1) ⟨r1.neg, r1.A, r1.n, r1.c, a.t, a.B, a.m, a.d⟩) ⟨r1.neg, r1.A, r1.n, r1.c, a.t, a.B, a.m, a.d⟩ (-x)) := by
    obtain ⟨e, h1, h2, h3⟩ := HA.out.x (hX.trans hz1)
    have h : RatR w1 ⟨r1.neg, r1.A, r1.n, r1.c, a.t, a.B, a.m, a.d⟩ (-x) := ⟨e, hr1, h2, h3⟩
    exact h.put4 p1 _
  have HX := Hid.mk ((hX.trans hz1).put4 (g := w.heap.size + 1) (by omega) ⟨r1.neg, r1.A, r1.n, r1.c, a.t, a.B, a.m, a.d⟩)
  clear b0 b1 p1 hr1 hX hx1 HC hz0 hz1
  go_wp2
  exact bodyPost_ret (v := .agg #[.bool r1.neg, .slice r1.A r1.n r1.c, .bool a.t, .slice a.B a.m a.d]) (by simp [results, Tryz.results49, go_sem, K.1, K.2.1, K.2.2.1, K.2.2.2]) rfl ⟨⟨_, rfl, ⟨r1.neg, r1.A, r1.n, r1.c, a.t, a.B, a.m, a.d⟩, rfl, HR.out⟩, HX.out⟩

set_option maxRecDepth 100000 in
set_option maxHeartbeats 4000000 in
theorem rat_mul (w : World) (a b : QV) (x y : Rat) (ha : RatR w a x) (hb : RatR w b y) (k l : Nat) (hx : RSz x k) (hy : RSz y l) (hkl : k + l ≤ 549755813888) :
    Calls Tryz.prog 48 #[a.v, b.v] w (Ret w fun w' v => ∃ r : QV, v = r.v ∧ RatR w' r (x * y)) := by
  have HA := Hid.mk ha
  have HB := Hid.mk hb
  have SX := Hid.mk hx
  have SY := Hid.mk hy
  clear ha hb hx hy
  go_enter Tryz.func48, Tryz.ntmps48
  go_upto_region 1 with (fail)
  obtain ⟨W, hW, hX, b0, b1, b2⟩ := setup3 w #[.bool a.s, .slice a.A a.n a.c, .bool a.t, .slice a.B a.m a.d] #[.bool b.s, .slice b.A b.n b.c, .bool b.t, .slice b.B b.m b.d] #[.bool false, .slice none 0 0, .bool false, .slice none 0 0] 71 71 71
  rw [hW]
  clear hW
  go_cut [10] (fun t10 wc => ∃ bb : Bool, t10 = .bool bb ∧ (bb = true → x.den = 1 ∧ y.den = 1) ∧ X W wc)
  case first =>
    have HC := Hid.mk (fun w' (h : X W w') => (⟨(b0.x h).cell (j := 0) rfl, (b0.x h).cell (j := 1) rfl, (b0.x h).cell (j := 2) rfl, (b0.x h).cell (j := 3) rfl, (b1.x h).cell (j := 0) rfl, (b1.x h).cell (j := 1) rfl, (b1.x h).cell (j := 2) rfl, (b1.x h).cell (j := 3) rfl⟩ : w'.cell? ⟨w.heap.size, 0, none⟩ = some (.bool a.s) ∧ w'.cell? ⟨w.heap.size, 1, none⟩ = some (.slice a.A a.n a.c) ∧ w'.cell? ⟨w.heap.size, 2, none⟩ = some (.bool a.t) ∧ w'.cell? ⟨w.heap.size, 3, none⟩ = some (.slice a.B a.m a.d) ∧ w'.cell? ⟨w.heap.size + 1, 0, none⟩ = some (.bool b.s) ∧ w'.cell? ⟨w.heap.size + 1, 1, none⟩ = some (.slice b.A b.n b.c) ∧ w'.cell? ⟨w.heap.size + 1, 2, none⟩ = some (.bool b.t) ∧ w'.cell? ⟨w.heap.size + 1, 3, none⟩ = some (.slice b.B b.m b.d)))
    have hS := HC.out W (X.refl W)
    by_cases hx1 : x.den = 1
    · go_wp2_with fail
      refine (rat_whole_at _ a x true (HA.out.x hX) (by simpa using hx1)).mono ?_
      rintro e w1 ⟨⟨v, rfl, rfl⟩, hz1⟩
      have hS1 := HC.out w1 hz1
      go_wp2_with fail
      refine (rat_whole_at _ b y (decide (y.den = 1)) (HB.out.x (hX.trans hz1)) rfl).mono ?_
      rintro e w2 ⟨⟨v, rfl, rfl⟩, hz2⟩
      go_wp2_with fail
      go_meet
      exact ⟨_, rfl, fun h => ⟨hx1, by simpa using h⟩, hz1.trans hz2⟩
    · go_wp2_with fail
      refine (rat_whole_at _ a x false (HA.out.x hX) (by simpa using hx1)).mono ?_
      rintro e w1 ⟨⟨v, rfl, rfl⟩, hz1⟩
      go_wp2_with fail
      go_meet
      exact ⟨false, rfl, by simp, hz1⟩
  case rest =>
    obtain ⟨bb, rfl, hbb, hx0⟩ := hcut
    replace hX := hX.trans hx0
    replace b0 := b0.x hx0
    replace b1 := b1.x hx0
    replace b2 := b2.x hx0
    clear hx0 W
    have HC := Hid.mk (fun w' (h : X wc w') => (⟨(b0.x h).cell (j := 0) rfl, (b0.x h).cell (j := 1) rfl, (b0.x h).cell (j := 2) rfl, (b0.x h).cell (j := 3) rfl, (b1.x h).cell (j := 0) rfl, (b1.x h).cell (j := 1) rfl, (b1.x h).cell (j := 2) rfl, (b1.x h).cell (j := 3) rfl⟩ : w'.cell? ⟨w.heap.size, 0, none⟩ = some (.bool a.s) ∧ w'.cell? ⟨w.heap.size, 1, none⟩ = some (.slice a.A a.n a.c) ∧ w'.cell? ⟨w.heap.size, 2, none⟩ = some (.bool a.t) ∧ w'.cell? ⟨w.heap.size, 3, none⟩ = some (.slice a.B a.m a.d) ∧ w'.cell? ⟨w.heap.size + 1, 0, none⟩ = some (.bool b.s) ∧ w'.cell? ⟨w.heap.size + 1, 1, none⟩ = some (.slice b.A b.n b.c) ∧ w'.cell? ⟨w.heap.size + 1, 2, none⟩ = some (.bool b.t) ∧ w'.cell? ⟨w.heap.size + 1, 3, none⟩ = some (.slice b.B b.m b.d)))
    cases bb with
    | true =>
      obtain ⟨hx1, hy1⟩ := hbb rfl
      have hS := HC.out wc (X.refl wc)
      go_wp2_with fail
      refine (int_mul _ ⟨a.s, a.A, a.n, a.c⟩ ⟨b.s, b.A, b.n, b.c⟩ x.num y.num (HA.out.x hX).num (HB.out.x hX).num (by have := (HA.out.x hX).num.size SX.out.1; simp at this; show a.n ≤ _; omega) (by have := (HB.out.x hX).num.size SY.out.1; simp at this; show b.n ≤ _; omega)).mono ?_
      rintro e w1 ⟨⟨v, rfl, r1, rfl, hr1⟩, hx2⟩
      replace b2 := b2.x hx2
      replace hX := hX.trans hx2
      have hR : RatR w1 ⟨r1.neg, r1.A, r1.n, r1.c, false, none, 0, 0⟩ (x * y) := by
        have h := RatR.whole hr1
        rw [whole_mul hx1 hy1] at h
        exact h
      have k0 := b2.cell (j := 0) rfl; have k1 := b2.cell (j := 1) rfl; have k2 := b2.cell (j := 2) rfl; have k3 := b2.cell (j := 3) rfl; have f0 := b2.frozen 0; have f1 := b2.frozen 1; have f2 := b2.frozen 2; have f3 := b2.frozen 3
      have K := four_cells b2 (.bool r1.neg) (.slice r1.A r1.n r1.c) (.bool false) (.slice none 0 0)
      have HR := Hid.mk (hR.put4 b2 ⟨r1.neg, r1.A, r1.n, r1.c, false, none, 0, 0⟩)
      have HX := Hid.mk (hX.put4 (g := w.heap.size + 1 + 1) (by omega) ⟨r1.neg, r1.A, r1.n, r1.c, false, none, 0, 0⟩)
      clear b0 b1 b2 hr1 hX hx2 HC hS hR
      go_wp2
      exact bodyPost_ret (v := .agg #[.bool r1.neg, .slice r1.A r1.n r1.c, .bool false, .slice none 0 0]) (by simp [results, Tryz.results48, go_sem, K.1, K.2.1, K.2.2.1, K.2.2.2]) rfl ⟨⟨_, rfl, ⟨r1.neg, r1.A, r1.n, r1.c, false, none, 0, 0⟩, rfl, HR.out⟩, HX.out⟩
    | false =>
      clear hbb
      have n1 : ¬ w.heap.size + 1 + 1 = w.heap.size := by omega
      have n2 : ¬ w.heap.size + 1 + 1 = w.heap.size + 1 := by omega
      have sn1 : a.n ≤ 549755813888 := by have := (HA.out.x hX).num.size SX.out.1; simp at this; omega
      have sn2 : b.n ≤ 549755813888 := by have := (HB.out.x hX).num.size SY.out.1; simp at this; omega
      have sp := natAbs_lt_pw SX.out.1 SY.out.1
      have sd := mul_lt_pw SX.out.2 SY.out.2
      have s1 : ∀ {w : World} {r : IV}, IntR w r x.den → r.n ≤ 549755813888 := fun h => by have := h.size (k := k) (by simpa using SX.out.2); omega
      have s2 : ∀ {w : World} {r : IV}, IntR w r y.den → r.n ≤ 549755813888 := fun h => by have := h.size (k := l) (by simpa using SY.out.2); omega
      have s3 : ∀ {w : World} {r : IV}, IntR w r (x.num * y.num) → r.n ≤ 549755813888 := fun h => by have := h.size sp; omega
      have s4 : ∀ {w : World} {r : IV}, IntR w r (x.den * y.den) → r.n ≤ 549755813888 := fun h => by have := h.size (k := k + l) (by rw [← Int.natCast_mul, Int.natAbs_natCast]; exact sd); omega
      have hd : (x.den : Int) * y.den ≠ 0 := by
        have := x.den_pos
        have := y.den_pos
        exact Int.mul_ne_zero (by omega) (by omega)
      have e0 : Rat.divInt (x.num * y.num) (x.den * y.den) = x * y := by
        rw [Rat.mul_def', ← Rat.divInt_ofNat, Int.natCast_mul]
      have E0 := Hid.mk e0
      clear e0 sp sd
      go_wp2_with fail
      have hz0 : X wc wc.drew := ⟨rfl, rfl, rfl, Nat.le_refl _, fun _ _ => rfl⟩
      have hS0 := HC.out wc (X.refl _)
      go_region_held3 (fun w' => w'.cell? ⟨w.heap.size, 0, none⟩ = some (.bool a.s) ∧ w'.cell? ⟨w.heap.size, 1, none⟩ = some (.slice a.A a.n a.c) ∧ w'.cell? ⟨w.heap.size, 2, none⟩ = some (.bool a.t) ∧ w'.cell? ⟨w.heap.size, 3, none⟩ = some (.slice a.B a.m a.d) ∧ w'.cell? ⟨w.heap.size + 1, 0, none⟩ = some (.bool b.s) ∧ w'.cell? ⟨w.heap.size + 1, 1, none⟩ = some (.slice b.A b.n b.c) ∧ w'.cell? ⟨w.heap.size + 1, 2, none⟩ = some (.bool b.t) ∧ w'.cell? ⟨w.heap.size + 1, 3, none⟩ = some (.slice b.B b.m b.d))
        (go_keep)
        (first
          | (have hguard := hz4; go_at_call 86; refine (rat_reduced _ r1 r4 (x.num * y.num) (x.den * y.den) hr1 hr4 (s3 hr1) (s4 hr4) hd).mono ?_; rintro e w5 ⟨⟨v5, rfl, r5, rfl, hr5⟩, hx5⟩; have hz5 : X wc w5 := hz4.trans hx5; have hr1 := hr1.x hx5; have hr2 := hr2.x hx5; have hr3 := hr3.x hx5; have hr4 := hr4.x hx5; have hS5 := HC.out w5 hz5; have p2 := b2.x hz5; have k0 := p2.cell (j := 0) rfl; have k1 := p2.cell (j := 1) rfl; have k2 := p2.cell (j := 2) rfl; have k3 := p2.cell (j := 3) rfl; have f0 := p2.frozen 0; have f1 := p2.frozen 1; have f2 := p2.frozen 2; have f3 := p2.frozen 3)
          | (have hguard := hz3; go_at_call 84; refine (int_mul _ r2 r3 x.den y.den hr2 hr3 (by have := s1 hr2; omega) (by have := s2 hr3; omega)).mono ?_; rintro e w4 ⟨⟨v4, rfl, r4, rfl, hr4⟩, hx4⟩; have hz4 : X wc w4 := hz3.trans hx4; have hr1 := hr1.x hx4; have hr2 := hr2.x hx4; have hr3 := hr3.x hx4; have hS4 := HC.out w4 hz4)
          | (have hguard := hz2; go_at_call 85; refine (rat_den _ b y (HB.out.x (hX.trans hz2))).mono ?_; rintro e w3 ⟨⟨v3, rfl, r3, rfl, hr3⟩, hx3⟩; have hz3 : X wc w3 := hz2.trans hx3; have hr1 := hr1.x hx3; have hr2 := hr2.x hx3; have hS3 := HC.out w3 hz3)
          | (have hguard := hz1; go_at_call 85; refine (rat_den _ a x (HA.out.x (hX.trans hz1))).mono ?_; rintro e w2 ⟨⟨v2, rfl, r2, rfl, hr2⟩, hx2⟩; have hz2 : X wc w2 := hz1.trans hx2; have hr1 := hr1.x hx2; have hS2 := HC.out w2 hz2)
          | (have hguard := hz0; go_at_call 84; refine (int_mul _ ⟨a.s, a.A, a.n, a.c⟩ ⟨b.s, b.A, b.n, b.c⟩ x.num y.num (by exact (HA.out.x (hX.trans hz0)).num) (by exact (HB.out.x (hX.trans hz0)).num) (by show a.n ≤ _; omega) (by show b.n ≤ _; omega)).mono ?_; rintro e w1 ⟨⟨v1, rfl, r1, rfl, hr1⟩, hx1⟩; have hz1 : X wc w1 := hz0.trans hx1; have hS1 := HC.out w1 hz1))
      rw [E0.out] at hr5
      have K := four_cells p2 (.bool r5.s) (.slice r5.A r5.n r5.c) (.bool r5.t) (.slice r5.B r5.m r5.d)
      have HR := Hid.mk (hr5.put4 p2 r5)
      have HX := Hid.mk ((hX.trans hz5).put4 (g := w.heap.size + 1 + 1) (by omega) r5)
      clear b0 b1 b2 hr1 hr2 hr3 hr4 hr5 hX HC p2
      go_wp2
      exact bodyPost_ret (v := r5.v) (by simp [results, Tryz.results48, go_sem, K.1, K.2.1, K.2.2.1, K.2.2.2]) rfl ⟨⟨_, rfl, r5, rfl, HR.out⟩, HX.out⟩
end Go.Proofs.YtogakaiibijjpaaGreatDoor

/- Package rational, fourth part: Add, Sub, Div, Compare, Min, Max. -/
set_option linter.unusedVariables false
set_option linter.unusedSimpArgs false
namespace Go.Proofs.YtogakaiibijjpaaGreatDoor
open Go.RowKit
open DDig

theorem add_lt_pw {a b : Int} {n : Nat} (h : (a.natAbs : Int) < pw B32 n) (h' : (b.natAbs : Int) < pw B32 n) : ((a + b).natAbs : Int) < pw B32 (n + 1) := by
  rw [pw_succ]
  have : B32 * pw B32 n = 4294967296 * pw B32 n := rfl
  omega
theorem RSz.neg {x : Rat} {k : Nat} (h : RSz x k) : RSz (-x) k := by
  refine ⟨?_, h.2⟩
  rw [Rat.neg_num, Int.natAbs_neg]; exact h.1
theorem add_divInt (x y : Rat) : Rat.divInt (x.num * y.den + y.num * x.den) (x.den * y.den) = x + y := by
  rw [Rat.add_def', ← Rat.divInt_ofNat, Int.natCast_mul]

set_option maxRecDepth 100000 in
set_option maxHeartbeats 4000000 in
theorem rat_add (w : World) (a b : QV) (x y : Rat) (ha : RatR w a x) (hb : RatR w b y) (k l : Nat) (hx : RSz x k) (hy : RSz y l) (hkl : k + l + 1 ≤ 549755813888) :
    Calls Tryz.prog 98 #[a.v, b.v] w (Ret w fun w' v => ∃ r : QV, v = r.v ∧ RatR w' r (x + y)) := by
  have HA := Hid.mk ha
  have HB := Hid.mk hb
  have SX := Hid.mk hx
  have SY := Hid.mk hy
  clear hx hy
  clear ha hb
  go_enter Tryz.func98, Tryz.ntmps98
  go_upto_region 1 with (fail)
  obtain ⟨W, hW, hX, b0, b1, b2⟩ := setup3 w #[.bool a.s, .slice a.A a.n a.c, .bool a.t, .slice a.B a.m a.d] #[.bool b.s, .slice b.A b.n b.c, .bool b.t, .slice b.B b.m b.d] #[.bool false, .slice none 0 0, .bool false, .slice none 0 0] 71 71 71
  rw [hW]
  clear hW
  go_cut [10] (fun t10 wc => ∃ bb : Bool, t10 = .bool bb ∧ (bb = true → x.den = 1 ∧ y.den = 1) ∧ X W wc)
  case first =>
    have HC := Hid.mk (fun w' (h : X W w') => (⟨(b0.x h).cell (j := 0) rfl, (b0.x h).cell (j := 1) rfl, (b0.x h).cell (j := 2) rfl, (b0.x h).cell (j := 3) rfl, (b1.x h).cell (j := 0) rfl, (b1.x h).cell (j := 1) rfl, (b1.x h).cell (j := 2) rfl, (b1.x h).cell (j := 3) rfl⟩ : w'.cell? ⟨w.heap.size, 0, none⟩ = some (.bool a.s) ∧ w'.cell? ⟨w.heap.size, 1, none⟩ = some (.slice a.A a.n a.c) ∧ w'.cell? ⟨w.heap.size, 2, none⟩ = some (.bool a.t) ∧ w'.cell? ⟨w.heap.size, 3, none⟩ = some (.slice a.B a.m a.d) ∧ w'.cell? ⟨w.heap.size + 1, 0, none⟩ = some (.bool b.s) ∧ w'.cell? ⟨w.heap.size + 1, 1, none⟩ = some (.slice b.A b.n b.c) ∧ w'.cell? ⟨w.heap.size + 1, 2, none⟩ = some (.bool b.t) ∧ w'.cell? ⟨w.heap.size + 1, 3, none⟩ = some (.slice b.B b.m b.d)))
    have hS := HC.out W (X.refl W)
    by_cases hx1 : x.den = 1
    · go_wp2_with fail
      refine (rat_whole_at _ a x true (HA.out.x hX) (by simpa using hx1)).mono ?_
      rintro e w1 ⟨⟨v, rfl, rfl⟩, hz1⟩
      have hS1 := HC.out w1 hz1
      go_wp2_with fail
      refine (rat_whole_at _ b y (decide (y.den = 1)) (HB.out.x (hX.trans hz1)) rfl).mono ?_
      rintro e w2 ⟨⟨v, rfl, rfl⟩, hz2⟩
      go_wp2_with fail
      go_meet
      exact ⟨_, rfl, fun h => ⟨hx1, by simpa using h⟩, hz1.trans hz2⟩
    · go_wp2_with fail
      refine (rat_whole_at _ a x false (HA.out.x hX) (by simpa using hx1)).mono ?_
      rintro e w1 ⟨⟨v, rfl, rfl⟩, hz1⟩
      go_wp2_with fail
      go_meet
      exact ⟨false, rfl, by simp, hz1⟩
  case rest =>
    obtain ⟨bb, rfl, hbb, hx0⟩ := hcut
    replace hX := hX.trans hx0
    replace b0 := b0.x hx0
    replace b1 := b1.x hx0
    replace b2 := b2.x hx0
    clear hx0 W
    have HC := Hid.mk (fun w' (h : X wc w') => (⟨(b0.x h).cell (j := 0) rfl, (b0.x h).cell (j := 1) rfl, (b0.x h).cell (j := 2) rfl, (b0.x h).cell (j := 3) rfl, (b1.x h).cell (j := 0) rfl, (b1.x h).cell (j := 1) rfl, (b1.x h).cell (j := 2) rfl, (b1.x h).cell (j := 3) rfl⟩ : w'.cell? ⟨w.heap.size, 0, none⟩ = some (.bool a.s) ∧ w'.cell? ⟨w.heap.size, 1, none⟩ = some (.slice a.A a.n a.c) ∧ w'.cell? ⟨w.heap.size, 2, none⟩ = some (.bool a.t) ∧ w'.cell? ⟨w.heap.size, 3, none⟩ = some (.slice a.B a.m a.d) ∧ w'.cell? ⟨w.heap.size + 1, 0, none⟩ = some (.bool b.s) ∧ w'.cell? ⟨w.heap.size + 1, 1, none⟩ = some (.slice b.A b.n b.c) ∧ w'.cell? ⟨w.heap.size + 1, 2, none⟩ = some (.bool b.t) ∧ w'.cell? ⟨w.heap.size + 1, 3, none⟩ = some (.slice b.B b.m b.d)))
    cases bb with
    | true =>
      obtain ⟨hx1, hy1⟩ := hbb rfl
      have hS := HC.out wc (X.refl wc)
      go_wp2_with fail
      refine (int_add _ ⟨a.s, a.A, a.n, a.c⟩ ⟨b.s, b.A, b.n, b.c⟩ x.num y.num (HA.out.x hX).num (HB.out.x hX).num (by have := (HA.out.x hX).num.size SX.out.1; simp at this; show a.n ≤ _; omega) (by have := (HB.out.x hX).num.size SY.out.1; simp at this; show b.n ≤ _; omega)).mono ?_
      rintro e w1 ⟨⟨v, rfl, r1, rfl, hr1⟩, hx2⟩
      replace b2 := b2.x hx2
      replace hX := hX.trans hx2
      have hR : RatR w1 ⟨r1.neg, r1.A, r1.n, r1.c, false, none, 0, 0⟩ (x + y) := by
        have h := RatR.whole hr1
        rw [whole_add hx1 hy1] at h
        exact h
      have k0 := b2.cell (j := 0) rfl; have k1 := b2.cell (j := 1) rfl; have k2 := b2.cell (j := 2) rfl; have k3 := b2.cell (j := 3) rfl; have f0 := b2.frozen 0; have f1 := b2.frozen 1; have f2 := b2.frozen 2; have f3 := b2.frozen 3
      have K := four_cells b2 (.bool r1.neg) (.slice r1.A r1.n r1.c) (.bool false) (.slice none 0 0)
      have HR := Hid.mk (hR.put4 b2 ⟨r1.neg, r1.A, r1.n, r1.c, false, none, 0, 0⟩)
      have HX := Hid.mk (hX.put4 (g := w.heap.size + 1 + 1) (by omega) ⟨r1.neg, r1.A, r1.n, r1.c, false, none, 0, 0⟩)
      clear b0 b1 b2 hr1 hX hx2 HC hS hR
      go_wp2
      exact bodyPost_ret (v := .agg #[.bool r1.neg, .slice r1.A r1.n r1.c, .bool false, .slice none 0 0]) (by simp [results, Tryz.results98, go_sem, K.1, K.2.1, K.2.2.1, K.2.2.2]) rfl ⟨⟨_, rfl, ⟨r1.neg, r1.A, r1.n, r1.c, false, none, 0, 0⟩, rfl, HR.out⟩, HX.out⟩
    | false =>
      clear hbb
      have n1 : ¬ w.heap.size + 1 + 1 = w.heap.size := by omega
      have n2 : ¬ w.heap.size + 1 + 1 = w.heap.size + 1 := by omega
      have sn1 : a.n ≤ 549755813888 := by have := (HA.out.x hX).num.size SX.out.1; simp at this; omega
      have sn2 : b.n ≤ 549755813888 := by have := (HB.out.x hX).num.size SY.out.1; simp at this; omega
      have s1 : ∀ {w : World} {r : IV}, IntR w r x.den → r.n ≤ 549755813888 := fun h => by have := h.size (k := k) (by simpa using SX.out.2); omega
      have s2 : ∀ {w : World} {r : IV}, IntR w r y.den → r.n ≤ 549755813888 := fun h => by have := h.size (k := l) (by simpa using SY.out.2); omega
      have sp1 : ((x.num * y.den).natAbs : Int) < pw B32 (k + l) := natAbs_lt_pw SX.out.1 (by simpa using SY.out.2)
      have sp2 : ((y.num * x.den).natAbs : Int) < pw B32 (k + l) := by
        have := natAbs_lt_pw SY.out.1 (b := x.den) (l := k) (by simpa using SX.out.2)
        rw [Nat.add_comm] at this; exact this
      have sp := add_lt_pw sp1 sp2
      have sd := mul_lt_pw SX.out.2 SY.out.2
      have s3 : ∀ {w : World} {r : IV}, IntR w r (x.num * y.den) → r.n ≤ 549755813888 := fun h => by have := h.size sp1; omega
      have s4 : ∀ {w : World} {r : IV}, IntR w r (y.num * x.den) → r.n ≤ 549755813888 := fun h => by have := h.size sp2; omega
      have s5 : ∀ {w : World} {r : IV}, IntR w r (x.num * y.den + y.num * x.den) → r.n ≤ 549755813888 := fun h => by have := h.size sp; omega
      have s6 : ∀ {w : World} {r : IV}, IntR w r (x.den * y.den) → r.n ≤ 549755813888 := fun h => by have := h.size (k := k + l) (by rw [← Int.natCast_mul, Int.natAbs_natCast]; exact sd); omega
      have hd : (x.den : Int) * y.den ≠ 0 := by
        have := x.den_pos
        have := y.den_pos
        exact Int.mul_ne_zero (by omega) (by omega)
      clear sp1 sp2 sp sd
      go_wp2_with fail
      have hz0 : X wc wc.drew := ⟨rfl, rfl, rfl, Nat.le_refl _, fun _ _ => rfl⟩
      have hS0 := HC.out wc (X.refl _)
      go_region_held3 (fun w' => w'.cell? ⟨w.heap.size, 0, none⟩ = some (.bool a.s) ∧ w'.cell? ⟨w.heap.size, 1, none⟩ = some (.slice a.A a.n a.c) ∧ w'.cell? ⟨w.heap.size, 2, none⟩ = some (.bool a.t) ∧ w'.cell? ⟨w.heap.size, 3, none⟩ = some (.slice a.B a.m a.d) ∧ w'.cell? ⟨w.heap.size + 1, 0, none⟩ = some (.bool b.s) ∧ w'.cell? ⟨w.heap.size + 1, 1, none⟩ = some (.slice b.A b.n b.c) ∧ w'.cell? ⟨w.heap.size + 1, 2, none⟩ = some (.bool b.t) ∧ w'.cell? ⟨w.heap.size + 1, 3, none⟩ = some (.slice b.B b.m b.d))
        (go_keep)
        (first
          | (have hguard := hz8; go_at_call 86; refine (rat_reduced _ r5 r8 (x.num * y.den + y.num * x.den) (x.den * y.den) hr5 hr8 (s5 hr5) (s6 hr8) hd).mono ?_; rintro e w9 ⟨⟨v9, rfl, r9, rfl, hr9⟩, hx9⟩; have hz9 : X wc w9 := hz8.trans hx9; have hr1 := hr1.x hx9; have hr2 := hr2.x hx9; have hr3 := hr3.x hx9; have hr4 := hr4.x hx9; have hr5 := hr5.x hx9; have hr6 := hr6.x hx9; have hr7 := hr7.x hx9; have hr8 := hr8.x hx9; have hS9 := HC.out w9 hz9; have p2 := b2.x hz9; have k0 := p2.cell (j := 0) rfl; have k1 := p2.cell (j := 1) rfl; have k2 := p2.cell (j := 2) rfl; have k3 := p2.cell (j := 3) rfl; have f0 := p2.frozen 0; have f1 := p2.frozen 1; have f2 := p2.frozen 2; have f3 := p2.frozen 3)
          | (have hguard := hz7; go_at_call 84; refine (int_mul _ r6 r7 x.den y.den hr6 hr7 (by have := s1 hr6; omega) (by have := s2 hr7; omega)).mono ?_; rintro e w8 ⟨⟨v8, rfl, r8, rfl, hr8⟩, hx8⟩; have hz8 : X wc w8 := hz7.trans hx8; have hr1 := hr1.x hx8; have hr2 := hr2.x hx8; have hr3 := hr3.x hx8; have hr4 := hr4.x hx8; have hr5 := hr5.x hx8; have hr6 := hr6.x hx8; have hr7 := hr7.x hx8; have hS8 := HC.out w8 hz8)
          | (have hguard := hz6; go_at_call 85; refine (rat_den _ b y (HB.out.x (hX.trans hz6))).mono ?_; rintro e w7 ⟨⟨v7, rfl, r7, rfl, hr7⟩, hx7⟩; have hz7 : X wc w7 := hz6.trans hx7; have hr1 := hr1.x hx7; have hr2 := hr2.x hx7; have hr3 := hr3.x hx7; have hr4 := hr4.x hx7; have hr5 := hr5.x hx7; have hr6 := hr6.x hx7; have hS7 := HC.out w7 hz7)
          | (have hguard := hz5; go_at_call 85; refine (rat_den _ a x (HA.out.x (hX.trans hz5))).mono ?_; rintro e w6 ⟨⟨v6, rfl, r6, rfl, hr6⟩, hx6⟩; have hz6 : X wc w6 := hz5.trans hx6; have hr1 := hr1.x hx6; have hr2 := hr2.x hx6; have hr3 := hr3.x hx6; have hr4 := hr4.x hx6; have hr5 := hr5.x hx6; have hS6 := HC.out w6 hz6)
          | (have hguard := hz4; go_at_call 124; refine (int_add _ r2 r4 (x.num * y.den) (y.num * x.den) hr2 hr4 (by have := s3 hr2; omega) (by have := s4 hr4; omega)).mono ?_; rintro e w5 ⟨⟨v5, rfl, r5, rfl, hr5⟩, hx5⟩; have hz5 : X wc w5 := hz4.trans hx5; have hr1 := hr1.x hx5; have hr2 := hr2.x hx5; have hr3 := hr3.x hx5; have hr4 := hr4.x hx5; have hS5 := HC.out w5 hz5)
          | (have hguard := hz3; go_at_call 84; refine (int_mul _ ⟨b.s, b.A, b.n, b.c⟩ r3 y.num x.den (by exact (HB.out.x (hX.trans hz3)).num) hr3 (by show b.n ≤ _; omega) (by have := s1 hr3; omega)).mono ?_; rintro e w4 ⟨⟨v4, rfl, r4, rfl, hr4⟩, hx4⟩; have hz4 : X wc w4 := hz3.trans hx4; have hr1 := hr1.x hx4; have hr2 := hr2.x hx4; have hr3 := hr3.x hx4; have hS4 := HC.out w4 hz4)
          | (have hguard := hz2; go_at_call 85; refine (rat_den _ a x (HA.out.x (hX.trans hz2))).mono ?_; rintro e w3 ⟨⟨v3, rfl, r3, rfl, hr3⟩, hx3⟩; have hz3 : X wc w3 := hz2.trans hx3; have hr1 := hr1.x hx3; have hr2 := hr2.x hx3; have hS3 := HC.out w3 hz3)
          | (have hguard := hz1; go_at_call 84; refine (int_mul _ ⟨a.s, a.A, a.n, a.c⟩ r1 x.num y.den (by exact (HA.out.x (hX.trans hz1)).num) hr1 (by show a.n ≤ _; omega) (by have := s2 hr1; omega)).mono ?_; rintro e w2 ⟨⟨v2, rfl, r2, rfl, hr2⟩, hx2⟩; have hz2 : X wc w2 := hz1.trans hx2; have hr1 := hr1.x hx2; have hS2 := HC.out w2 hz2)
          | (have hguard := hz0; go_at_call 85; refine (rat_den _ b y (HB.out.x (hX.trans hz0))).mono ?_; rintro e w1 ⟨⟨v1, rfl, r1, rfl, hr1⟩, hx1⟩; have hz1 : X wc w1 := hz0.trans hx1; have hS1 := HC.out w1 hz1))
      rw [add_divInt] at hr9
      have K := four_cells p2 (.bool r9.s) (.slice r9.A r9.n r9.c) (.bool r9.t) (.slice r9.B r9.m r9.d)
      have HR := Hid.mk (hr9.put4 p2 r9)
      have HX := Hid.mk ((hX.trans hz9).put4 (g := w.heap.size + 1 + 1) (by omega) r9)
      clear b0 b1 b2 hX HC p2
      go_wp2
      exact bodyPost_ret (v := r9.v) (by simp [results, Tryz.results98, go_sem, K.1, K.2.1, K.2.2.1, K.2.2.2]) rfl ⟨⟨_, rfl, r9, rfl, HR.out⟩, HX.out⟩

set_option maxRecDepth 100000 in
set_option maxHeartbeats 4000000 in
theorem rat_sub (w : World) (a b : QV) (x y : Rat) (ha : RatR w a x) (hb : RatR w b y) (k l : Nat) (hx : RSz x k) (hy : RSz y l) (hkl : k + l + 1 ≤ 549755813888) :
    Calls Tryz.prog 115 #[a.v, b.v] w (Ret w fun w' v => ∃ r : QV, v = r.v ∧ RatR w' r (x - y)) := by
  have HA := Hid.mk ha
  have HB := Hid.mk hb
  clear ha hb
  go_enter Tryz.func115, Tryz.ntmps115
  go_upto_region 1 with (fail)
  obtain ⟨W, hW, hX, b0, b1, b2⟩ := setup3 w #[.bool a.s, .slice a.A a.n a.c, .bool a.t, .slice a.B a.m a.d] #[.bool b.s, .slice b.A b.n b.c, .bool b.t, .slice b.B b.m b.d] #[.bool false, .slice none 0 0, .bool false, .slice none 0 0] 71 71 71
  rw [hW]
  clear hW
  have HC := Hid.mk (fun w' (h : X W w') => (⟨(b0.x h).cell (j := 0) rfl, (b0.x h).cell (j := 1) rfl, (b0.x h).cell (j := 2) rfl, (b0.x h).cell (j := 3) rfl, (b1.x h).cell (j := 0) rfl, (b1.x h).cell (j := 1) rfl, (b1.x h).cell (j := 2) rfl, (b1.x h).cell (j := 3) rfl⟩ : w'.cell? ⟨w.heap.size, 0, none⟩ = some (.bool a.s) ∧ w'.cell? ⟨w.heap.size, 1, none⟩ = some (.slice a.A a.n a.c) ∧ w'.cell? ⟨w.heap.size, 2, none⟩ = some (.bool a.t) ∧ w'.cell? ⟨w.heap.size, 3, none⟩ = some (.slice a.B a.m a.d) ∧ w'.cell? ⟨w.heap.size + 1, 0, none⟩ = some (.bool b.s) ∧ w'.cell? ⟨w.heap.size + 1, 1, none⟩ = some (.slice b.A b.n b.c) ∧ w'.cell? ⟨w.heap.size + 1, 2, none⟩ = some (.bool b.t) ∧ w'.cell? ⟨w.heap.size + 1, 3, none⟩ = some (.slice b.B b.m b.d)))
  have n1 : ¬ w.heap.size + 1 + 1 = w.heap.size := by omega
  have n2 : ¬ w.heap.size + 1 + 1 = w.heap.size + 1 := by omega
  have hz0 : X W W.drew := ⟨rfl, rfl, rfl, Nat.le_refl _, fun _ _ => rfl⟩
  have hS0 := HC.out W (X.refl _)
  go_region_held3 (fun w' => w'.cell? ⟨w.heap.size, 0, none⟩ = some (.bool a.s) ∧ w'.cell? ⟨w.heap.size, 1, none⟩ = some (.slice a.A a.n a.c) ∧ w'.cell? ⟨w.heap.size, 2, none⟩ = some (.bool a.t) ∧ w'.cell? ⟨w.heap.size, 3, none⟩ = some (.slice a.B a.m a.d) ∧ w'.cell? ⟨w.heap.size + 1, 0, none⟩ = some (.bool b.s) ∧ w'.cell? ⟨w.heap.size + 1, 1, none⟩ = some (.slice b.A b.n b.c) ∧ w'.cell? ⟨w.heap.size + 1, 2, none⟩ = some (.bool b.t) ∧ w'.cell? ⟨w.heap.size + 1, 3, none⟩ = some (.slice b.B b.m b.d))
    (go_keep)
    (first
      | (have hguard := hz1; go_at_call 98; refine (rat_add _ a r1 x (-y) (HA.out.x (hX.trans hz1)) hr1 k l hx hy.neg hkl).mono ?_; rintro e w2 ⟨⟨v2, rfl, r2, rfl, hr2⟩, hx2⟩; have hz2 : X W w2 := hz1.trans hx2; have hr1 := hr1.x hx2; have hS2 := HC.out w2 hz2; have p2 := b2.x hz2; have k0 := p2.cell (j := 0) rfl; have k1 := p2.cell (j := 1) rfl; have k2 := p2.cell (j := 2) rfl; have k3 := p2.cell (j := 3) rfl; have f0 := p2.frozen 0; have f1 := p2.frozen 1; have f2 := p2.frozen 2; have f3 := p2.frozen 3)
      | (have hguard := hz0; go_at_call 49; refine (rat_neg _ b y (HB.out.x (hX.trans hz0))).mono ?_; rintro e w1 ⟨⟨v1, rfl, r1, rfl, hr1⟩, hx1⟩; have hz1 : X W w1 := hz0.trans hx1; have hS1 := HC.out w1 hz1))
  rw [← Rat.sub_eq_add_neg] at hr2
  have K := four_cells p2 (.bool r2.s) (.slice r2.A r2.n r2.c) (.bool r2.t) (.slice r2.B r2.m r2.d)
  have HR := Hid.mk (hr2.put4 p2 r2)
  have HX := Hid.mk ((hX.trans hz2).put4 (g := w.heap.size + 1 + 1) (by omega) r2)
  clear b0 b1 b2 hX HC p2
  go_wp2
  exact bodyPost_ret (v := r2.v) (by simp [results, Tryz.results115, go_sem, K.1, K.2.1, K.2.2.1, K.2.2.2]) rfl ⟨⟨_, rfl, r2, rfl, HR.out⟩, HX.out⟩
end Go.Proofs.YtogakaiibijjpaaGreatDoor
