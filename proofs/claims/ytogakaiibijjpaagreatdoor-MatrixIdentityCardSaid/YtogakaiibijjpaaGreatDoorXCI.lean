/- For every input MatrixIdentity returns true and leaves its arguments as they read; no condition. -/
import Derived.Test.YtogakaiibijjpaaGreatDoorW8
/- The law MatrixIdentity: the walk. -/
set_option linter.unusedVariables false
set_option linter.unusedSimpArgs false
namespace Go.Proofs.YtogakaiibijjpaaGreatDoor
open Go.RowKit
open DDig DLin

/-- A row as a table of one row. -/
theorem one_table {w : World} {u : Value} {n : Nat} {f : Nat → Rat} (h : SlQ w u n f) {g : Nat} {e : TypeId} (hb : Blk w g e [u]) : MatQ w (.slice (some ⟨g, 0, none⟩) 1 1) 1 n (fun _ => f) :=
  ⟨_, 1, rfl, Nat.le_refl _, by simp, fun _ => ⟨g, 0, rfl, fun i hi => by
    have : i = 0 := by omega
    subst this
    exact ⟨u, hb.cell rfl, h⟩⟩⟩

theorem one_size (n : Nat) : TSz one n n 1 := fun i _ j _ => by
  unfold one
  split
  · exact RSz.one (by omega)
  · exact RSz.zero (by omega)

set_option maxRecDepth 100000 in
set_option maxHeartbeats 8000000 in
theorem law_identity (w : World) (n0 : Int) (A : Option Addr) (l c0 : Nat) (N D : Nat → Int) (h : EntR w A l N D) (hl : l ≤ 9223372036854775807) (hg : Gl w) :
    Calls Tryz.prog 4 #[.int .i64 n0, .slice A l c0] w (Ret w fun _ v => v = .bool true) := by
  have H := Hid.mk h
  have HG := Hid.mk hg
  clear h hg
  go_enter Tryz.func4, Tryz.ntmps4
  go_wp2_with fail
  refine (law_known _ HG.out).mono ?_
  rintro e w1 ⟨⟨v1, rfl, rfl⟩, hx1⟩
  have HX := Hid.mk hx1
  clear hx1
  by_cases h20 : 20 < l
  · have h20' : (20 : Int) < (l : Int) := by omega
    go_wp2_with fail
    refine (law_known _ (HG.out.x HX.out)).mono ?_
    rintro e w2 ⟨⟨v2, rfl, rfl⟩, hx2⟩
    replace HX := Hid.mk (HX.out.trans hx2)
    clear hx2
    go_wp2_with fail
    go_ret
    exact ⟨⟨_, rfl, rfl⟩, HX.out⟩
  · have h20' : ¬ (20 : Int) < (l : Int) := by omega
    go_wp2_with fail
    by_cases hr : n0 < 0 ∨ 96 < n0
    · refine (mat_identity_range _ n0 hr).mono ?_
      rintro e w2 ⟨⟨v2, rfl, rfl⟩, hx2⟩
      replace HX := Hid.mk (HX.out.trans hx2)
      clear hx2
      rcases hr with hr | hr
      · go_wp2_with fail
        go_ret
        exact ⟨⟨_, rfl, rfl⟩, HX.out⟩
      · have hr0 : ¬ n0 < 0 := by omega
        go_wp2_with fail
        go_ret
        exact ⟨⟨_, rfl, rfl⟩, HX.out⟩
    · obtain ⟨n, hn⟩ : ∃ n : Nat, n0 = n := ⟨n0.toNat, by omega⟩
      subst hn
      have hn96 : n ≤ 96 := by omega
      have hr0 : ¬ (n : Int) < 0 := by omega
      have hr1 : ¬ (96 : Int) < (n : Int) := by omega
      have hnn : ((n : Int) != (n : Int)) = false := by simp
      clear hr
      refine (mat_identity _ n hn96).mono ?_
      rintro e w2 ⟨⟨v2, rfl, R, rfl, hR⟩, hx2⟩
      replace HX := Hid.mk (HX.out.trans hx2)
      have HR := Hid.mk hR
      clear hx2 hR
      go_wp2_with fail
      refine (mat_Size _ _ n n one HR.out (by omega) (by omega) n (by split <;> omega)).mono ?_
      rintro e w3 ⟨⟨v3, rfl, rfl⟩, hx3⟩
      replace HX := Hid.mk (HX.out.trans hx3)
      replace HR := Hid.mk (HR.out.x hx3)
      clear hx3
      go_wp2_with fail
      refine (law_line _ A l c0 n N D (H.out.x HX.out) (by omega) hl).mono ?_
      rintro e w4 ⟨⟨v4, rfl, hv4⟩, hx4⟩
      replace HX := Hid.mk (HX.out.trans hx4)
      replace HR := Hid.mk (HR.out.x hx4)
      have HL := Hid.mk hv4
      have HSZ : Hid (∀ j, j < n → RSz (entv l N D j) 1) := fun j hj => entv_size w H.out j
      obtain ⟨f, hf⟩ : ∃ f, f = entv l N D := ⟨_, rfl⟩
      rw [← hf] at HL HSZ
      clear hx4 hv4 hf
      go_wp2_with fail
      refine (law_list _ _ n f HL.out (by omega) 1 HSZ.out (by omega) (HG.out.x HX.out)).mono ?_
      rintro e w5 ⟨⟨v5, rfl, hv5⟩, hx5⟩
      replace HX := Hid.mk (HX.out.trans hx5)
      replace HR := Hid.mk (HR.out.x hx5)
      have HV := Hid.mk hv5
      obtain ⟨VA, vc, rfl, -, -, -⟩ := id hv5
      clear hx5 hv5 HL
      go_wp2_with fail
      refine (mat_apply _ _ _ n n n one f HR.out HV.out (by omega) (by omega) (Or.inr rfl) (by omega) 1 1 (one_size n) HSZ.out (by omega)).mono ?_
      rintro e w6 ⟨⟨v6, rfl, Y, rfl, hY⟩, hx6⟩
      replace HX := Hid.mk (HX.out.trans hx6)
      replace HV := Hid.mk (HV.out.x hx6)
      have HY : Hid (SlQ w6 Y n f) := hY.congr (fun i hi => ap_one f hi)
      obtain ⟨YA, yc, rfl, -, -, -⟩ := id hY
      clear hx6 hY HR
      go_wp2_with fail
      obtain ⟨W7, hW7, hX7, p0, p1⟩ := setup2 w6 #[.slice VA n vc] #[.slice YA n yc] 49 49
      rw [hW7]
      clear hW7
      replace HX := Hid.mk (HX.out.trans hX7)
      have hV := one_table (HV.out.x hX7) p0
      have hY := one_table (HY.out.x hX7) p1
      refine (mat_equal _ _ _ 1 n (fun _ => f) hV hY (by omega) (by omega) 1 (fun i _ j hj => HSZ.out j hj) (by omega)).mono ?_
      rintro e w8 ⟨⟨v8, rfl, rfl⟩, hx8⟩
      replace HX := Hid.mk (HX.out.trans hx8)
      clear hx8 hV hY p0 p1 hX7
      go_wp2_with fail
      go_ret
      exact ⟨⟨_, rfl, rfl⟩, HX.out⟩
end Go.Proofs.YtogakaiibijjpaaGreatDoor

/- For every input MatrixIdentity returns true and leaves its arguments as they read; no condition. -/
set_option linter.unusedVariables false
set_option linter.unusedSimpArgs false
namespace Go.Proofs.YtogakaiibijjpaaGreatDoor
open Go.ChangeShapes Go.WideShapes Go.ChangeAt Go.RowKit Go.Deep Go.Joins

theorem matrixIdentity_reads (os : Os) {H : Type} (enc : TypeId × Value → H) : ∃ places, DataW.whole enc Tryz.prog ((World.laidAll Tryz.prog os Rows.matrixIdentityRow.laid).forCall (fun _ _ => 0) ⟨#[], #[.int .i64 0, .slice none 0 0], []⟩).memory Tryz.f4.params.toList Rows.matrixIdentitySpec.vars false #[(.int .i64 0 : Value), .slice none 0 0].toList 8 = some ([.lit (.int .i64 0), .nil], [], places) :=
  ⟨[], by kernel_rfl⟩

set_option maxRecDepth 100000 in
theorem matrixIdentity_lifted (os : Os) (started : os.Started) (H : Type) (enc : TypeId × Value → H) (F : Stop.Interp) :
    ReturnsInHanded {} Tryz.checked os 4 .any ((OpenSpec.ofChange Rows.matrixIdentitySpec).preRow enc Tryz.prog Tryz.f4 Rows.matrixIdentityRow.domain false Rows.matrixIdentityRow.laid) (((OpenSpec.ofChange Rows.matrixIdentitySpec).at F).post enc Tryz.prog Tryz.f4 false true false false) := by
  obtain ⟨places, hx⟩ := matrixIdentity_reads os enc
  refine returnsInHanded_of_row (C := Tryz.checked) (s := OpenSpec.ofChange Rows.matrixIdentitySpec) own started (by kernel_rfl) Tryz.func4
    (witness_row_atRef (enc := enc) (C := Tryz.checked) false (World.laidAll Tryz.prog os Rows.matrixIdentityRow.laid) #[.int .i64 0, .slice none 0 0] (World.laidAll_os _ _ _) (by kernel_rfl) (by kernel_rfl) (by kernel_rfl)
      (OpenSpec.preRow_of_cond 8 hx (by kernel_rfl) (fun k hk => by cases hk) (by kernel_rfl) (by rw [MakeChecks.laidMetH_plain _ _ _ (by kernel_rfl)]; exact laidMet_laidAll _ (by kernel_rfl) (by kernel_rfl)))) ?_
  intro W base args ds gs before hval0 hW _ _ _ hL hsh _
  have hval : ∀ (j : Nat) t v, Tryz.f4.params[j]? = some t → args[j]? = some v → Value.okWide Tryz.prog W .any base t v := hval0
  have hW' := hW
  obtain ⟨p, q, hA0, hV, rfl, hfz, hnd⟩ := hW
  have hA : DataW.TrodAll enc Tryz.prog W 0 (fun _ => true) true Tryz.f4.params.toList args.toList ds p := hA0
  rw [Tryz.params4] at hA hval
  obtain ⟨v0, vs0, d0, ds0, p0, q0, hargs, rfl, rfl, h0, r0⟩ := trodAll_cons hA
  obtain ⟨v1, vs1, d1, ds1, p1, q1, rfl, rfl, rfl, h1, r1⟩ := trodAll_cons r0
  obtain ⟨rfl, rfl, rfl⟩ := trodAll_nil r1
  obtain rfl : args = #[v0, v1] := by cases args; simp_all
  obtain ⟨rfl, rfl⟩ := trodVars_none hV
  have hlt := fun x hx => hW'.lt x hx
  obtain ⟨z0, rfl, rfl, rfl, wz0⟩ := open_int Tryz.underlying3 (hval 0 3 v0 rfl rfl) h0
  obtain ⟨A1, n1, c1, N1, D1, rfl, hn1, hE1⟩ := open_entry_arg (hval 1 45 v1 rfl rfl) h1
  have hL1 := laidMetH.filter (fun x => x.1 == "internal/strconv.uint64pow10") hL
  rw [show (Rows.matrixIdentityRow.laid.filter fun x => x.1 == "internal/strconv.uint64pow10") = [("internal/strconv.uint64pow10", Rows.laid_internal_strconv_uint64pow10)] by kernel_rfl] at hL1
  have hg : Gl W := ⟨pow_tab hL1, max_shape hsh⟩
  refine (law_identity W z0 A1 n1 c1 N1 D1 hE1 hn1 hg).mono ?_
  rintro e W' ⟨⟨v, rfl, rfl⟩, hb⟩
  exact ⟨_, rfl, _, _, _, [], _, [], hW', trodAll_mk1 (shut_bool Tryz.underlying4 _), (trodAll_cons_mk (shut_int Tryz.underlying3 wz0) (trodAll_cons_mk (Below.trod laidOut (by kernel_rfl) (of_decide_eq_true (by kernel_rfl)) h1 hb (fun x hx => hlt x (by simp [hx]))) trodAll_mk0)), rfl, hb.frame _, fun h => by cases h⟩

theorem matrixIdentity_said : Rows.MatrixIdentitySaid :=
  OpenClaim.holds_of_cond 4 Tryz.f4 rfl rfl rfl rfl rfl rfl rfl ⟨rfl, rfl, rfl, rfl, rfl⟩ rfl rfl rfl rfl rfl (by kernel_rfl) Tryz.func4 (by kernel_rfl)
    (of_decide_eq_true (by kernel_rfl)) (by unfold Func.isWrapper; first | (rw [if_pos (by decide +kernel)]; kernel_rfl) | (rw [if_neg (by decide +kernel)]; exact ⟨rfl, rfl⟩))
    (fun os started H enc _ F => by rw [OpenClaim.pre_eq_preRow]; exact matrixIdentity_lifted os started H enc F)

theorem matrixIdentity_plain (f : FuncId) (fn : Func) (hf : Tryz.pinned.checked.prog.funcNamed "dowel/dowellaw05.MatrixIdentity" = some f) (hfn : Tryz.pinned.checked.prog.funcs[f]? = some fn) :
    true = Tryz.pinned.checked.prog.looks [] ∧ ∀ (j : Nat) t, fn.params[j]? = some t → Tryz.pinned.checked.prog.wantsStandIn t = false := by
  obtain rfl : f = 4 := Option.some.inj ((show Tryz.prog.funcNamed "dowel/dowellaw05.MatrixIdentity" = some 4 by kernel_rfl).symm.trans hf) |>.symm
  obtain rfl : fn = Tryz.f4 := (Option.some.inj (Tryz.func4.symm.trans hfn)).symm
  refine ⟨by kernel_rfl, fun j t ht => ?_⟩
  rw [Tryz.params4] at ht
  have hm : t ∈ [3, 45] := by
    have := Array.mem_of_getElem? ht
    simp at this ⊢
    omega
  have hall : ([3, 45].all fun u => !Tryz.prog.wantsStandIn u) = true := by kernel_rfl
  exact (show Tryz.prog.wantsStandIn t = false by simpa using List.all_eq_true.1 hall t hm)

theorem matrixIdentity_card : Rows.MatrixIdentityCardSaid :=
  Claim7.holds_tied_plain_at .later [] _ _ _ _ matrixIdentity_said (fun _ h => by cases h) (by kernel_rfl) (fun _ h => by cases h) matrixIdentity_row_tie rfl ⟨rfl, rfl⟩ (by kernel_rfl) rfl matrixIdentity_plain (by kernel_rfl)
#print axioms matrixIdentity_card
end Go.Proofs.YtogakaiibijjpaaGreatDoor
