/- For every input MatrixRanks returns true and leaves its arguments as they read; no condition. -/
import Derived.Test.YtogakaiibijjpaaGreatDoorW9
/- For every input MatrixRanks returns true and leaves its arguments as they read; no condition. -/
set_option linter.unusedVariables false
set_option linter.unusedSimpArgs false
namespace Go.Proofs.YtogakaiibijjpaaGreatDoor
open Go.ChangeShapes Go.WideShapes Go.ChangeAt Go.RowKit Go.Deep Go.Joins

theorem matrixRanks_reads (os : Os) {H : Type} (enc : TypeId × Value → H) : ∃ places, DataW.whole enc Tryz.prog ((World.laidAll Tryz.prog os Rows.matrixRanksRow.laid).forCall (fun _ _ => 0) ⟨#[], #[.agg #[.int .u8 0, .slice none 0 0]], []⟩).memory Tryz.f6.params.toList Rows.matrixRanksSpec.vars false #[(.agg #[.int .u8 0, .slice none 0 0] : Value)].toList 8 = some ([.agg [.lit (.int .u8 0), .nil]], [], places) :=
  ⟨[], by kernel_rfl⟩

set_option maxRecDepth 100000 in
theorem matrixRanks_lifted (os : Os) (started : os.Started) (H : Type) (enc : TypeId × Value → H) (F : Stop.Interp) :
    ReturnsInHanded {} Tryz.checked os 6 .any ((OpenSpec.ofChange Rows.matrixRanksSpec).preRow enc Tryz.prog Tryz.f6 Rows.matrixRanksRow.domain false Rows.matrixRanksRow.laid) (((OpenSpec.ofChange Rows.matrixRanksSpec).at F).post enc Tryz.prog Tryz.f6 false true false false) := by
  obtain ⟨places, hx⟩ := matrixRanks_reads os enc
  refine returnsInHanded_of_row (C := Tryz.checked) (s := OpenSpec.ofChange Rows.matrixRanksSpec) own started (by kernel_rfl) Tryz.func6
    (witness_row_atRef (enc := enc) (C := Tryz.checked) false (World.laidAll Tryz.prog os Rows.matrixRanksRow.laid) #[.agg #[.int .u8 0, .slice none 0 0]] (World.laidAll_os _ _ _) (by kernel_rfl) (by kernel_rfl) (by kernel_rfl)
      (OpenSpec.preRow_of_cond 8 hx (by kernel_rfl) (fun k hk => by cases hk) (by kernel_rfl) (by rw [MakeChecks.laidMetH_plain _ _ _ (by kernel_rfl)]; exact laidMet_laidAll _ (by kernel_rfl) (by kernel_rfl)))) ?_
  intro W base args ds gs before hval0 hW _ _ _ hL hsh _
  have hval : ∀ (j : Nat) t v, Tryz.f6.params[j]? = some t → args[j]? = some v → Value.okWide Tryz.prog W .any base t v := hval0
  have hW' := hW
  obtain ⟨p, q, hA0, hV, rfl, hfz, hnd⟩ := hW
  have hA : DataW.TrodAll enc Tryz.prog W 0 (fun _ => true) true Tryz.f6.params.toList args.toList ds p := hA0
  rw [Tryz.params6] at hA hval
  obtain ⟨v0, vs0, d0, ds0, p0, q0, hargs, rfl, rfl, h0, r0⟩ := trodAll_cons hA
  obtain ⟨rfl, rfl, rfl⟩ := trodAll_nil r0
  obtain rfl : args = #[v0] := by cases args; simp_all
  obtain ⟨rfl, rfl⟩ := trodVars_none hV
  have hlt := fun x hx => hW'.lt x hx
  obtain ⟨C0, A0, n0, c0, L0, N0, D0, rfl, hC0, hn0, hR0⟩ := open_table (hval 0 24 v0 rfl rfl) h0
  have hL1 := laidMetH.filter (fun x => x.1 == "internal/strconv.uint64pow10") hL
  rw [show (Rows.matrixRanksRow.laid.filter fun x => x.1 == "internal/strconv.uint64pow10") = [("internal/strconv.uint64pow10", Rows.laid_internal_strconv_uint64pow10)] by kernel_rfl] at hL1
  have hg : Gl W := ⟨pow_tab hL1, max_shape hsh⟩
  refine (law_ranks W C0 A0 n0 c0 L0 N0 D0 hR0 hC0 hn0 hg).mono ?_
  rintro e W' ⟨⟨v, rfl, rfl⟩, hb⟩
  exact ⟨_, rfl, _, _, _, [], _, [], hW', trodAll_mk1 (shut_bool Tryz.underlying4 _), (trodAll_cons_mk (Below.trod laidOut (by kernel_rfl) (of_decide_eq_true (by kernel_rfl)) h0 hb (fun x hx => hlt x (by simp [hx]))) trodAll_mk0), rfl, hb.frame _, fun h => by cases h⟩

theorem matrixRanks_said : Rows.MatrixRanksSaid :=
  OpenClaim.holds_of_cond 6 Tryz.f6 rfl rfl rfl rfl rfl rfl rfl ⟨rfl, rfl, rfl, rfl, rfl⟩ rfl rfl rfl rfl rfl (by kernel_rfl) Tryz.func6 (by kernel_rfl)
    (of_decide_eq_true (by kernel_rfl)) (by unfold Func.isWrapper; first | (rw [if_pos (by decide +kernel)]; kernel_rfl) | (rw [if_neg (by decide +kernel)]; exact ⟨rfl, rfl⟩))
    (fun os started H enc _ F => by rw [OpenClaim.pre_eq_preRow]; exact matrixRanks_lifted os started H enc F)

theorem matrixRanks_plain (f : FuncId) (fn : Func) (hf : Tryz.pinned.checked.prog.funcNamed "dowel/dowellaw05.MatrixRanks" = some f) (hfn : Tryz.pinned.checked.prog.funcs[f]? = some fn) :
    true = Tryz.pinned.checked.prog.looks [] ∧ ∀ (j : Nat) t, fn.params[j]? = some t → Tryz.pinned.checked.prog.wantsStandIn t = false := by
  obtain rfl : f = 6 := Option.some.inj ((show Tryz.prog.funcNamed "dowel/dowellaw05.MatrixRanks" = some 6 by kernel_rfl).symm.trans hf) |>.symm
  obtain rfl : fn = Tryz.f6 := (Option.some.inj (Tryz.func6.symm.trans hfn)).symm
  refine ⟨by kernel_rfl, fun j t ht => ?_⟩
  rw [Tryz.params6] at ht
  have hm : t ∈ [24] := by
    have := Array.mem_of_getElem? ht
    simp at this ⊢
    omega
  have hall : ([24].all fun u => !Tryz.prog.wantsStandIn u) = true := by kernel_rfl
  exact (show Tryz.prog.wantsStandIn t = false by simpa using List.all_eq_true.1 hall t hm)

theorem matrixRanks_card : Rows.MatrixRanksCardSaid :=
  Claim7.holds_tied_plain_at .later [] _ _ _ _ matrixRanks_said (fun _ h => by cases h) (by kernel_rfl) (fun _ h => by cases h) matrixRanks_row_tie rfl ⟨rfl, rfl⟩ (by kernel_rfl) rfl matrixRanks_plain (by kernel_rfl)
#print axioms matrixRanks_card
end Go.Proofs.YtogakaiibijjpaaGreatDoor
