/- Lemmas for the proof, part 5: P2, M5, Lin, M6, F1. -/
import Derived.Test.YtogakaiibijjpaaGreatDoorW4
import Derived.Laws.IdiomCopy
import Derived.WalkSmall
import Derived.FnData
/- Package integer: Text. -/
set_option linter.unusedVariables false
set_option linter.unusedSimpArgs false
namespace Go.Proofs.YtogakaiibijjpaaGreatDoor
open Go.RowKit
open DDig

/-- What the library's table holds at the call. -/
def Tab (w : World) : Prop := Lib.TabIs Tryz.prog w "internal/strconv.uint64pow10" .u64 Lib.pow10Tab
theorem info_str : (Tryz.prog.info? 9).map (fun i => (i.zero, i.size, i.bytes)) = some (some (.string ⟨#[]⟩), 1, 16) := by kernel_rfl
theorem pow10_named : ∃ g, Tryz.prog.globalNamed "internal/strconv.uint64pow10" = some g := by
  have h : (Tryz.prog.globalNamed "internal/strconv.uint64pow10").isSome = true := by kernel_rfl
  exact Option.isSome_iff_exists.1 h
theorem Tab.x {w w' : World} (h : Tab w) (hx : X w w') : Tab w' := by
  obtain ⟨g, hg⟩ := pow10_named
  unfold Tab Lib.TabIs at *
  have hc := World.var?_cell (P := Tryz.prog) (w := w) hg h 0
  refine var?_below hx hg ?_ h
  exact World.block_lt_of_cell? w ⟨g, 0, none⟩ (u := .int .u64 1) (by rw [hc]; rfl)

theorem X.grow (w : World) (k : Nat) (os : Array Obj) : X w (Sort.grow (w.drewN k) os) :=
  ⟨rfl, rfl, rfl, by first | (simp [Sort.grow]; done) | (simp [Sort.grow]; omega), fun i hi => by
    show ((w.drewN k).heap ++ os)[i]? = _
    rw [Array.getElem?_append_left (by show i < w.heap.size; omega)]; rfl⟩

theorem ba_size (l : List UInt8) : (⟨l.toArray⟩ : ByteArray).size = l.length := by
  show l.toArray.size = _
  simp
theorem X.setCells {a : World} {g : Nat} (hg : a.heap.size ≤ g) : ∀ (vs : List Value) (o : Nat) {b : World}, X a b → X a (b.setCells g o vs)
  | [], _, _, h => h
  | v :: r, o, b, h => by
    rw [World.setCells]
    exact X.setCells hg r (o + 1) (h.set (p := ⟨g, o, none⟩) hg v)

theorem itoa_at (w : World) (r : Int) (h0 : 0 ≤ r) (h1 : r < 1000000000) (ht : Tab w) :
    Calls Tryz.prog 103 #[.int .i64 r] w (Ret w fun w' v => ∃ s : ByteArray, v = .string s ∧ s.data.toList = Lib.decDigits r.toNat ∧ s.size = (d10 r.toNat).length ∧ 1 ≤ s.size ∧ s.size ≤ 9) := by
  refine (Tryz.strconv_Itoa r (by omega) (by omega) w ht).mono ?_
  rintro e w' ⟨rfl, k, os, rfl⟩
  have hs : (⟨(Lib.itoa r).toArray⟩ : ByteArray).data.toList = Lib.decDigits r.toNat := by
    show (Lib.itoa r).toArray.toList = _
    rw [Lib.itoa, if_neg (by omega)]
  have hl : (⟨(Lib.itoa r).toArray⟩ : ByteArray).size = (d10 r.toNat).length := by
    rw [← dec_length, ← hs]; exact ba_size _
  have h9 : (d10 r.toNat).length ≤ 9 := d10_length (by omega) (by
    have : pw 10 9 = 1000000000 := by decide
    omega)
  have h1' : 0 < (d10 r.toNat).length := List.length_pos_iff.2 (d10_ne _)
  exact ⟨⟨_, rfl, _, rfl, hs, hl, by omega, by omega⟩, X.grow w k os⟩

theorem zeros_at (w : World) (z : Int) (h0 : 0 ≤ z) (h1 : z ≤ 9) :
    Calls Tryz.prog 104 #[.string ⟨#[48]⟩, .int .i64 z] w (Ret w fun w' v => ∃ s : ByteArray, v = .string s ∧ s.data.toList = Lib.repeatL [48] z.toNat ∧ s.size = z.toNat) := by
  obtain ⟨n, rfl⟩ : ∃ n : Nat, z = n := ⟨z.toNat, by omega⟩
  refine (Tryz.strings_Repeat ⟨#[48]⟩ n w (by omega) (by show 1 * n ≤ _; omega)).mono ?_
  rintro e w' ⟨rfl, hx⟩
  refine ⟨⟨_, rfl, _, rfl, by simp, ?_⟩, hx⟩
  rw [ba_size, Int.toNat_natCast, rep_bytes]; simp

theorem reverse_at (w0 w : World) (v : Value) (gs : List ByteArray) (hg : gs ≠ []) (ho : w.ownsRow w0.heap.size 9 1 v gs.length (gs.map .string)) (hx : X w0 w) (hn : gs.length ≤ 9223372036854775807) :
    Calls Tryz.prog 105 #[v] w fun e w' => e = .returned (.tuple #[]) ∧ X w0 w' ∧ ∃ g cap, v = .slice (some ⟨g, 0, none⟩) gs.length cap ∧ gs.length ≤ cap ∧ g < w'.heap.size ∧ ∀ (j : Nat) x, gs.reverse[j]? = some x → w'.cell? ⟨g, 0 + j, none⟩ = some (.string x) := by
  rcases own_parts ho with ⟨rfl, h0⟩ | ⟨g, cap, sp, rfl, h1, h2, h3, hB, hl⟩
  · exact absurd (List.eq_nil_of_length_eq_zero h0) hg
  have hlen : (Lib.strsOf (fun i => gs.getD i ⟨#[]⟩) gs.length).reverse.map encStr = gs.reverse.map .string := by
    apply List.ext_getElem
    · simp [Lib.strsOf]
    · intro i h1 h2
      simp [Lib.strsOf] at h1
      simp [Lib.strsOf, encStr, List.getD_eq_getElem?_getD, h1, show gs.length - 1 - i < gs.length by omega]
  refine (Tryz.slices_Reverse_string_cells g 0 gs.length cap (fun i => gs.getD i ⟨#[]⟩) w hn ?_ (fun j _ => hB.frozen _)).mono ?_
  · intro i hi
    rw [Nat.zero_add]
    refine hB.cell (app_get ?_)
    rw [List.getElem?_map, List.getElem?_eq_getElem hi, List.getD_eq_getElem?_getD, List.getElem?_eq_getElem hi]; rfl
  · rintro e w' ⟨rfl, q, rfl⟩
    rw [hlen]
    have hc : ∀ j, j < (gs.reverse.map Value.string).length → ((w.drewN q).cell? ⟨g, 0 + j, none⟩).isSome = true := by
      intro j hj
      simp at hj
      have : (w.drewN q).cell? ⟨g, 0 + j, none⟩ = some (.string gs[j]) := by
        rw [Nat.zero_add]
        refine (hB.drewN q).cell (app_get ?_)
        rw [List.getElem?_map, List.getElem?_eq_getElem hj]; rfl
      rw [this]; rfl
    refine ⟨rfl, ?_, g, cap, rfl, h3, ?_, ?_⟩
    · exact X.setCells h1 _ _ (hx.drewN q)
    · have h0 : 0 < gs.length := List.length_pos_iff.2 hg
      have := World.cell?_setCells_in g (gs.reverse.map Value.string) 0 (w.drewN q) hc 0 (by simpa using h0)
      exact World.block_lt_of_cell? _ _ this
    · intro j x hj
      have hj' := (List.getElem?_eq_some_iff.1 hj)
      obtain ⟨hj1, hj2⟩ := hj'
      have := World.cell?_setCells_in g (gs.reverse.map Value.string) 0 (w.drewN q) hc j (by simpa using hj1)
      rw [this]
      simp [← hj2]
theorem join_at (w : World) (g cap : Nat) (xs : List ByteArray) (hc : ∀ (j : Nat) x, xs[j]? = some x → w.cell? ⟨g, 0 + j, none⟩ = some (.string x)) (hg : g < w.heap.size) (hN : xs.length ≤ 140737488355328) (hcap : xs.length ≤ cap) (hl : ((xs.map (·.data.toList)).flatten).length ≤ 140737488355328) :
    Calls Tryz.prog 106 #[.slice (some ⟨g, 0, none⟩) xs.length cap, .string ⟨#[]⟩] w (Ret w fun w' v => ∃ s : ByteArray, v = .string s ∧ s.data.toList = (xs.map (·.data.toList)).flatten ∧ s.size ≤ 140737488355328) := by
  have hj : ∀ ys : List (List UInt8), Lib.join ys [] = ys.flatten := by
    intro ys
    cases ys with
    | nil => rfl
    | cons y r =>
      rw [Lib.join_cons, Lib.joinTail]
      simp
  refine (Tryz.strings_Join g 0 cap xs ⟨#[]⟩ w hc hg hN hcap (by rw [hj]; exact hl)).mono ?_
  rintro e w' ⟨rfl, hx⟩
  refine ⟨⟨_, rfl, _, rfl, ?_, ?_⟩, hx⟩
  · show (Lib.join _ []).toArray.toList = _
    rw [hj]
  · rw [ba_size]
    show (Lib.join _ []).length ≤ _
    rw [hj]; exact hl

theorem setup1 (w : World) (c0 : Array Value) (t0 : TypeId) :
    ∃ W, w.alloc (.cells c0 t0) = W ∧ X w W ∧ Blk W w.heap.size t0 c0.toList ∧ W.heap.size = w.heap.size + 1 :=
  ⟨_, rfl, (X.refl w).alloc _, Blk.new _ _ _, by simp⟩

theorem MagR.none {w w' : World} {A : Option Addr} {n c : Nat} {z : Int} (h : MagR w A n c z) (h0 : n = 0) : MagR w' A n c z := by
  obtain ⟨xs, h1, h2, h3, h4, h5⟩ := h
  refine ⟨xs, h1, h2, ⟨by omega, fun h => by omega⟩, h4, h5⟩
theorem norm_append {xs ys : List Int} (h : Norm ys) (hy : ys ≠ []) : Norm (xs ++ ys) := by
  intro h'
  rw [List.getLast_append_of_ne_nil _ hy]
  exact h hy
theorem group_bytes {gs : List ByteArray} {t : ByteArray} {D d : List Int} (h : (gs.reverse.map (·.data.toList)).flatten = D.reverse.map dby) (ht : t.data.toList = d.reverse.map dby) :
    ((gs ++ [t]).reverse.map (·.data.toList)).flatten = (D ++ d).reverse.map dby := by
  rw [List.reverse_append, List.reverse_singleton, List.singleton_append, List.map_cons, List.flatten_cons, h, ht, List.reverse_append, List.map_append]
theorem group_step {D d : List Int} {y q r X : Int} (h : val 10 D + pw 10 D.length * y = X) (hd : val 10 d = r) (hl : d.length = 9) (hy : y = r + 1000000000 * q) :
    val 10 (D ++ d) + pw 10 (D ++ d).length * q = X := by
  have e : pw 10 9 = 1000000000 := by decide
  rw [val_append, List.length_append, hl, pw_add, e, hd, ← h, hy, Int.mul_add, Int.mul_assoc]
  omega
theorem group_last {D d : List Int} {y X : Int} (h : val 10 D + pw 10 D.length * y = X) (hd : val 10 d = y) :
    val 10 (D ++ d) = X := by rw [val_append, hd, h]

set_option maxRecDepth 100000 in
set_option maxHeartbeats 4000000 in
theorem int_text (w : World) (a : IV) (x : Int) (ha : IntR w a x) (hn : a.n ≤ 1000000000) (ht : Tab w) :
    Calls Tryz.prog 81 #[a.v] w (Ret w fun w' v => ∃ r, v = .string r ∧ Txt r x ∧ r.size ≤ 140737488355329) := by
  obtain ⟨neg, A, n, c⟩ := a
  obtain ⟨m, hm, hnz, hx⟩ := ha
  replace hm : MagR w A n c m := hm
  replace hnz : neg = true → n ≠ 0 := hnz
  replace hx : x = if neg = true then -m else m := hx
  replace hn : n ≤ 1000000000 := hn
  have HM := Hid.mk hm
  have HT := Hid.mk ht
  have HXX := Hid.mk hx
  have hz := hm.zero
  have hm0 := hm.nonneg
  have hmlt := hm.lt
  clear hm ht hx
  go_enter Tryz.func81, Tryz.ntmps81
  by_cases hn0 : n = 0
  · obtain rfl : neg = false := by cases neg <;> simp_all
    have b0 := Blk.new w #[.bool false, .slice A n c] 69
    have hX := (X.refl w).alloc (.cells #[.bool false, .slice A n c] 69)
    have c0 := b0.cell (j := 0) rfl
    have c1 := b0.cell (j := 1) rfl
    have HX := Hid.mk hX
    have HF : Hid (Txt ⟨#[48]⟩ x) := by
      have hx0 : x = 0 := by rw [HXX.out, if_neg (by simp)]; exact hz.1 hn0
      rw [hx0]
      exact ⟨false, [], ⟨Dig.nil _, Norm.nil⟩, by simp, rfl, rfl⟩
    subst hn0
    clear hX b0 hnz hz hm0 hmlt
    go_wp2
    go_ret
    exact ⟨⟨_, rfl, _, rfl, HF.out, by decide⟩, HX.out⟩
  · have hnb : ((n : Int) == 0) = false := by rw [beq_eq_false_iff_ne]; omega
    have hmp : 0 < m := by
      have : ¬ m = 0 := fun h => hn0 (hz.2 h)
      omega
    have c0 := (Blk.new w #[.bool neg, .slice A n c] 69).cell (j := 0) rfl
    have c1 := (Blk.new w #[.bool neg, .slice A n c] 69).cell (j := 1) rfl
    go_wp2_with fail
    obtain ⟨W, hW, hX, b0, hWs⟩ := setup1 w #[.bool neg, .slice A n c] 69
    rw [hW] at c0 c1 ⊢
    clear hW c1
    replace HM := Hid.mk (HM.out.x hX)
    replace HT := Hid.mk (HT.out.x hX)
    have hn10 : pw B32 n ≤ pw 10 (10 * n) := b32_ten n
    have HPW : Hid (∀ k : Nat, pw 10 k ≤ m → k ≤ 10 * n) := by
      intro k hk
      apply Nat.le_of_not_lt
      intro hlt
      have := pw_mono (b := 10) (by decide) (show 10 * n ≤ k by omega)
      omega
    have HX := Hid.mk hX
    have HXW := Hid.mk hX
    have C0 := Hid.mk c0
    clear hX b0 c0 hz hmlt hn10
    go_loopg [3, 4, 5, 6, 7] (m.natAbs) (fun q t3 t4 t5 t6 t7 wr => ∃ (gs : List ByteArray) (y : Int) (B : Option Addr) (k d : Nat) (D : List Int), wr.ownsRow W.heap.size 9 1 t3 gs.length (gs.map .string) ∧ t4 = .slice B k d ∧ MagR wr B k d y ∧ k ≤ n ∧ (gs.reverse.map (·.data.toList)).flatten = D.reverse.map dby ∧ Dig 10 D ∧ val 10 D + pw 10 D.length * y = m ∧ (0 < y → D.length = 9 * gs.length) ∧ gs.length ≤ 10 * n + 1 ∧ D.length ≤ 10 * n + 9 ∧ (y = 0 → Norm D ∧ gs ≠ []) ∧ y.natAbs ≤ q ∧ X W wr)
    case atStart => exact ⟨[], m, A, n, c, [], World.ownsRow_nil _ _ _ _, rfl, HM.out, Nat.le_refl _, rfl, Dig.nil _, by simp [val, pw], fun _ => rfl, by simp, by simp, fun h => by omega, Nat.le_refl _, X.refl W⟩
    case round =>
      obtain ⟨gs, y, B, k, d, D, ho, rfl, hy, hkn, hby, hD, hv, hlen, hgl, hDl, hnorm, hq, hx⟩ := hrel
      have HO := Hid.mk ho
      have HY := Hid.mk hy
      have HBY := Hid.mk hby
      have HD := Hid.mk hD
      have HV := Hid.mk hv
      have HL := Hid.mk hlen
      have HNM := Hid.mk hnorm
      have HQ := Hid.mk hq
      replace HX := Hid.mk hx
      have HT := Hid.mk (HT.out.x hx)
      have hyz := hy.zero
      have hy0 := hy.nonneg
      clear ho hy hby hD hv hlen hnorm hq hx
      by_cases hk : 0 < k
      · have hkb : (0 : Int) < k := by omega
        have hyp : 0 < y := by
          have : ¬ y = 0 := fun h => by have := hyz.2 h; omega
          omega
        go_wp2_with fail
        refine (int_short' _ B k d y 1000000000 HY.out (by omega) (by omega) (by omega)).mono ?_
        rintro e w1 ⟨⟨v, rfl, k', d', rfl, hq1⟩, hx1⟩
        have HFR : Hid (u3.ownBlock ≠ some wr.heap.size) := fun h => by
          have := (HO.out.lt _ h).2
          omega
        have HB1 : Hid (wr.heap.size < w1.heap.size ∨ k' = 0) := by
          by_cases h : k' = 0
          · exact Or.inr h
          · obtain ⟨xs, e1, e2, ⟨_, e3⟩, e4⟩ := hq1
            obtain ⟨b0, o0, e5, e6⟩ := e3 (by omega)
            injection e5 with e5; injection e5 with e7 e8
            subst e7
            exact Or.inl (World.block_lt_of_cell? _ _ (e6 0 (by omega)))
        obtain ⟨r, hr⟩ : ∃ r, r = y % 1000000000 := ⟨_, rfl⟩
        obtain ⟨qv, hqv⟩ : ∃ qv, qv = y / 1000000000 := ⟨_, rfl⟩
        rw [← hr]
        rw [← hqv] at hq1
        have hyr : y = r + 1000000000 * qv := by omega
        have hr0 : 0 ≤ r ∧ r < 1000000000 := by omega
        have hq0 : 0 ≤ qv ∧ qv < y := by omega
        have hkk : k' ≤ k := hq1.size (by have := HY.out.lt; omega)
        have hkz := hq1.zero
        replace HX := Hid.mk (HX.out.trans hx1)
        replace HT := Hid.mk (HT.out.x hx1)
        replace HO := Hid.mk (own_x HO.out hx1)
        have HQ1 := Hid.mk hq1
        clear hx1 hq1 hr hqv HY
        go_wp2_with fail
        refine (itoa_at _ r hr0.1 hr0.2 HT.out).mono ?_
        rintro e w2 ⟨⟨v, rfl, s, rfl, hs, hsl, hs1, hs9⟩, hx2⟩
        replace HX := Hid.mk (HX.out.trans hx2)
        replace HT := Hid.mk (HT.out.x hx2)
        replace HO := Hid.mk (own_x HO.out hx2)
        replace HQ1 := Hid.mk (HQ1.out.x hx2)
        replace HB1 := Hid.mk (HB1.out.imp (fun h => Nat.lt_of_lt_of_le h hx2.size) id)
        have HS := Hid.mk hs
        have HSL := Hid.mk hsl
        clear hx2 hs hsl
        have hDp : pw 10 D.length ≤ m := by
          have h0 := pw_pos (b := 10) (by decide) D.length
          have h1 : pw 10 D.length * 1 ≤ pw 10 D.length * y := Int.mul_le_mul_of_nonneg_left (by omega) (by omega)
          have h2 := val_nonneg (by decide : (0 : Int) < 10) HD.out
          have h3 := HV.out
          omega
        have hDl2 := HPW.out _ hDp
        have hgl2 := HL.out hyp
        cases gk with
        | zero => exact absurd HQ.out (by omega)
        | succ q0 =>
          by_cases hk' : 0 < k'
          · have hkb' : (0 : Int) < k' := by omega
            have hqp : 0 < qv := by
              have : ¬ qv = 0 := fun h => by have := hkz.2 h; omega
              omega
            go_wp2_with fail
            refine (zeros_at _ (9 - (s.size : Int)) (by omega) (by omega)).mono ?_
            rintro e w3 ⟨⟨v, rfl, z, rfl, hz, hzl⟩, hx3⟩
            replace HX := Hid.mk (HX.out.trans hx3)
            replace HO := Hid.mk (own_x HO.out hx3)
            replace HQ1 := Hid.mk (HQ1.out.x hx3)
            replace HB1 := Hid.mk (HB1.out.imp (fun h => Nat.lt_of_lt_of_le h hx3.size) id)
            have HZ := Hid.mk hz
            have hzs : z.size + s.size ≤ 9 := by omega
            have hgsl : (gs.length + 1) * 16 ≤ 140737488355328 := by omega
            have hgm : (gs.map Value.string).length = gs.length := by simp
            clear hx3 hz
            go_wp2_with (at_builtin; refine append_one W _ rfl _ _ 59 rfl 9 (.string ⟨#[]⟩) 1 16 Tryz.underlying59 info_str rfl (by omega) _ _ _ rfl HO.out _ _ _ rfl rfl (by simp [Value.oneCell']) (by omega) (by omega) HX.out ?_; intro v1 w4 ho1 hx1 hkp; have HKP := Hid.mk hkp; clear hkp; have HO1 := Hid.mk ho1; have HX1 := Hid.mk hx1; clear ho1 hx1)
            go_roundg q0
            case measure => omega
            case rel =>
              have hlr : (d10 r.toNat).length ≤ 9 := by rw [← HSL.out]; exact hs9
              refine ⟨gs ++ [z ++ s], qv, some ⟨wr.heap.size, 0, none⟩, k', d', D ++ d10z r.toNat 9, ?_, rfl, ?_, by omega, group_bytes HBY.out ?_, HD.out.append (d10z_dig _ _), group_step HV.out ?_ (d10z_length hlr) hyr, fun _ => ?_, ?_, ?_, fun h => by omega, by have := HQ.out; omega, HX1.out⟩
              · have := HO1.out
                rw [List.length_append, List.length_singleton]
                simpa using this
              · rcases HB1.out with h | h
                · exact HQ1.out.kept (HKP.out wr.heap.size h HFR.out)
                · exact HQ1.out.none h
              · rw [← d10z_bytes, ← HS.out, ← HSL.out]
                have : (9 - (s.size : Int)).toNat = 9 - s.size := by omega
                rw [← this, ← HZ.out]
                simp
              · rw [d10z_val]; omega
              · rw [List.length_append, List.length_append, d10z_length hlr, List.length_singleton]; omega
              · rw [List.length_append, List.length_singleton]; omega
              · rw [List.length_append, d10z_length hlr]; omega
          · have hkb' : ¬ (0 : Int) < k' := by omega
            have hq00 : qv = 0 := hkz.1 (by omega)
            have HKZ := Hid.mk hkz
            have hgsl : (gs.length + 1) * 16 ≤ 140737488355328 := by omega
            clear hk' hkz hkk
            go_wp2_with (at_builtin; refine append_one W _ rfl _ _ 59 rfl 9 (.string ⟨#[]⟩) 1 16 Tryz.underlying59 info_str rfl (by omega) _ _ _ rfl HO.out _ _ _ rfl rfl (by simp [Value.oneCell']) (by omega) (by omega) HX.out ?_; intro v1 w4 ho1 hx1 hkp; have HKP := Hid.mk hkp; clear hkp; have HO1 := Hid.mk ho1; have HX1 := Hid.mk hx1; clear ho1 hx1)
            go_roundg q0
            case measure => omega
            case rel =>
              have hlr : (d10 r.toNat).length ≤ 9 := by rw [← HSL.out]; exact hs9
              have hrp : 0 < r := by omega
              refine ⟨gs ++ [s], qv, some ⟨wr.heap.size, 0, none⟩, k', d', D ++ d10 r.toNat, ?_, rfl, ?_, by have := HKZ.out.2 hq00; omega, group_bytes HBY.out (by rw [HS.out, d10_bytes]), HD.out.append (d10_dig _), ?_, fun h => by omega, ?_, ?_, fun _ => ⟨norm_append (d10_norm _ (by omega)) (d10_ne _), by simp⟩, by have := HQ.out; omega, HX1.out⟩
              · have := HO1.out
                rw [List.length_append, List.length_singleton]
                simpa using this
              · rcases HB1.out with h | h
                · exact HQ1.out.kept (HKP.out wr.heap.size h HFR.out)
                · exact HQ1.out.none h
              · rw [hq00, group_last HV.out (by rw [d10_val]; omega)]; omega
              · rw [List.length_append, List.length_singleton]; omega
              · rw [List.length_append]; omega
      · obtain rfl : k = 0 := by omega
        have hy00 : y = 0 := hyz.1 rfl
        obtain ⟨hnm, hgs⟩ := HNM.out hy00
        go_wp2_with fail
        refine (reverse_at W _ _ gs hgs HO.out HX.out (by omega)).mono ?_
        rintro e w1 ⟨rfl, hx1, g, cap, rfl, hcap, hgl2, hcells⟩
        have hX1 := Hid.mk hx1
        have C1 := Hid.mk (hx1.cell C0.out)
        have hj := join_at w1 g cap gs.reverse hcells hgl2 (by rw [List.length_reverse]; omega) (by rw [List.length_reverse]; exact hcap) (by rw [HBY.out]; simp; omega)
        rw [List.length_reverse] at hj
        have HJ := Hid.mk hj
        clear hj hcells hx1
        go_wp2_with fail
        refine HJ.out.mono ?_
        rintro e w2 ⟨⟨v, rfl, s, rfl, hs, hsz⟩, hx2⟩
        have c2 := hx2.cell C1.out
        have hX2 := Hid.mk (HXW.out.trans (hX1.out.trans hx2))
        have hDv : val 10 D = m := by
          have := HV.out
          rw [hy00] at this
          simpa using this
        have hDne : D ≠ [] := by
          intro h
          rw [h] at hDv
          simp [val] at hDv
          omega
        have hsD : s.data.toList = D.reverse.map dby := by rw [hs, HBY.out]
        clear hx2 hs
        cases neg with
        | true =>
          have HF : Hid (Txt (⟨#[45]⟩ ++ s) x) := by
            refine ⟨true, D, ⟨HD.out, hnm⟩, fun h => absurd h hDne, ?_, ?_⟩
            · rw [txt, if_neg hDne, if_pos rfl, ← hsD]; simp
            · rw [HXX.out, hDv]
          clear HV hDv hsD hyz hnz hk hkn hy00 hy0 hnm hgs hDne HO HY HJ HBY HD HNM HL
          go_wp2_with fail
          go_ret
          exact ⟨⟨_, rfl, _, rfl, HF.out, by rw [ByteArray.size_append]; have : (⟨#[45]⟩ : ByteArray).size = 1 := rfl; omega⟩, hX2.out⟩
        | false =>
          have HF : Hid (Txt s x) := by
            refine ⟨false, D, ⟨HD.out, hnm⟩, fun _ => rfl, ?_, ?_⟩
            · rw [txt, if_neg hDne, if_neg (by simp), ← hsD]; simp
            · rw [HXX.out, hDv]
          clear HV hDv hsD hyz hnz hk hkn hy00 hy0 hnm hgs hDne HO HY HJ HBY HD HNM HL
          go_wp2_with fail
          go_ret
          exact ⟨⟨_, rfl, _, rfl, HF.out, by omega⟩, hX2.out⟩
end Go.Proofs.YtogakaiibijjpaaGreatDoor

/- Package matrix, fifth part: each by the closure of over; over. -/
set_option linter.unusedVariables false
set_option linter.unusedSimpArgs false
namespace Go.Proofs.YtogakaiibijjpaaGreatDoor
open Go.RowKit
open DDig

set_option maxRecDepth 100000 in
set_option maxHeartbeats 4000000 in
theorem each_over (w : World) (v : Value) (n : Nat) (f : Nat → Rat) (g : Nat) (z : Rat) (h : SlQ w v n f) (hg : CellQ w g z) (hn : n ≤ 1000000) (hz : z ≠ 0) (k l : Nat) (hs : ∀ j, j < n → RSz (f j) k) (hzs : RSz z l) (hkl : k + l ≤ 549755813888) :
    Calls Tryz.prog 111 #[v, v, .func (.func 112) #[] #[.pointer (some ⟨g, 0, none⟩)]] w (Ret w fun w' v' => SlQ w' v' n (fun j => f j / z) ∧ Fresh w.heap.size v') := by
  obtain ⟨A, c, rfl, h1, h2, h3⟩ := h
  have HA := Hid.mk h3
  have HG := Hid.mk hg
  have HS := Hid.mk hs
  clear h1 h2 h3 hg hs
  go_enter Tryz.func111, Tryz.ntmps111
  go_wp2_with (at_make; refine make_blkz _ rfl _ _ 49 rfl 71 (.agg #[.bool false, .slice none 0 0, .bool false, .slice none 0 0]) 4 64 Tryz.underlying49 info_Q rfl .i64 .i64 _ _ n rfl rfl rfl rfl (by omega) (by omega) ?_; intro w1 cs hb1 hb2 hb3 hb4 hx1; have HF := Hid.mk (Fil.start (fun j => f j / z) hb1 hb2 hb4); have HX := Hid.mk hx1; clear hb1 hb2 hb3 hb4 hx1)
  obtain ⟨go, hgo⟩ : ∃ go, go = w.heap.size := ⟨_, rfl⟩
  rw [← hgo] at HF ⊢
  have HGO : Hid (w.heap.size ≤ go) := Nat.le_of_eq hgo.symm
  clear hgo
  go_loopw [8, 14] (fun t8 t14 wr => ∃ k : Nat, k ≤ n ∧ t14 = .int .i64 k ∧ Fil wr go n k (fun j => f j / z) ∧ X w wr) (fun _ t _ => n - (intOf t).toNat)
  case atStart => exact ⟨0, Nat.zero_le _, rfl, HF.out, HX.out⟩
  case round =>
    obtain ⟨i, hi, rfl, hf, hx⟩ := hrel
    replace HF := Hid.mk hf
    replace HX := Hid.mk hx
    clear hf hx
    by_cases hin : i < n
    · have hin' : (i : Int) < (n : Int) := by omega
      obtain ⟨b, o, rfl, gg⟩ := HA.out (by omega)
      obtain ⟨a, c0, c1, c2, c3, ha⟩ := gg i hin
      have HR := Hid.mk ha
      have hsz := HS.out i hin
      obtain ⟨x, hxx⟩ : ∃ x, x = f i := ⟨_, rfl⟩
      rw [← hxx] at HR hsz
      have HXX := Hid.mk hxx
      have HC := Hid.mk (fun w' (h : X w w') => (⟨h.cell c0, h.cell c1, h.cell c2, h.cell c3⟩ : w'.cell? ⟨b, o + i * 4, none⟩ = some (.bool a.s) ∧ w'.cell? ⟨b, o + i * 4 + 1, none⟩ = some (.slice a.A a.n a.c) ∧ w'.cell? ⟨b, o + i * 4 + 2, none⟩ = some (.bool a.t) ∧ w'.cell? ⟨b, o + i * 4 + 3, none⟩ = some (.slice a.B a.m a.d)))
      have HCR := Hid.mk (fun w' (h : X wr w') => HC.out w' (HX.out.trans h))
      have hne : ¬ go = b := by
        have : b < w.heap.size := World.block_lt_of_cell? _ _ c0
        have := HGO.out
        omega
      clear gg ha hxx c0 c1 c2 c3 HC
      go_wp2_with fail
      have hz0 : X wr wr.drew := ⟨rfl, rfl, rfl, Nat.le_refl _, fun _ _ => rfl⟩
      have hS0 := HCR.out wr (X.refl _)
      go_region_held3 (fun w' => w'.cell? ⟨b, o + i * 4, none⟩ = some (.bool a.s) ∧ w'.cell? ⟨b, o + i * 4 + 1, none⟩ = some (.slice a.A a.n a.c) ∧ w'.cell? ⟨b, o + i * 4 + 2, none⟩ = some (.bool a.t) ∧ w'.cell? ⟨b, o + i * 4 + 3, none⟩ = some (.slice a.B a.m a.d))
        (go_keep)
        (first
          | (have hguard := hz0; go_at_call 112; refine (over_fn _ g a a x z (by exact HG.out.x (HX.out.trans hz0)) (by exact HR.out.x (HX.out.trans hz0)) k l hsz hzs hkl hz).mono ?_; rintro e w1 ⟨⟨v1, rfl, r1, rfl, hr1⟩, hx1⟩; have hz1 : X wr w1 := hz0.trans hx1; have hS1 := HCR.out w1 hz1; have F1 := HF.out.x hz1; obtain ⟨v0, v1, v2, v3, k0, k1, k2, k3, f0, f1, f2, f3⟩ := F1.cells hin))
      have F2 := Hid.mk (F1.put hin (r := r1) (by show RatR w1 r1 (f i / z); rw [← HXX.out]; exact hr1))
      have HX2 := Hid.mk ((HX.out.trans hz1).put4at HGO.out (i * 4) r1)
      clear F1 k0 k1 k2 k3 f0 f1 f2 f3 hz0 hz1 hx1 hS0 hS1 hr1 HCR
      go_wp2
      go_roundw
      case rel => exact ⟨i + 1, by omega, by go_num, F2.out, HX2.out⟩
      case measure => simp [intOf]; omega
    · obtain rfl : i = n := by omega
      have HRow := Hid.mk HF.out.row
      go_wp2
      go_ret
      exact ⟨⟨_, rfl, ⟨some ⟨go, 0, none⟩, i, rfl, Nat.le_refl _, by simp, HRow.out⟩, fun ad n c e => by injection e with e; injection e with e; subst e; exact HGO.out⟩, HX.out⟩
set_option maxRecDepth 100000 in
set_option maxHeartbeats 4000000 in
theorem each_less (w : World) (v u : Value) (n : Nat) (f e : Nat → Rat) (g : Nat) (z : Rat) (h : SlQ w v n f) (h' : SlQ w u n e) (hg : CellQ w g z) (hn : n ≤ 1000000) (k l j : Nat) (hs : ∀ i, i < n → RSz (f i) k) (hs' : ∀ i, i < n → RSz (e i) l) (hzs : RSz z j) (hkl : k + (j + l) + 1 ≤ 549755813888) :
    Calls Tryz.prog 111 #[v, u, .func (.func 114) #[] #[.pointer (some ⟨g, 0, none⟩)]] w (Ret w fun w' v' => SlQ w' v' n (fun j => f j - z * e j) ∧ Fresh w.heap.size v') := by
  obtain ⟨A, c, rfl, h1, h2, h3⟩ := h
  obtain ⟨B, d, rfl, h1', h2', h3'⟩ := h'
  have HA := Hid.mk h3
  have HB := Hid.mk h3'
  have HS' := Hid.mk hs'
  have HG := Hid.mk hg
  have HS := Hid.mk hs
  clear h1 h2 h3 hg hs h1' h2' h3' hs'
  go_enter Tryz.func111, Tryz.ntmps111
  go_wp2_with (at_make; refine make_blkz _ rfl _ _ 49 rfl 71 (.agg #[.bool false, .slice none 0 0, .bool false, .slice none 0 0]) 4 64 Tryz.underlying49 info_Q rfl .i64 .i64 _ _ n rfl rfl rfl rfl (by omega) (by omega) ?_; intro w1 cs hb1 hb2 hb3 hb4 hx1; have HF := Hid.mk (Fil.start (fun j => f j - z * e j) hb1 hb2 hb4); have HX := Hid.mk hx1; clear hb1 hb2 hb3 hb4 hx1)
  obtain ⟨go, hgo⟩ : ∃ go, go = w.heap.size := ⟨_, rfl⟩
  rw [← hgo] at HF ⊢
  have HGO : Hid (w.heap.size ≤ go) := Nat.le_of_eq hgo.symm
  clear hgo
  go_loopw [8, 14] (fun t8 t14 wr => ∃ k : Nat, k ≤ n ∧ t14 = .int .i64 k ∧ Fil wr go n k (fun j => f j - z * e j) ∧ X w wr) (fun _ t _ => n - (intOf t).toNat)
  case atStart => exact ⟨0, Nat.zero_le _, rfl, HF.out, HX.out⟩
  case round =>
    obtain ⟨i, hi, rfl, hf, hx⟩ := hrel
    replace HF := Hid.mk hf
    replace HX := Hid.mk hx
    clear hf hx
    by_cases hin : i < n
    · have hin' : (i : Int) < (n : Int) := by omega
      obtain ⟨b, o, rfl, gg⟩ := HA.out (by omega)
      obtain ⟨a, c0, c1, c2, c3, ha⟩ := gg i hin
      obtain ⟨b', o', rfl, gg'⟩ := HB.out (by omega)
      obtain ⟨a', c0', c1', c2', c3', ha'⟩ := gg' i hin
      have HR' := Hid.mk ha'
      have hsz' := HS'.out i hin
      obtain ⟨y, hyy⟩ : ∃ y, y = e i := ⟨_, rfl⟩
      rw [← hyy] at HR' hsz'
      have HYY := Hid.mk hyy
      have HR := Hid.mk ha
      have hsz := HS.out i hin
      obtain ⟨x, hxx⟩ : ∃ x, x = f i := ⟨_, rfl⟩
      rw [← hxx] at HR hsz
      have HXX := Hid.mk hxx
      have HC := Hid.mk (fun w' (h : X w w') => (⟨h.cell c0, h.cell c1, h.cell c2, h.cell c3, h.cell c0', h.cell c1', h.cell c2', h.cell c3'⟩ : w'.cell? ⟨b, o + i * 4, none⟩ = some (.bool a.s) ∧ w'.cell? ⟨b, o + i * 4 + 1, none⟩ = some (.slice a.A a.n a.c) ∧ w'.cell? ⟨b, o + i * 4 + 2, none⟩ = some (.bool a.t) ∧ w'.cell? ⟨b, o + i * 4 + 3, none⟩ = some (.slice a.B a.m a.d) ∧ w'.cell? ⟨b', o' + i * 4, none⟩ = some (.bool a'.s) ∧ w'.cell? ⟨b', o' + i * 4 + 1, none⟩ = some (.slice a'.A a'.n a'.c) ∧ w'.cell? ⟨b', o' + i * 4 + 2, none⟩ = some (.bool a'.t) ∧ w'.cell? ⟨b', o' + i * 4 + 3, none⟩ = some (.slice a'.B a'.m a'.d)))
      have HCR := Hid.mk (fun w' (h : X wr w') => HC.out w' (HX.out.trans h))
      have hne : ¬ go = b := by
        have : b < w.heap.size := World.block_lt_of_cell? _ _ c0
        have := HGO.out
        omega
      have hne' : ¬ go = b' := by
        have : b' < w.heap.size := World.block_lt_of_cell? _ _ c0'
        have := HGO.out
        omega
      clear gg ha hxx c0 c1 c2 c3 HC gg' ha' hyy c0' c1' c2' c3'
      go_wp2_with fail
      have hz0 : X wr wr.drew := ⟨rfl, rfl, rfl, Nat.le_refl _, fun _ _ => rfl⟩
      have hS0 := HCR.out wr (X.refl _)
      go_region_held3 (fun w' => w'.cell? ⟨b, o + i * 4, none⟩ = some (.bool a.s) ∧ w'.cell? ⟨b, o + i * 4 + 1, none⟩ = some (.slice a.A a.n a.c) ∧ w'.cell? ⟨b, o + i * 4 + 2, none⟩ = some (.bool a.t) ∧ w'.cell? ⟨b, o + i * 4 + 3, none⟩ = some (.slice a.B a.m a.d) ∧ w'.cell? ⟨b', o' + i * 4, none⟩ = some (.bool a'.s) ∧ w'.cell? ⟨b', o' + i * 4 + 1, none⟩ = some (.slice a'.A a'.n a'.c) ∧ w'.cell? ⟨b', o' + i * 4 + 2, none⟩ = some (.bool a'.t) ∧ w'.cell? ⟨b', o' + i * 4 + 3, none⟩ = some (.slice a'.B a'.m a'.d))
        (go_keep)
        (first
          | (have hguard := hz0; go_at_call 114; refine (less_fn _ g a a' x y z (by exact HG.out.x (HX.out.trans hz0)) (by exact HR.out.x (HX.out.trans hz0)) (by exact HR'.out.x (HX.out.trans hz0)) k l j hsz hsz' hzs hkl).mono ?_; rintro e w1 ⟨⟨v1, rfl, r1, rfl, hr1⟩, hx1⟩; have hz1 : X wr w1 := hz0.trans hx1; have hS1 := HCR.out w1 hz1; have F1 := HF.out.x hz1; obtain ⟨v0, v1, v2, v3, k0, k1, k2, k3, f0, f1, f2, f3⟩ := F1.cells hin))
      have F2 := Hid.mk (F1.put hin (r := r1) (by show RatR w1 r1 (f i - z * e i); rw [← HXX.out, ← HYY.out]; exact hr1))
      have HX2 := Hid.mk ((HX.out.trans hz1).put4at HGO.out (i * 4) r1)
      clear F1 k0 k1 k2 k3 f0 f1 f2 f3 hz0 hz1 hx1 hS0 hS1 hr1 HCR
      go_wp2
      go_roundw
      case rel => exact ⟨i + 1, by omega, by go_num, F2.out, HX2.out⟩
      case measure => simp [intOf]; omega
    · obtain rfl : i = n := by omega
      have HRow := Hid.mk HF.out.row
      go_wp2
      go_ret
      exact ⟨⟨_, rfl, ⟨some ⟨go, 0, none⟩, i, rfl, Nat.le_refl _, by simp, HRow.out⟩, fun ad n c e => by injection e with e; injection e with e; subst e; exact HGO.out⟩, HX.out⟩

set_option maxRecDepth 100000 in
theorem mat_over (w : World) (v : Value) (n : Nat) (f : Nat → Rat) (a : QV) (z : Rat) (h : SlQ w v n f) (ha : RatR w a z) (hn : n ≤ 1000000) (hz : z ≠ 0) (k l : Nat) (hs : ∀ j, j < n → RSz (f j) k) (hzs : RSz z l) (hkl : k + l ≤ 549755813888) :
    Calls Tryz.prog 89 #[v, a.v] w (Ret w fun w' v' => SlQ w' v' n (fun j => f j / z) ∧ Fresh w.heap.size v') := by
  have H := Hid.mk h
  have HA := Hid.mk ha
  have HS := Hid.mk hs
  have HE := Hid.mk (fun w' (hw : X w w') (hg : CellQ w' w.heap.size z) => each_over w' v n f w.heap.size z (h.x hw) hg hn hz k l hs hzs hkl)
  clear h ha hs
  go_enter Tryz.func89, Tryz.ntmps89
  go_wp2_with fail
  obtain ⟨W, hW, hX, b0, hWs⟩ := setup1 w #[.bool a.s, .slice a.A a.n a.c, .bool a.t, .slice a.B a.m a.d] 71
  rw [hW]
  clear hW
  have hg : CellQ W w.heap.size z := Blk.cellQ (a := a) b0 (HA.out.x hX)
  refine (HE.out W hX hg).mono ?_
  rintro e w1 ⟨⟨v', rfl, hr, hf⟩, hx1⟩
  have HR := Hid.mk hr
  have HF : Hid (Fresh w.heap.size v') := fun ad n c e => Nat.le_trans (by omega) (hf ad n c e)
  have HX := Hid.mk (hX.trans hx1)
  clear hr hf hx1 hX b0 hg
  go_wp2
  go_ret
  exact ⟨⟨_, rfl, HR.out, HF.out⟩, HX.out⟩

set_option maxRecDepth 100000 in
theorem mat_less (w : World) (v u : Value) (n : Nat) (f e : Nat → Rat) (a : QV) (z : Rat) (h : SlQ w v n f) (h' : SlQ w u n e) (ha : RatR w a z) (hn : n ≤ 1000000) (k l j : Nat) (hs : ∀ i, i < n → RSz (f i) k) (hs' : ∀ i, i < n → RSz (e i) l) (hzs : RSz z j) (hkl : k + (j + l) + 1 ≤ 549755813888) :
    Calls Tryz.prog 90 #[v, u, a.v] w (Ret w fun w' v' => SlQ w' v' n (fun i => f i - z * e i) ∧ Fresh w.heap.size v') := by
  have HA := Hid.mk ha
  have HE := Hid.mk (fun w' (hw : X w w') (hg : CellQ w' w.heap.size z) => each_less w' v u n f e w.heap.size z (h.x hw) (h'.x hw) hg hn k l j hs hs' hzs hkl)
  clear h h' ha hs hs'
  go_enter Tryz.func90, Tryz.ntmps90
  go_wp2_with fail
  obtain ⟨W, hW, hX, b0, hWs⟩ := setup1 w #[.bool a.s, .slice a.A a.n a.c, .bool a.t, .slice a.B a.m a.d] 71
  rw [hW]
  clear hW
  have hg : CellQ W w.heap.size z := Blk.cellQ (a := a) b0 (HA.out.x hX)
  refine (HE.out W hX hg).mono ?_
  rintro e w1 ⟨⟨v', rfl, hr, hf⟩, hx1⟩
  have HR := Hid.mk hr
  have HF : Hid (Fresh w.heap.size v') := fun ad n c e => Nat.le_trans (by omega) (hf ad n c e)
  have HX := Hid.mk (hX.trans hx1)
  clear hr hf hx1 hX b0 hg
  go_wp2
  go_ret
  exact ⟨⟨_, rfl, HR.out, HF.out⟩, HX.out⟩
end Go.Proofs.YtogakaiibijjpaaGreatDoor

/- Elimination, kernels, ranks, determinants, inverses of matrices of rational numbers: plain facts on functions of two indices. -/
set_option linter.unusedVariables false
namespace Go.Proofs.YtogakaiibijjpaaGreatDoor.DLin

/-- The sum of the first numbers of a sequence. -/
def sm : Nat → (Nat → Rat) → Rat
  | 0, _ => 0
  | n + 1, f => sm n f + f n

theorem sm_zero (f : Nat → Rat) : sm 0 f = 0 := rfl
theorem sm_succ (n : Nat) (f : Nat → Rat) : sm (n + 1) f = sm n f + f n := rfl

theorem sm_congr {n : Nat} {f g : Nat → Rat} (h : ∀ i, i < n → f i = g i) : sm n f = sm n g := by
  induction n with
  | zero => rfl
  | succ n ih => rw [sm_succ, sm_succ, ih (fun i hi => h i (by omega)), h n (by omega)]

theorem sm_add (n : Nat) (f g : Nat → Rat) : sm n (fun i => f i + g i) = sm n f + sm n g := by
  induction n with
  | zero => simp only [sm_zero]; grind
  | succ n ih => simp only [sm_succ, ih]; grind

theorem sm_sub (n : Nat) (f g : Nat → Rat) : sm n (fun i => f i - g i) = sm n f - sm n g := by
  induction n with
  | zero => simp only [sm_zero]; grind
  | succ n ih => simp only [sm_succ, ih]; grind

theorem sm_mul (n : Nat) (c : Rat) (f : Nat → Rat) : sm n (fun i => c * f i) = c * sm n f := by
  induction n with
  | zero => simp [sm]
  | succ n ih => simp only [sm_succ, ih]; grind

theorem sm_mul' (n : Nat) (c : Rat) (f : Nat → Rat) : sm n (fun i => f i * c) = sm n f * c := by
  induction n with
  | zero => simp [sm]
  | succ n ih => simp only [sm_succ, ih]; grind

theorem sm_neg (n : Nat) (f : Nat → Rat) : sm n (fun i => - f i) = - sm n f := by
  induction n with
  | zero => simp [sm]
  | succ n ih => simp only [sm_succ, ih]; grind

theorem sm_nul (n : Nat) : sm n (fun _ => 0) = 0 := by
  induction n with
  | zero => rfl
  | succ n ih => rw [sm_succ, ih]; grind

theorem sm_null {n : Nat} {f : Nat → Rat} (h : ∀ i, i < n → f i = 0) : sm n f = 0 := by
  rw [sm_congr h, sm_nul]

theorem sm_comm (n m : Nat) (f : Nat → Nat → Rat) : sm n (fun i => sm m (fun j => f i j)) = sm m (fun j => sm n (fun i => f i j)) := by
  induction n with
  | zero => simp [sm, sm_nul]
  | succ n ih => simp only [sm_succ, ih, sm_add]

/-- Only one of the numbers is not 0. -/
theorem sm_one {n k : Nat} {f : Nat → Rat} (hk : k < n) (h : ∀ i, i < n → i ≠ k → f i = 0) : sm n f = f k := by
  induction n with
  | zero => omega
  | succ n ih =>
    rw [sm_succ]
    by_cases e : k = n
    · subst e
      rw [sm_null (fun i hi => h i (by omega) (by omega))]; grind
    · rw [ih (by omega) (fun i hi => h i (by omega)), h n (by omega) (by omega)]; grind

/-- A single number taken out of the sum. -/
theorem sm_out {n k : Nat} {f : Nat → Rat} (hk : k < n) : sm n f = f k + sm n (fun i => if i = k then 0 else f i) := by
  have e : sm n f = sm n (fun i => (if i = k then f k else 0) + (if i = k then 0 else f i)) := by
    apply sm_congr; intro i _; by_cases h : i = k
    · subst h; simp; grind
    · simp [h]; grind
  rw [e, sm_add, sm_one hk (fun i _ hne => by simp [hne])]
  simp

theorem sm_split (n m : Nat) (f : Nat → Rat) : sm (n + m) f = sm n f + sm m (fun i => f (n + i)) := by
  induction m with
  | zero => simp only [sm_zero, Nat.add_zero]; grind
  | succ m ih => rw [← Nat.add_assoc, sm_succ, ih, sm_succ]; grind

abbrev Mat := Nat → Nat → Rat

/-- The product with a column. -/
def ap (c : Nat) (M : Mat) (x : Nat → Rat) (i : Nat) : Rat := sm c fun j => M i j * x j

def swapped (M : Mat) (a b : Nat) : Mat := fun i => if i = a then M b else if i = b then M a else M i
def scaled (M : Mat) (r : Nat) (p : Rat) : Mat := fun i j => if i = r then M r j / p else M i j
def cleared (M : Mat) (r k : Nat) : Mat := fun i j => if i = r then M r j else M i j - M i k * M r j

/-- The first row from i on, among the next d ones, whose number in column k is not 0. -/
def findRow (M : Mat) (k : Nat) : Nat → Nat → Option Nat
  | 0, _ => none
  | d + 1, i => if M i k = 0 then findRow M k d (i + 1) else some i

theorem findRow_none {M : Mat} {k : Nat} : ∀ {d i : Nat}, findRow M k d i = none → ∀ t, i ≤ t → t < i + d → M t k = 0
  | 0, _, _, t, h1, h2 => by omega
  | d + 1, i, h, t, h1, h2 => by
    unfold findRow at h
    split at h
    · by_cases e : t = i
      · subst e; assumption
      · exact findRow_none h t (by omega) (by omega)
    · cases h

theorem findRow_some {M : Mat} {k t : Nat} : ∀ {d i : Nat}, findRow M k d i = some t → i ≤ t ∧ t < i + d ∧ M t k ≠ 0 ∧ ∀ s, i ≤ s → s < t → M s k = 0
  | 0, _, h => by simp [findRow] at h
  | d + 1, i, h => by
    unfold findRow at h
    split at h
    · rename_i h0
      obtain ⟨a, b, c, e⟩ := findRow_some h
      refine ⟨by omega, by omega, c, fun s h1 h2 => ?_⟩
      by_cases e' : s = i
      · subst e'; assumption
      · exact e s (by omega) h2
    · rename_i h0
      cases h
      exact ⟨by omega, by omega, h0, fun s h1 h2 => by omega⟩

/-- What elimination keeps: the rows, the pivots, and the determinant of the steps. -/
structure St where
  M : Mat
  piv : List Nat
  det : Rat

/-- One column of the elimination, m rows. -/
def step (m : Nat) (s : St) (k : Nat) : St :=
  match findRow s.M k (m - s.piv.length) s.piv.length with
  | none => s
  | some i =>
    let r := s.piv.length
    let A := swapped s.M r i
    ⟨cleared (scaled A r (A r k)) r k, s.piv ++ [k], (if i = r then s.det else - s.det) * A r k⟩

/-- The first n columns. -/
def steps (m : Nat) (M : Mat) : Nat → St
  | 0 => ⟨M, [], 1⟩
  | n + 1 => step m (steps m M n) n

/-- A row operation that loses nothing: what is orthogonal to all rows of one is so to all rows of the other, and each row of one is a combination of rows of the other. -/
structure Alike (m : Nat) (M N : Mat) : Prop where
  comb : ∃ Q : Mat, ∀ i, i < m → ∀ j, N i j = sm m fun t => Q i t * M t j
  back : ∃ Q : Mat, ∀ i, i < m → ∀ j, M i j = sm m fun t => Q i t * N t j

theorem comb_trans {m : Nat} {A B C : Mat} (h : ∃ Q : Mat, ∀ i, i < m → ∀ j, B i j = sm m fun t => Q i t * A t j) (g : ∃ Q : Mat, ∀ i, i < m → ∀ j, C i j = sm m fun t => Q i t * B t j) : ∃ Q : Mat, ∀ i, i < m → ∀ j, C i j = sm m fun t => Q i t * A t j := by
  obtain ⟨P, hP⟩ := h
  obtain ⟨Q, hQ⟩ := g
  refine ⟨fun i t => sm m fun s => Q i s * P s t, fun i hi j => ?_⟩
  rw [hQ i hi j, sm_congr (g := fun t => sm m fun s => Q i t * P t s * A s j) (fun t ht => by rw [hP t ht j, ← sm_mul]; exact sm_congr fun s _ => by grind), sm_comm]
  exact sm_congr fun t _ => by rw [← sm_mul']

theorem Alike.refl (m : Nat) (M : Mat) : Alike m M M :=
  have h : ∃ Q : Mat, ∀ i, i < m → ∀ j, M i j = sm m fun t => Q i t * M t j :=
    ⟨fun i t => if t = i then 1 else 0, fun i hi j => by rw [sm_one hi (fun t _ ht => by simp [ht])]; simp⟩
  ⟨h, h⟩

theorem Alike.trans {m : Nat} {A B C : Mat} (h : Alike m A B) (g : Alike m B C) : Alike m A C := ⟨comb_trans h.comb g.comb, comb_trans g.back h.back⟩

theorem Alike.symm {m : Nat} {A B : Mat} (h : Alike m A B) : Alike m B A := ⟨h.back, h.comb⟩

theorem swapped_comb {m : Nat} (M : Mat) {a b : Nat} (ha : a < m) (hb : b < m) : ∃ Q : Mat, ∀ i, i < m → ∀ j, swapped M a b i j = sm m fun t => Q i t * M t j := by
  refine ⟨fun i t => if i = a then (if t = b then 1 else 0) else if i = b then (if t = a then 1 else 0) else if t = i then 1 else 0, fun i hi j => ?_⟩
  unfold swapped
  by_cases h1 : i = a
  · simp only [h1, if_true]
    rw [sm_one hb (fun t _ ht => by simp [ht])]; simp
  · by_cases h2 : i = b
    · simp only [h2, if_true]
      rw [sm_one ha (fun t _ ht => by subst h2; simp [ht, h1])]; subst h2; simp [h1]
    · simp only [h1, h2, if_false]
      rw [sm_one hi (fun t _ ht => by simp [ht])]; simp

theorem swapped_swapped (M : Mat) (a b : Nat) : swapped (swapped M a b) a b = M := by
  funext i j; unfold swapped; by_cases h1 : i = a <;> by_cases h2 : i = b <;> by_cases h3 : a = b <;> simp_all

theorem alike_swapped {m : Nat} (M : Mat) {a b : Nat} (ha : a < m) (hb : b < m) : Alike m M (swapped M a b) :=
  ⟨swapped_comb M ha hb, by have := swapped_comb (m := m) (swapped M a b) ha hb; rwa [swapped_swapped] at this⟩

theorem alike_scaled {m : Nat} (M : Mat) {r : Nat} {p : Rat} (hp : p ≠ 0) : Alike m M (scaled M r p) := by
  constructor
  · refine ⟨fun i t => if t = i then (if i = r then p⁻¹ else 1) else 0, fun i hi j => ?_⟩
    rw [sm_one hi (fun t _ ht => by simp [ht])]
    unfold scaled; by_cases h : i = r <;> simp [h] <;> grind
  · refine ⟨fun i t => if t = i then (if i = r then p else 1) else 0, fun i hi j => ?_⟩
    rw [sm_one hi (fun t _ ht => by simp [ht])]
    unfold scaled; by_cases h : i = r <;> simp [h] <;> grind

theorem alike_cleared {m : Nat} (M : Mat) {r k : Nat} (hr : r < m) : Alike m M (cleared M r k) := by
  constructor
  · refine ⟨fun i t => if i = r then (if t = r then 1 else 0) else (if t = i then 1 else 0) + (if t = r then - M i k else 0), fun i hi j => ?_⟩
    unfold cleared
    by_cases h : i = r
    · simp only [h, if_true]
      rw [sm_one hr (fun t _ ht => by simp [ht])]; simp
    · simp only [h, if_false]
      have e : ∀ t, ((if t = i then (1:Rat) else 0) + (if t = r then - M i k else 0)) * M t j = (if t = i then M i j else 0) + (if t = r then - M i k * M r j else 0) := by
        intro t; by_cases h1 : t = i <;> by_cases h2 : t = r <;> simp_all <;> grind
      rw [sm_congr (fun t _ => e t), sm_add, sm_one hi (fun t _ ht => by simp [ht]), sm_one hr (fun t _ ht => by simp [ht])]
      simp; grind
  · refine ⟨fun i t => if i = r then (if t = r then 1 else 0) else (if t = i then 1 else 0) + (if t = r then M i k else 0), fun i hi j => ?_⟩
    unfold cleared
    by_cases h : i = r
    · simp only [h, if_true]
      rw [sm_one hr (fun t _ ht => by simp [ht])]; simp
    · simp only [h, if_false]
      have e : ∀ t, ((if t = i then (1:Rat) else 0) + (if t = r then M i k else 0)) * (if t = r then M r j else M t j - M t k * M r j) = (if t = i then M i j - M i k * M r j else 0) + (if t = r then M i k * M r j else 0) := by
        intro t; by_cases h1 : t = i <;> by_cases h2 : t = r <;> simp_all <;> grind
      rw [sm_congr (fun t _ => e t), sm_add, sm_one hi (fun t _ ht => by simp [ht]), sm_one hr (fun t _ ht => by simp [ht])]
      simp; grind

/-- What holds after k columns. -/
structure Inv (m : Nat) (M0 : Mat) (s : St) (k : Nat) : Prop where
  len : s.piv.length ≤ m
  lt : ∀ t, t < s.piv.length → s.piv.getD t 0 < k
  inc : ∀ t u, t < u → u < s.piv.length → s.piv.getD t 0 < s.piv.getD u 0
  unit : ∀ t, t < s.piv.length → ∀ i, i < m → s.M i (s.piv.getD t 0) = if i = t then 1 else 0
  left : ∀ t, t < s.piv.length → ∀ j, j < s.piv.getD t 0 → s.M t j = 0
  below : ∀ i, s.piv.length ≤ i → i < m → ∀ j, j < k → s.M i j = 0
  alike : Alike m M0 s.M

theorem inv_start (m : Nat) (M : Mat) : Inv m M ⟨M, [], 1⟩ 0 :=
  ⟨by simp, by simp, by simp, by simp, by simp, by simp, Alike.refl m M⟩

theorem getD_snoc_lt {l : List Nat} {x t : Nat} (h : t < l.length) : (l ++ [x]).getD t 0 = l.getD t 0 := by
  simp [List.getD_eq_getElem?_getD, List.getElem?_append_left h]
theorem getD_snoc_eq {l : List Nat} {x : Nat} : (l ++ [x]).getD l.length 0 = x := by
  simp [List.getD_eq_getElem?_getD]

theorem step_some {m k i : Nat} {s : St} (h : findRow s.M k (m - s.piv.length) s.piv.length = some i) :
    step m s k = ⟨cleared (scaled (swapped s.M s.piv.length i) s.piv.length (swapped s.M s.piv.length i s.piv.length k)) s.piv.length k, s.piv ++ [k], (if i = s.piv.length then s.det else - s.det) * swapped s.M s.piv.length i s.piv.length k⟩ := by
  unfold step; rw [h]

theorem step_none {m k : Nat} {s : St} (h : findRow s.M k (m - s.piv.length) s.piv.length = none) : step m s k = s := by
  unfold step; rw [h]

theorem inv_step {m : Nat} {M0 : Mat} {s : St} {k : Nat} (h : Inv m M0 s k) : Inv m M0 (step m s k) (k + 1) := by
  cases hf : findRow s.M k (m - s.piv.length) s.piv.length with
  | none =>
    rw [step_none hf]
    have h0 := findRow_none hf
    refine ⟨h.len, fun t ht => Nat.lt_succ_of_lt (h.lt t ht), h.inc, h.unit, h.left, fun i h1 h2 j hj => ?_, h.alike⟩
    by_cases e : j = k
    · subst e; exact h0 i h1 (by omega)
    · exact h.below i h1 h2 j (by omega)
  | some i =>
    rw [step_some hf]
    obtain ⟨h1, h2, h3, h4⟩ := findRow_some hf
    obtain ⟨r, hr⟩ : ∃ r, r = s.piv.length := ⟨_, rfl⟩
    rw [← hr] at h1 h2 ⊢
    have hA : swapped s.M r i r = s.M i := by simp [swapped]
    have hlen := h.len
    rw [hA]
    have hp : s.M i k ≠ 0 := h3
    -- the rows of the new matrix
    have hNr : ∀ j, cleared (scaled (swapped s.M r i) r (s.M i k)) r k r j = s.M i j / s.M i k := by
      intro j; simp [cleared, scaled, hA]
    have hN : ∀ x, x ≠ r → ∀ j, cleared (scaled (swapped s.M r i) r (s.M i k)) r k x j = swapped s.M r i x j - swapped s.M r i x k * (s.M i j / s.M i k) := by
      intro x hx j; simp [cleared, scaled, hx, hA]
    have hS : ∀ x, x < r → swapped s.M r i x = s.M x := by
      intro x hx; unfold swapped; rw [if_neg (by omega), if_neg (by omega)]
    have hS2 : ∀ x, r < x → x < m → ∀ j, j < k → swapped s.M r i x j = 0 := by
      intro x hx hm j hj
      unfold swapped; rw [if_neg (by omega)]
      split
      · exact h.below r (by omega) (by omega) j hj
      · exact h.below x (by omega) hm j hj
    have hi0 : ∀ j, j < k → s.M i j = 0 := fun j hj => h.below i (by omega) (by omega) j hj
    have hlow : ∀ x, x ≠ r → ∀ j, j < k → cleared (scaled (swapped s.M r i) r (s.M i k)) r k x j = swapped s.M r i x j := by
      intro x hx j hj; rw [hN x hx, hi0 j hj]; grind
    have hk1 : ∀ x, x ≠ r → cleared (scaled (swapped s.M r i) r (s.M i k)) r k x k = 0 := by
      intro x hx; rw [hN x hx]; grind
    have hk2 : cleared (scaled (swapped s.M r i) r (s.M i k)) r k r k = 1 := by rw [hNr]; grind
    refine ⟨?_, ?_, ?_, ?_, ?_, ?_, ?_⟩
    · simp; omega
    · intro t ht
      simp at ht
      by_cases e : t = r
      · subst e; rw [hr, getD_snoc_eq]; omega
      · rw [getD_snoc_lt (by omega)]; have := h.lt t (by omega); omega
    · intro t u htu hu
      simp at hu
      rw [getD_snoc_lt (by omega)]
      by_cases e : u = r
      · subst e; rw [hr, getD_snoc_eq]; exact h.lt t (by omega)
      · rw [getD_snoc_lt (by omega)]; exact h.inc t u htu (by omega)
    · intro t ht x hx
      simp at ht
      by_cases e : t = r
      · have e2 : (s.piv ++ [k]).getD t 0 = k := by rw [e, hr, getD_snoc_eq]
        simp only [e2]
        by_cases hxr : x = r
        · rw [hxr, hk2, e]; simp
        · rw [hk1 x hxr, if_neg (by omega)]
      · have htr : t < s.piv.length := by omega
        simp only [getD_snoc_lt htr]
        have hlt := h.lt t htr
        by_cases hxr : x = r
        · rw [hxr, hNr, hi0 _ hlt, if_neg (by omega)]; grind
        · rw [hlow x hxr _ hlt]
          by_cases hxl : x < r
          · rw [hS x hxl]; exact h.unit t htr x hx
          · rw [hS2 x (by omega) hx _ hlt, if_neg (by omega)]
    · intro t ht j hj
      simp at ht
      by_cases e : t = r
      · have e2 : (s.piv ++ [k]).getD t 0 = k := by rw [e, hr, getD_snoc_eq]
        rw [e2] at hj
        rw [e]; show cleared _ r k r j = 0
        rw [hNr, hi0 j hj]; grind
      · have htr : t < s.piv.length := by omega
        rw [getD_snoc_lt htr] at hj
        have hlt := h.lt t htr
        show cleared _ r k t j = 0
        rw [hlow t e j (by omega), hS t (by omega)]
        exact h.left t htr j hj
    · intro x hx hxm j hj
      simp at hx
      show cleared _ r k x j = 0
      by_cases e : j = k
      · rw [e, hk1 x (by omega)]
      · rw [hlow x (by omega) j (by omega), hS2 x (by omega) hxm j (by omega)]
    · refine h.alike.trans (((alike_swapped s.M (a := r) (b := i) (by omega) (by omega))).trans ((alike_scaled _ hp).trans (alike_cleared _ (by omega))))

theorem inv_steps (m : Nat) (M : Mat) : ∀ n, Inv m M (steps m M n) n
  | 0 => inv_start m M
  | n + 1 => inv_step (inv_steps m M n)

/-- The columns without a pivot. -/
def free (piv : List Nat) (f : Nat) : Prop := ∀ t, t < piv.length → piv.getD t 0 ≠ f

/-- The vector of the kernel that belongs to a column without a pivot. -/
def kerv (s : St) (f : Nat) (j : Nat) : Rat := if j = f then 1 else if j ∈ s.piv then - s.M (s.piv.idxOf j) f else 0

theorem idxOf_getD {l : List Nat} {t : Nat} (ht : t < l.length) (inc : ∀ t u, t < u → u < l.length → l.getD t 0 < l.getD u 0) : l.idxOf (l.getD t 0) = t := by
  have hm : l.getD t 0 ∈ l := by simp [List.getD_eq_getElem?_getD, ht]
  have hi : l.idxOf (l.getD t 0) < l.length := List.idxOf_lt_length_of_mem hm
  have he : l.getD (l.idxOf (l.getD t 0)) 0 = l.getD t 0 := by
    rw [List.getD_eq_getElem?_getD (i := l.idxOf (l.getD t 0)), List.getElem?_eq_getElem hi, Option.getD_some]
    exact List.getElem_idxOf hi
  have ⟨a, b⟩ : ¬ l.idxOf (l.getD t 0) < t ∧ ¬ t < l.idxOf (l.getD t 0) := by
    constructor
    · intro h; have := inc _ _ h ht; omega
    · intro h; have := inc _ _ h hi; omega
  omega

theorem mem_iff_getD {l : List Nat} {x : Nat} : x ∈ l ↔ ∃ t, t < l.length ∧ l.getD t 0 = x := by
  constructor
  · intro h
    obtain ⟨t, ht, e⟩ := List.mem_iff_getElem.1 h
    exact ⟨t, ht, by simp [List.getD_eq_getElem?_getD, ht, e]⟩
  · rintro ⟨t, ht, rfl⟩
    simp [List.getD_eq_getElem?_getD, ht]

/-- A sum over n columns of the products with a row of a reduced matrix, parted into pivots and others. -/
theorem sm_pivots {n : Nat} {l : List Nat} (lt : ∀ t, t < l.length → l.getD t 0 < n) (inc : ∀ t u, t < u → u < l.length → l.getD t 0 < l.getD u 0) (f : Nat → Rat) :
    sm n f = sm l.length (fun t => f (l.getD t 0)) + sm n (fun j => if j ∈ l then 0 else f j) := by
  have gen : ∀ d, d ≤ l.length → sm n f = sm d (fun t => f (l.getD t 0)) + sm n (fun j => if (∃ t, t < d ∧ l.getD t 0 = j) then 0 else f j) := by
    intro d
    induction d with
    | zero => intro _; rw [sm_zero]; simp; grind
    | succ d ih =>
      intro hd
      rw [ih (by omega), sm_succ, sm_out (lt d (by omega)) (f := fun j => if (∃ t, t < d ∧ l.getD t 0 = j) then 0 else f j)]
      rw [if_neg (by rintro ⟨t, h1, h2⟩; have := inc t d h1 (by omega); omega)]
      have e : sm n (fun j => if j = l.getD d 0 then 0 else if (∃ t, t < d ∧ l.getD t 0 = j) then 0 else f j) = sm n (fun j => if (∃ t, t < d + 1 ∧ l.getD t 0 = j) then 0 else f j) := by
        apply sm_congr; intro j _
        by_cases h1 : j = l.getD d 0
        · rw [if_pos h1, if_pos ⟨d, by omega, h1.symm⟩]
        · by_cases h2 : ∃ t, t < d ∧ l.getD t 0 = j
          · obtain ⟨t, h3, h4⟩ := h2
            rw [if_neg h1, if_pos ⟨t, h3, h4⟩, if_pos ⟨t, by omega, h4⟩]
          · rw [if_neg h1, if_neg h2, if_neg]
            rintro ⟨t, h3, h4⟩
            by_cases e : t = d
            · subst e; exact h1 h4.symm
            · exact h2 ⟨t, by omega, h4⟩
      rw [e]; grind
  rw [gen l.length (Nat.le_refl _)]
  congr 1
  apply sm_congr; intro j _
  by_cases h : j ∈ l
  · rw [if_pos h, if_pos (mem_iff_getD.1 h)]
  · rw [if_neg h, if_neg (fun g => h (mem_iff_getD.2 g))]

/-- The rows of the reduced matrix are orthogonal to each vector of the basis. -/
theorem kerv_reduced {m n : Nat} {M0 : Mat} {s : St} (h : Inv m M0 s n) {f : Nat} (hf : f < n) (hff : f ∉ s.piv) : ∀ i, i < m → ap n s.M (kerv s f) i = 0 := by
  intro i hi
  unfold ap
  rw [sm_pivots h.lt h.inc]
  have e1 : sm n (fun j => if j ∈ s.piv then 0 else s.M i j * kerv s f j) = s.M i f := by
    rw [sm_one hf]
    · rw [if_neg hff]; simp [kerv]
    · intro j hj hne
      by_cases hm : j ∈ s.piv
      · rw [if_pos hm]
      · rw [if_neg hm]; simp [kerv, hne, hm]
  have e2 : sm s.piv.length (fun t => s.M i (s.piv.getD t 0) * kerv s f (s.piv.getD t 0)) = - s.M i f := by
    have : ∀ t, t < s.piv.length → s.M i (s.piv.getD t 0) * kerv s f (s.piv.getD t 0) = if i = t then - s.M i f else 0 := by
      intro t ht
      have hmem : s.piv.getD t 0 ∈ s.piv := mem_iff_getD.2 ⟨t, ht, rfl⟩
      have hne : s.piv.getD t 0 ≠ f := fun e => hff (e ▸ hmem)
      rw [h.unit t ht i hi]
      unfold kerv
      rw [if_neg hne, if_pos hmem, idxOf_getD ht h.inc]
      by_cases e : i = t
      · subst e; simp
      · simp [e]
    rw [sm_congr this]
    by_cases hil : i < s.piv.length
    · rw [sm_one hil (fun t _ ht => by rw [if_neg (Ne.symm ht)])]; simp
    · rw [sm_null (fun t ht => by rw [if_neg (by omega)])]
      have := h.below i (by omega) hi f hf
      rw [this]; rfl
  rw [e1, e2]; grind

theorem ap_comb {m c : Nat} {A B : Mat} (h : ∃ Q : Mat, ∀ i, i < m → ∀ j, B i j = sm m fun t => Q i t * A t j) {x : Nat → Rat} (hx : ∀ i, i < m → ap c A x i = 0) : ∀ i, i < m → ap c B x i = 0 := by
  obtain ⟨Q, hQ⟩ := h
  intro i hi
  unfold ap
  rw [sm_congr (g := fun j => sm m fun t => Q i t * (A t j * x j)) (fun j _ => by rw [hQ i hi j, ← sm_mul']; exact sm_congr fun t _ => by grind), sm_comm]
  apply sm_null
  intro t ht
  rw [sm_mul]
  have := hx t ht
  unfold ap at this
  rw [this]; grind

theorem Alike.kernel {m c : Nat} {A B : Mat} (h : Alike m A B) (x : Nat → Rat) : (∀ i, i < m → ap c A x i = 0) ↔ (∀ i, i < m → ap c B x i = 0) :=
  ⟨fun g => ap_comb h.comb g, fun g => ap_comb h.back g⟩

/-- Each vector of the basis is a solution. -/
theorem kerv_kernel {m n : Nat} {M : Mat} {f : Nat} (hf : f < n) (hff : f ∉ (steps m M n).piv) : ∀ i, i < m → ap n M (kerv (steps m M n) f) i = 0 :=
  ((inv_steps m M n).alike.kernel _).2 (kerv_reduced (inv_steps m M n) hf hff)

/-- A list of increasing numbers below n that is shorter than n leaves one out. -/
theorem left_out : ∀ {n : Nat} {l : List Nat}, l.length < n → ∃ f, f < n ∧ f ∉ l
  | 0, _, h => by omega
  | n + 1, l, h => by
    by_cases hn : n ∈ l
    · have : (l.filter (fun x => x != n)).length < n := by
        have h2 := List.length_filter_lt_length_iff_exists (p := fun x => x != n) (l := l)
        have : (l.filter (fun x => x != n)).length < l.length := h2.2 ⟨n, hn, by simp⟩
        omega
      obtain ⟨f, h1, h2⟩ := left_out this
      refine ⟨f, by omega, fun h3 => h2 ?_⟩
      simp [List.mem_filter, h3]; omega
    · exact ⟨n, by omega, hn⟩

/-- The identity of n rows is no product over fewer than n. -/
theorem identity_rank {n r : Nat} {A B : Mat} (h : ∀ i, i < n → ∀ j, j < n → (sm r fun t => A i t * B t j) = if i = j then 1 else 0) : n ≤ r := by
  apply Nat.le_of_not_lt
  intro hlt
  have hi := inv_steps r B n
  obtain ⟨f, h1, h2⟩ := left_out (Nat.lt_of_le_of_lt hi.len hlt)
  have hk := kerv_kernel (m := r) (M := B) h1 h2
  obtain ⟨y, hy⟩ : ∃ y, y = kerv (steps r B n) f := ⟨_, rfl⟩
  have hyf : y f = 1 := by rw [hy]; simp [kerv]
  rw [← hy] at hk
  have e1 : y f = sm n fun j => (sm r fun t => A f t * B t j) * y j := by
    rw [sm_one h1 (fun j hj hne => by rw [h f h1 j hj, if_neg (Ne.symm hne)]; grind), h f h1 f h1]; simp
  have e2 : (sm n fun j => (sm r fun t => A f t * B t j) * y j) = 0 := by
    rw [sm_congr (g := fun j => sm r fun t => A f t * (B t j * y j)) (fun j _ => by rw [← sm_mul']; exact sm_congr fun t _ => by grind), sm_comm]
    apply sm_null; intro t ht
    rw [sm_mul]
    have := hk t ht
    unfold ap at this
    rw [this]; grind
  rw [e1, e2] at hyf
  exact absurd hyf (by decide)

def transposed (M : Mat) : Mat := fun i j => M j i

/-- Each row is the combination of the reduced rows by its numbers in the columns of the pivots. -/
theorem row_of_pivots {m n : Nat} {M : Mat} {s : St} (h : Inv m M s n) : ∀ i, i < m → ∀ j, j < n → M i j = sm s.piv.length fun t => M i (s.piv.getD t 0) * s.M t j := by
  obtain ⟨Q, hQ⟩ := h.alike.back
  have hlen := h.len
  have hcut : ∀ i, i < m → ∀ j, j < n → M i j = sm s.piv.length fun t => Q i t * s.M t j := by
    intro i hi j hj
    rw [hQ i hi j]
    obtain ⟨d, hd⟩ : ∃ d, m = s.piv.length + d := ⟨m - s.piv.length, by omega⟩
    rw [hd, sm_split, sm_null (n := d) (fun t ht => by rw [h.below _ (by omega) (by omega) j hj]; grind)]
    grind
  intro i hi j hj
  rw [hcut i hi j hj]
  apply sm_congr
  intro t ht
  rw [hcut i hi _ (h.lt t ht), sm_one ht (fun u hu hne => by rw [h.unit t ht u (by omega), if_neg hne]; grind), h.unit t ht t (by omega)]
  simp

/-- The rank of the transpose is not greater. -/
theorem rank_le {m n : Nat} (M : Mat) : (steps n (transposed M) m).piv.length ≤ (steps m M n).piv.length := by
  have h := inv_steps m M n
  have g := inv_steps n (transposed M) m
  obtain ⟨s, hs⟩ : ∃ s, s = steps m M n := ⟨_, rfl⟩
  obtain ⟨s', hs'⟩ : ∃ s', s' = steps n (transposed M) m := ⟨_, rfl⟩
  rw [← hs] at h ⊢
  rw [← hs'] at g ⊢
  obtain ⟨Q, hQ⟩ := g.alike.comb
  have hgl := g.len
  apply identity_rank (A := fun u t => sm n fun j => Q u j * s.M t j) (B := fun t u => M (s'.piv.getD u 0) (s.piv.getD t 0))
  intro u hu v hv
  have e : s'.M u (s'.piv.getD v 0) = if u = v then 1 else 0 := g.unit v hv u (by omega)
  rw [← e, hQ u (by omega)]
  have hm : s'.piv.getD v 0 < m := g.lt v hv
  rw [sm_congr (n := n) (g := fun j => sm s.piv.length fun t => Q u j * s.M t j * M (s'.piv.getD v 0) (s.piv.getD t 0)) (fun j hj => by
    rw [show transposed M j (s'.piv.getD v 0) = M (s'.piv.getD v 0) j from rfl, row_of_pivots h _ hm j hj, ← sm_mul]
    exact sm_congr fun t _ => by grind), sm_comm]
  exact sm_congr fun t _ => by rw [← sm_mul']

theorem rank_transposed {m n : Nat} (M : Mat) : (steps n (transposed M) m).piv.length = (steps m M n).piv.length :=
  Nat.le_antisymm (rank_le M) (rank_le (transposed M))

/-- 1 or -1. -/
def sg : Nat → Rat
  | 0 => 1
  | n + 1 => - sg n

def skip (k j : Nat) : Nat := if j < k then j else j + 1
def minor (M : Mat) (k : Nat) : Mat := fun i j => M (i + 1) (skip k j)

/-- The determinant, by the first row. -/
def det : Nat → Mat → Rat
  | 0, _ => 1
  | n + 1, M => sm (n + 1) fun k => sg k * (M 0 k * det n (minor M k))

theorem det_succ (n : Nat) (M : Mat) : det (n + 1) M = sm (n + 1) fun k => sg k * (M 0 k * det n (minor M k)) := rfl

theorem skip_lt {k j n : Nat} (h : j < n) : skip k j < n + 1 := by unfold skip; split <;> omega

theorem det_congr : ∀ {n : Nat} {A B : Mat}, (∀ i, i < n → ∀ j, j < n → A i j = B i j) → det n A = det n B
  | 0, _, _, _ => rfl
  | n + 1, A, B, h => by
    rw [det_succ, det_succ]
    apply sm_congr
    intro k hk
    rw [h 0 (by omega) k hk, det_congr (A := minor A k) (B := minor B k) (fun i hi j hj => h (i + 1) (by omega) _ (skip_lt hj))]

def setRow (M : Mat) (r : Nat) (v : Nat → Rat) : Mat := fun i => if i = r then v else M i

theorem minor_setRow_zero (M : Mat) (v : Nat → Rat) (k : Nat) : minor (setRow M 0 v) k = minor M k := by
  funext i j; simp [minor, setRow]
theorem minor_setRow_succ (M : Mat) (r : Nat) (v : Nat → Rat) (k : Nat) : minor (setRow M (r + 1) v) k = setRow (minor M k) r (fun j => v (skip k j)) := by
  funext i j; simp only [minor, setRow]; by_cases h : i = r <;> simp [h, minor]

/-- The determinant is linear in each row. -/
theorem det_linear : ∀ {n r : Nat} (M : Mat) (a b : Rat) (u v : Nat → Rat), r < n → det n (setRow M r fun j => a * u j + b * v j) = a * det n (setRow M r u) + b * det n (setRow M r v)
  | 0, _, _, _, _, _, _, h => by omega
  | n + 1, 0, M, a, b, u, v, _ => by
    simp only [det_succ, minor_setRow_zero]
    rw [← sm_mul, ← sm_mul, ← sm_add]
    apply sm_congr; intro k _
    simp only [setRow, if_true]; grind
  | n + 1, r + 1, M, a, b, u, v, h => by
    simp only [det_succ, minor_setRow_succ]
    rw [← sm_mul, ← sm_mul, ← sm_add]
    apply sm_congr; intro k _
    rw [det_linear (minor M k) a b (fun j => u (skip k j)) (fun j => v (skip k j)) (by omega)]
    have e : ∀ w, setRow M (r + 1) w 0 = M 0 := fun w => by simp [setRow]
    rw [e, e, e]; grind

theorem sm_skip (n k : Nat) (hk : k < n + 1) (f : Nat → Rat) : sm n (fun l => f (skip k l)) = sm (n + 1) (fun p => if p = k then 0 else f p) := by
  induction n with
  | zero =>
    obtain rfl : k = 0 := by omega
    simp only [sm_succ, sm_zero, if_true]; grind
  | succ n ih =>
    by_cases e : k = n + 1
    · subst e
      rw [sm_succ (n + 1)]
      simp only [if_true]
      rw [sm_congr (g := fun p => if p = n + 1 then 0 else f p) (fun l hl => by simp [skip, hl]; omega)]
      grind
    · rw [sm_succ, ih (by omega), sm_succ (n + 1)]
      rw [if_neg (by omega)]
      congr 1
      unfold skip; rw [if_neg (by omega)]

theorem skip_skip (k p l : Nat) (hp : p ≠ k) : skip k (skip (if p < k then p else p - 1) l) = skip p (skip (if k < p then k else k - 1) l) := by
  unfold skip
  by_cases h1 : p < k
  · rw [if_pos h1, if_neg (show ¬ k < p by omega)]
    repeat' split
    all_goals omega
  · rw [if_neg h1, if_pos (show k < p by omega)]
    repeat' split
    all_goals omega

/-- The determinant by the first two rows. -/
theorem det_two (n : Nat) (M : Mat) : det (n + 2) M = sm (n + 2) fun k => sm (n + 2) fun p => if p = k then 0 else sg k * sg p * (if p < k then 1 else -1) * (M 0 k * M 1 p) * det n (fun i j => M (i + 2) (skip k (skip (if p < k then p else p - 1) j))) := by
  rw [det_succ]
  apply sm_congr
  intro k hk
  rw [det_succ, ← sm_mul, ← sm_mul]
  have e := sm_skip (n + 1) k hk (fun p => sg k * sg p * (if p < k then 1 else -1) * (M 0 k * M 1 p) * det n (fun i j => M (i + 2) (skip k (skip (if p < k then p else p - 1) j))))
  rw [← e]
  apply sm_congr
  intro l hl
  have e1 : (if skip k l < k then skip k l else skip k l - 1) = l := by
    unfold skip
    repeat' split
    all_goals omega
  rw [e1]
  have e2 : det n (minor (minor M k) l) = det n (fun i j => M (i + 2) (skip k (skip l j))) := rfl
  rw [e2]
  have e3 : minor M k 0 l = M 1 (skip k l) := rfl
  rw [e3]
  have e4 : sg (skip k l) * (if skip k l < k then 1 else -1) = sg l := by
    unfold skip
    by_cases h : l < k
    · simp [h]
    · rw [if_neg h, if_neg (by omega)]; simp only [sg]; grind
  rw [← e4]; grind

theorem swapped_minor (M : Mat) (a b k : Nat) : minor (swapped M (a + 1) (b + 1)) k = swapped (minor M k) a b := by
  funext i j; simp only [minor, swapped]
  by_cases h1 : i = a
  · simp [h1, minor]
  · by_cases h2 : i = b
    · have h3 : ¬ b = a := fun e => h1 (h2.trans e)
      simp [h2, h3, minor]
    · simp [h1, h2, minor]

theorem sm_sm_neg {n : Nat} {F G : Nat → Nat → Rat} (h : ∀ k, k < n → ∀ p, p < n → G k p = - F p k) : sm n (fun k => sm n fun p => G k p) = - sm n (fun k => sm n fun p => F k p) := by
  rw [sm_comm n n F, ← sm_neg]
  apply sm_congr; intro k hk
  rw [← sm_neg]
  exact sm_congr fun p hp => h k hk p hp

/-- Two neighbouring rows change places: the sign changes. -/
theorem det_adjacent : ∀ {n r : Nat} (M : Mat), r + 1 < n → det n (swapped M r (r + 1)) = - det n M
  | 0, _, _, h => by omega
  | 1, _, _, h => by omega
  | n + 2, 0, M, _ => by
    rw [det_two, det_two]
    apply sm_sm_neg
    intro k hk p hp
    by_cases e : p = k
    · subst e; simp
    · rw [if_neg e, if_neg (Ne.symm e)]
      have e1 : swapped M 0 1 0 k = M 1 k := by simp [swapped]
      have e2 : swapped M 0 1 1 p = M 0 p := by simp [swapped]
      have e3 : (fun i j => swapped M 0 1 (i + 2) (skip k (skip (if p < k then p else p - 1) j))) = (fun i j => M (i + 2) (skip p (skip (if k < p then k else k - 1) j))) := by
        funext i j
        rw [skip_skip k p j e]
        simp [swapped]
      rw [e1, e2, e3]
      by_cases h : p < k
      · rw [if_pos h, if_neg (show ¬ k < p by omega)]; grind
      · rw [if_neg h, if_pos (show k < p by omega)]; grind
  | n + 2, r + 1, M, h => by
    rw [det_succ, det_succ, ← sm_neg]
    apply sm_congr
    intro k _
    rw [swapped_minor, det_adjacent _ (by omega)]
    have e : swapped M (r + 1) (r + 1 + 1) 0 = M 0 := by simp [swapped]
    rw [e]; grind

theorem det_swapped {n a : Nat} : ∀ {d : Nat} (M : Mat), a + d + 1 < n → det n (swapped M a (a + d + 1)) = - det n M
  | 0, M, h => det_adjacent M h
  | d + 1, M, h => by
    have e : swapped M a (a + (d + 1) + 1) = swapped (swapped (swapped M (a + d + 1) (a + d + 2)) a (a + d + 1)) (a + d + 1) (a + d + 2) := by
      have h1 : a + (d + 1) + 1 = a + d + 2 := by omega
      have n1 : ¬ a = a + d + 1 := by omega
      have n2 : ¬ a = a + d + 2 := by omega
      have n3 : ¬ a + d + 1 = a := by omega
      have n4 : ¬ a + d + 2 = a := by omega
      have n5 : ¬ a + d + 1 = a + d + 2 := by omega
      have n6 : ¬ a + d + 2 = a + d + 1 := by omega
      rw [h1]
      funext i
      simp only [swapped]
      by_cases x1 : i = a
      · simp only [x1, if_true, n1, n2, n3, n4, n5, n6, if_false]
      · by_cases x2 : i = a + d + 1
        · simp only [x2, if_true, n1, n2, n3, n4, n5, n6, if_false]
        · by_cases x3 : i = a + d + 2
          · simp only [x3, if_true, n1, n2, n3, n4, n5, n6, if_false]
          · simp only [x1, x2, x3, if_false]
    rw [e, det_adjacent _ (by omega), det_swapped _ (by omega), det_adjacent _ (by omega)]
    grind

theorem swapped_symm (M : Mat) (a b : Nat) : swapped M a b = swapped M b a := by
  funext i; simp only [swapped]; by_cases h1 : i = a <;> by_cases h2 : i = b <;> simp_all

theorem det_swap {n a b : Nat} (M : Mat) (ha : a < n) (hb : b < n) (h : a ≠ b) : det n (swapped M a b) = - det n M := by
  by_cases g : a < b
  · obtain ⟨d, rfl⟩ : ∃ d, b = a + d + 1 := ⟨b - a - 1, by omega⟩
    exact det_swapped M hb
  · obtain ⟨d, rfl⟩ : ∃ d, a = b + d + 1 := ⟨a - b - 1, by omega⟩
    rw [swapped_symm]; exact det_swapped M ha

/-- Two equal rows: 0. -/
theorem det_equal {n a b : Nat} (M : Mat) (ha : a < n) (hb : b < n) (h : a ≠ b) (he : ∀ j, M a j = M b j) : det n M = 0 := by
  have e : swapped M a b = M := by
    funext i j; simp only [swapped]; by_cases h1 : i = a
    · subst h1; simp [he]
    · by_cases h2 : i = b
      · subst h2; simp [h1, he]
      · simp [h1, h2]
  have := det_swap M ha hb h
  rw [e] at this
  grind

theorem setRow_self (M : Mat) (r : Nat) : setRow M r (M r) = M := by
  funext i; simp only [setRow]; by_cases h : i = r <;> simp [h]

theorem det_zero_row {n r : Nat} (M : Mat) (hr : r < n) (h : ∀ j, j < n → M r j = 0) : det n M = 0 := by
  have e := det_linear (n := n) M 0 0 (fun _ => 0) (fun _ => 0) hr
  have e2 : det n M = det n (setRow M r fun j => 0 * 0 + 0 * 0) := by
    apply det_congr; intro i _ j hj
    simp only [setRow]; by_cases g : i = r
    · subst g; simp [h j hj]; grind
    · simp [g]
  rw [e2, e]; grind

theorem det_scaled {n r : Nat} (M : Mat) (p : Rat) (hr : r < n) : det n (scaled M r p) = det n M / p := by
  have e : scaled M r p = setRow M r fun j => p⁻¹ * M r j + 0 * M r j := by
    funext i j; simp only [scaled, setRow]; by_cases h : i = r
    · simp [h]; grind
    · simp [h]
  rw [e, det_linear M _ _ _ _ hr, setRow_self]; grind

/-- A multiple of row r is subtracted from each other row. -/
def clearedBy (M : Mat) (r : Nat) (c : Nat → Rat) : Mat := fun i j => if i = r then M r j else M i j - c i * M r j

theorem det_clearedBy {n r : Nat} (M : Mat) (c : Nat → Rat) (hr : r < n) : det n (clearedBy M r c) = det n M := by
  have gen : ∀ d, d ≤ n → det n (fun i j => if i = r then M r j else if i < d then M i j - c i * M r j else M i j) = det n M := by
    intro d
    induction d with
    | zero => intro _; apply det_congr; intro i _ j _; by_cases h : i = r <;> simp [h]
    | succ d ih =>
      intro hd
      rw [← ih (by omega)]
      by_cases e : d = r
      · apply det_congr; intro i _ j _
        by_cases h : i = r
        · simp [h]
        · simp only [h, if_false]
          by_cases h1 : i < d
          · rw [if_pos (by omega), if_pos h1]
          · rw [if_neg (by omega), if_neg h1]
      · obtain ⟨N, hN⟩ : ∃ N : Mat, N = fun i j => if i = r then M r j else if i < d then M i j - c i * M r j else M i j := ⟨_, rfl⟩
        have hNr : N r = M r := by rw [hN]; funext j; simp
        have hNd : N d = M d := by rw [hN]; funext j; simp [e]
        have e1 : (fun i j => if i = r then M r j else if i < d + 1 then M i j - c i * M r j else M i j) = setRow N d fun j => 1 * N d j + (- c d) * N r j := by
          funext i j; simp only [setRow]
          by_cases h : i = d
          · subst h; rw [if_neg e, if_pos (by omega), if_pos rfl, hNr, hNd]; grind
          · rw [if_neg h, hN]
            by_cases h1 : i = r
            · simp [h1]
            · simp only [h1, if_false]
              by_cases h2 : i < d
              · rw [if_pos (by omega), if_pos h2]
              · rw [if_neg (by omega), if_neg h2]
        rw [e1, ← hN, det_linear N _ _ _ _ (by omega), setRow_self, det_equal (setRow N d (N r)) (a := d) (b := r) (by omega) hr e (by intro j; simp [setRow, Ne.symm e])]
        grind
  rw [← gen n (Nat.le_refl _)]
  apply det_congr; intro i hi j _
  simp [clearedBy, hi]

theorem cleared_eq (M : Mat) (r k : Nat) : cleared M r k = clearedBy M r (fun i => M i k) := rfl

def product (n : Nat) (A B : Mat) : Mat := fun i j => sm n fun t => A i t * B t j

/-- A function that elimination changes as it changes the determinant. -/
structure DetLike (m : Nat) (F : Mat → Rat) : Prop where
  swap : ∀ M a b, a < m → b < m → a ≠ b → F (swapped M a b) = - F M
  scale : ∀ M r p, r < m → p ≠ 0 → F (scaled M r p) = F M / p
  clear : ∀ M r c, r < m → F (clearedBy M r c) = F M

theorem detLike_det (n : Nat) : DetLike n (det n) :=
  ⟨fun M _ _ ha hb h => det_swap M ha hb h, fun M _ p hr _ => det_scaled M p hr, fun M _ c hr => det_clearedBy M c hr⟩

theorem product_swapped (n : Nat) (A B : Mat) (a b : Nat) : product n (swapped A a b) B = swapped (product n A B) a b := by
  funext i j; simp only [product, swapped]
  by_cases h1 : i = a
  · simp only [h1, if_true]; rfl
  · by_cases h2 : i = b
    · have h3 : ¬ b = a := fun e => h1 (h2.trans e)
      simp only [h2, h3, if_true, if_false]; rfl
    · simp only [h1, h2, if_false]; rfl
theorem product_scaled (n : Nat) (A B : Mat) (r : Nat) (p : Rat) : product n (scaled A r p) B = scaled (product n A B) r p := by
  funext i j; simp only [product, scaled]; by_cases h : i = r
  · simp only [h, if_true]
    rw [sm_congr (g := fun t => p⁻¹ * (A r t * B t j)) (fun t _ => by grind), sm_mul]; grind
  · simp [h]
theorem product_clearedBy (n : Nat) (A B : Mat) (r : Nat) (c : Nat → Rat) : product n (clearedBy A r c) B = clearedBy (product n A B) r c := by
  funext i j; simp only [product, clearedBy]; by_cases h : i = r
  · simp [h]
  · simp only [h, if_false]
    rw [← sm_mul, ← sm_sub]; exact sm_congr fun t _ => by grind

theorem detLike_product (n : Nat) (B : Mat) : DetLike n (fun A => det n (product n A B)) :=
  ⟨fun M a b ha hb h => by simp only [product_swapped]; exact det_swap _ ha hb h,
   fun M r p hr _ => by simp only [product_scaled]; exact det_scaled _ p hr,
   fun M r c hr => by simp only [product_clearedBy]; exact det_clearedBy _ c hr⟩

theorem detLike_step {m : Nat} {F : Mat → Rat} (h : DetLike m F) (s : St) (k : Nat) : (step m s k).det * F (step m s k).M = s.det * F s.M := by
  cases hf : findRow s.M k (m - s.piv.length) s.piv.length with
  | none => rw [step_none hf]
  | some i =>
    rw [step_some hf]
    obtain ⟨h1, h2, h3, h4⟩ := findRow_some hf
    obtain ⟨r, hr⟩ : ∃ r, r = s.piv.length := ⟨_, rfl⟩
    rw [← hr] at h1 h2 ⊢
    have hA : swapped s.M r i r k ≠ 0 := by simp [swapped]; exact h3
    show _ * F (cleared _ r k) = _
    rw [cleared_eq, h.clear _ _ _ (by omega), h.scale _ _ _ (by omega) hA]
    by_cases e : i = r
    · subst e
      have e2 : swapped s.M i i = s.M := by funext x; simp only [swapped]; by_cases g : x = i <;> simp [g]
      rw [if_pos rfl, e2]
      rw [e2] at hA
      grind
    · rw [if_neg e, h.swap _ _ _ (by omega) (by omega) (Ne.symm e)]
      grind

theorem detLike_steps {m : Nat} {F : Mat → Rat} (h : DetLike m F) (M : Mat) : ∀ n, (steps m M n).det * F (steps m M n).M = F M
  | 0 => by simp only [steps]; grind
  | n + 1 => by rw [← detLike_steps h M n]; exact detLike_step h _ n

def one : Mat := fun i j => if i = j then 1 else 0

theorem det_one : ∀ n, det n one = 1
  | 0 => rfl
  | n + 1 => by
    rw [det_succ, sm_one (k := 0) (by omega) (fun k _ hk => by simp [one, Ne.symm hk])]
    have e : minor one 0 = one := by funext i j; simp [minor, one, skip]
    rw [e, det_one n]; simp [sg, one]

theorem piv_full {l : List Nat} {n : Nat} (hl : l.length = n) (lt : ∀ t, t < l.length → l.getD t 0 < n) (inc : ∀ t u, t < u → u < l.length → l.getD t 0 < l.getD u 0) : ∀ t, t < n → l.getD t 0 = t := by
  have up : ∀ t, t < n → t ≤ l.getD t 0 := by
    intro t
    induction t with
    | zero => intro _; omega
    | succ t ih => intro ht; have := ih (by omega); have := inc t (t + 1) (by omega) (by omega); omega
  have down : ∀ d t, t < n → n - 1 - t = d → l.getD t 0 ≤ t := by
    intro d
    induction d with
    | zero => intro t ht hd; have := lt t (by omega); omega
    | succ d ih => intro t ht hd; have := ih (t + 1) (by omega) (by omega); have := inc t (t + 1) (by omega) (by omega); omega
  intro t ht
  have := up t ht
  have := down _ t ht rfl
  omega

/-- With a pivot in each column a square matrix is reduced to the identity. -/
theorem reduced_one {n : Nat} {M0 : Mat} {s : St} (h : Inv n M0 s n) (hp : s.piv.length = n) : ∀ i, i < n → ∀ j, j < n → s.M i j = one i j := by
  intro i hi j hj
  have e := piv_full hp h.lt h.inc j hj
  have := h.unit j (by omega) i hi
  rw [e] at this
  rw [this]; rfl

theorem reduced_zero {n : Nat} {M0 : Mat} {s : St} (h : Inv n M0 s n) (hp : s.piv.length < n) : ∀ j, j < n → s.M (n - 1) j = 0 :=
  fun j hj => h.below (n - 1) (by omega) (by omega) j hj

/-- The determinant of the steps is the determinant, where each column has a pivot; else that is 0. -/
theorem det_steps {n : Nat} (M : Mat) : det n M = if (steps n M n).piv.length < n then 0 else (steps n M n).det := by
  have h := inv_steps n M n
  have e := detLike_steps (detLike_det n) M n
  by_cases g : (steps n M n).piv.length < n
  · rw [if_pos g, ← e, det_zero_row (r := n - 1) _ (by omega) (reduced_zero h g)]; grind
  · rw [if_neg g]
    have hp : (steps n M n).piv.length = n := by have := h.len; omega
    rw [det_congr (reduced_one h hp), det_one] at e
    rw [← e]; grind

/-- The determinant of a product. -/
theorem det_product (n : Nat) (A B : Mat) : det n (product n A B) = det n A * det n B := by
  have h := inv_steps n A n
  have e := detLike_steps (detLike_product n B) A n
  rw [det_steps A]
  by_cases g : (steps n A n).piv.length < n
  · rw [if_pos g, ← e, det_zero_row (r := n - 1) _ (by omega) (fun j _ => sm_null fun t ht => by rw [reduced_zero h g t ht]; grind)]; grind
  · rw [if_neg g]
    have hp : (steps n A n).piv.length = n := by have := h.len; omega
    rw [← e]
    congr 1
    apply det_congr
    intro i hi j _
    unfold product
    rw [sm_one hi (fun t ht hne => by rw [reduced_one h hp i hi t ht]; simp [one, Ne.symm hne]), reduced_one h hp i hi i hi]; simp [one]

/-- A matrix without a pivot in some column has no determinant but 0; else it has another one. -/
theorem det_pivots {n : Nat} (M : Mat) : det n M = 0 ↔ (steps n M n).piv.length < n := by
  have h := inv_steps n M n
  have e := detLike_steps (detLike_det n) M n
  constructor
  · intro h0
    apply Nat.lt_of_not_le
    intro hge
    have hp : (steps n M n).piv.length = n := by have := h.len; omega
    have hne : ∀ k, (steps n M k).det ≠ 0 := by
      intro k
      induction k with
      | zero => simp [steps]
      | succ k ih =>
        show (step n (steps n M k) k).det ≠ 0
        cases hf : findRow (steps n M k).M k (n - (steps n M k).piv.length) (steps n M k).piv.length with
        | none => rw [step_none hf]; exact ih
        | some i =>
          rw [step_some hf]
          obtain ⟨h1, h2, h3, h4⟩ := findRow_some hf
          have hA : swapped (steps n M k).M (steps n M k).piv.length i (steps n M k).piv.length k ≠ 0 := by simp [swapped]; exact h3
          by_cases e : i = (steps n M k).piv.length
          · simp only [e, if_true]; rw [e] at hA; grind
          · simp only [e, if_false]; grind
    rw [det_steps M, if_neg (by omega)] at h0
    exact hne n h0
  · intro hlt; rw [det_steps M, if_pos hlt]

/-- The numbers of a row with one number more. -/
def wide (n : Nat) (M : Mat) (b : Nat → Rat) : Mat := fun i j => if j = n then b i else M i j

/-- A solution, extended by -1. -/
def minus1 (n : Nat) (x : Nat → Rat) (j : Nat) : Rat := if j = n then -1 else x j

theorem ap_wide (n : Nat) (M : Mat) (b x : Nat → Rat) (i : Nat) : ap (n + 1) (wide n M b) (minus1 n x) i = ap n M x i - b i := by
  unfold ap
  rw [sm_succ, sm_congr (g := fun j => M i j * x j) (fun j hj => by simp [wide, minus1, show j ≠ n by omega])]
  simp [wide, minus1]; grind

theorem ap_minus1 (n : Nat) (N : Mat) (x : Nat → Rat) (i : Nat) : ap (n + 1) N (minus1 n x) i = ap n N x i - N i n := by
  unfold ap
  rw [sm_succ, sm_congr (g := fun j => N i j * x j) (fun j hj => by simp [minus1, show j ≠ n by omega])]
  simp [minus1]; grind

/-- The solution that the reduced rows tell: 0 where there is no pivot. -/
def solv (s : St) (n : Nat) (j : Nat) : Rat := if j ∈ s.piv then s.M (s.piv.idxOf j) n else 0

theorem ap_solv {m n : Nat} {M0 : Mat} {s : St} (h : Inv m M0 s n) : ∀ i, i < m → ap n s.M (solv s n) i = if i < s.piv.length then s.M i n else 0 := by
  intro i hi
  unfold ap
  rw [sm_pivots h.lt h.inc]
  have e1 : sm n (fun j => if j ∈ s.piv then 0 else s.M i j * solv s n j) = 0 := by
    apply sm_null; intro j _
    by_cases hm : j ∈ s.piv
    · rw [if_pos hm]
    · rw [if_neg hm]; simp [solv, hm]
  rw [e1]
  have : ∀ t, t < s.piv.length → s.M i (s.piv.getD t 0) * solv s n (s.piv.getD t 0) = if i = t then s.M t n else 0 := by
    intro t ht
    have hmem : s.piv.getD t 0 ∈ s.piv := mem_iff_getD.2 ⟨t, ht, rfl⟩
    rw [h.unit t ht i hi]
    unfold solv
    rw [if_pos hmem, idxOf_getD ht h.inc]
    by_cases e : i = t
    · subst e; simp
    · simp [e]
  rw [sm_congr this]
  by_cases hil : i < s.piv.length
  · rw [sm_one hil (fun t _ ht => by rw [if_neg (Ne.symm ht)]), if_pos hil]; simp; grind
  · rw [sm_null (fun t ht => by rw [if_neg (by omega)]), if_neg hil]; grind

/-- Equations have the told solution if the rows behind the pivots end in 0, and none else. -/
theorem solve_yes {m n : Nat} {M : Mat} {b : Nat → Rat} (h0 : ∀ i, (steps m (wide n M b) n).piv.length ≤ i → i < m → (steps m (wide n M b) n).M i n = 0) : ∀ i, i < m → ap n M (solv (steps m (wide n M b) n) n) i = b i := by
  have h := inv_steps m (wide n M b) n
  have hk : ∀ i, i < m → ap (n + 1) (wide n M b) (minus1 n (solv (steps m (wide n M b) n) n)) i = 0 := by
    apply (h.alike.kernel _).2
    intro i hi
    rw [ap_minus1, ap_solv h i hi]
    by_cases hl : i < (steps m (wide n M b) n).piv.length
    · rw [if_pos hl]; grind
    · rw [if_neg hl, h0 i (by omega) hi]; grind
  intro i hi
  have := hk i hi
  rw [ap_wide] at this
  grind

theorem solve_no {m n : Nat} {M : Mat} {b x : Nat → Rat} (hx : ∀ i, i < m → ap n M x i = b i) : ∀ i, (steps m (wide n M b) n).piv.length ≤ i → i < m → (steps m (wide n M b) n).M i n = 0 := by
  have h := inv_steps m (wide n M b) n
  have hk := (h.alike.kernel (c := n + 1) (minus1 n x)).1 (fun i hi => by rw [ap_wide, hx i hi]; grind)
  intro i h1 h2
  have := hk i h2
  rw [ap_minus1] at this
  have e : ap n (steps m (wide n M b) n).M x i = 0 := sm_null fun j hj => by rw [h.below i h1 h2 j hj]; grind
  rw [e] at this
  grind

/-- The matrix beside the identity. -/
def beside (n : Nat) (M : Mat) : Mat := fun i j => if j < n then M i j else if j = n + i then 1 else 0

/-- What stands beside the reduced identity is the inverse. -/
theorem inverse_right {n : Nat} {M : Mat} (hp : (steps n (beside n M) n).piv.length = n) : ∀ i, i < n → ∀ k, k < n → (sm n fun t => M i t * (steps n (beside n M) n).M t (n + k)) = one i k := by
  have h := inv_steps n (beside n M) n
  intro i hi k hk
  obtain ⟨N, hN⟩ : ∃ N, N = (steps n (beside n M) n).M := ⟨_, rfl⟩
  have hone := reduced_one h hp
  have hal := h.alike
  rw [← hN] at hone hal ⊢
  obtain ⟨y, hy⟩ : ∃ y : Nat → Rat, y = fun j => if j < n then N j (n + k) else if j = n + k then -1 else 0 := ⟨_, rfl⟩
  have y1 : ∀ j, j < n → y j = N j (n + k) := by intro j hj; rw [hy]; simp [hj]
  have y2 : y (n + k) = -1 := by rw [hy]; simp; omega
  have y3 : ∀ j, j ≠ k → y (n + j) = 0 := by intro j hj; rw [hy]; simp [hj]; omega
  have key := (hal.kernel (c := n + n) y).2 (by
    intro x hx
    unfold ap
    rw [sm_split, sm_congr (n := n) (g := fun j => one x j * N j (n + k)) (fun j hj => by rw [hone x hx j hj, y1 j hj]),
      sm_one hx (fun j _ hne => by simp [one, Ne.symm hne]), sm_one hk (fun j _ hne => by rw [y3 j hne]; grind), y2]
    simp [one]; grind) i hi
  unfold ap at key
  rw [sm_split, sm_congr (n := n) (g := fun t => M i t * N t (n + k)) (fun j hj => by rw [y1 j hj]; simp [beside, hj]),
    sm_one (n := n) (k := k) (f := fun j => beside n M i (n + j) * y (n + j)) hk (fun j _ hne => by rw [y3 j hne]; grind), y2] at key
  have e : beside n M i (n + k) = one i k := by
    unfold beside one; rw [if_neg (by omega)]
    by_cases e : i = k
    · subst e; simp
    · rw [if_neg (by omega), if_neg e]
  rw [e] at key
  grind

/-- The pivots do not see what lies behind the columns. -/
theorem steps_agree {m n : Nat} {A B : Mat} (h : ∀ i, i < m → ∀ j, j < n → A i j = B i j) : ∀ k, k ≤ n → (steps m A k).piv = (steps m B k).piv ∧ (steps m A k).det = (steps m B k).det ∧ ∀ i, i < m → ∀ j, j < n → (steps m A k).M i j = (steps m B k).M i j := by
  intro k
  induction k with
  | zero => intro _; exact ⟨rfl, rfl, h⟩
  | succ k ih =>
    intro hk
    obtain ⟨h1, h2, h3⟩ := ih (by omega)
    show (step m (steps m A k) k).piv = (step m (steps m B k) k).piv ∧ (step m (steps m A k) k).det = (step m (steps m B k) k).det ∧ ∀ i, i < m → ∀ j, j < n → (step m (steps m A k) k).M i j = (step m (steps m B k) k).M i j
    have hfr : ∀ d i, i + d ≤ m → findRow (steps m A k).M k d i = findRow (steps m B k).M k d i := by
      intro d
      induction d with
      | zero => intro i _; rfl
      | succ d ihd => intro i hid; unfold findRow; rw [h3 i (by omega) k (by omega), ihd (i + 1) (by omega)]
    have hlen := (inv_steps m A k).len
    have hf := hfr (m - (steps m A k).piv.length) (steps m A k).piv.length (by omega)
    cases hB : findRow (steps m B k).M k (m - (steps m B k).piv.length) (steps m B k).piv.length with
    | none =>
      rw [step_none (by rw [hf, h1]; exact hB), step_none hB]; exact ⟨h1, h2, h3⟩
    | some x =>
      have hA : findRow (steps m A k).M k (m - (steps m A k).piv.length) (steps m A k).piv.length = some x := by rw [hf, h1]; exact hB
      obtain ⟨g1, g2, _, _⟩ := findRow_some hA
      rw [step_some hA, step_some hB, h1, h2]
      rw [h1] at g1 g2
      obtain ⟨r, hr⟩ : ∃ r, r = (steps m B k).piv.length := ⟨_, rfl⟩
      rw [← hr] at g1 g2 ⊢
      have hs : ∀ i, i < m → ∀ j, j < n → swapped (steps m A k).M r x i j = swapped (steps m B k).M r x i j := by
        intro i hi j hj; unfold swapped
        split
        · exact h3 x (by omega) j hj
        · split
          · exact h3 r (by omega) j hj
          · exact h3 i hi j hj
      refine ⟨rfl, ?_, ?_⟩
      · show _ * _ = _ * _
        rw [hs r (by omega) k (by omega)]
      · intro i hi j hj
        show cleared _ r k i j = cleared _ r k i j
        unfold cleared scaled
        rw [hs r (by omega) k (by omega), hs r (by omega) j hj, hs i hi j hj, hs i hi k (by omega)]

/-- Reducing the rows of a reduced matrix changes nothing. -/
theorem steps_reduced {m n : Nat} {M0 : Mat} {s : St} (h : Inv m M0 s n) : ∀ k, k ≤ n → (steps s.piv.length s.M k).piv = s.piv.filter (fun p => p < k) ∧ ∀ i, i < s.piv.length → ∀ j, (steps s.piv.length s.M k).M i j = s.M i j := by
  have hlen := h.len
  -- the pivots below k are the first ones
  have hpre : ∀ k, ∃ t, t ≤ s.piv.length ∧ s.piv.filter (fun p => p < k) = s.piv.take t ∧ (∀ u, u < t → s.piv.getD u 0 < k) ∧ ∀ u, t ≤ u → u < s.piv.length → k ≤ s.piv.getD u 0 := by
    intro k
    have gen : ∀ (l : List Nat), (∀ t u, t < u → u < l.length → l.getD t 0 < l.getD u 0) → ∃ t, t ≤ l.length ∧ l.filter (fun p => p < k) = l.take t ∧ (∀ u, u < t → l.getD u 0 < k) ∧ ∀ u, t ≤ u → u < l.length → k ≤ l.getD u 0 := by
      intro l
      induction l with
      | nil => intro _; exact ⟨0, by simp, by simp, by simp, by simp⟩
      | cons a l ih =>
        intro inc
        by_cases ha : a < k
        · obtain ⟨t, h1, h2, h3, h4⟩ := ih (fun t u htu hu => by have := inc (t + 1) (u + 1) (by omega) (by simpa using hu); simpa using this)
          refine ⟨t + 1, by simp; omega, by simp [ha, h2], fun u hu => ?_, fun u hu hul => ?_⟩
          · cases u with
            | zero => simpa using ha
            | succ u => have := h3 u (by omega); simpa using this
          · cases u with
            | zero => omega
            | succ u => have := h4 u (by omega) (by simpa using hul); simpa using this
        · have hall : ∀ u, u < (a :: l).length → k ≤ (a :: l).getD u 0 := by
            intro u hu
            cases u with
            | zero => simp; omega
            | succ u => have := inc 0 (u + 1) (by omega) hu; simp at this ⊢; omega
          refine ⟨0, by omega, ?_, by intro u hu; omega, fun u _ hul => hall u hul⟩
          simp only [List.take_zero, List.filter_eq_nil_iff]
          intro p hp
          obtain ⟨u, hu, e⟩ := mem_iff_getD.1 hp
          have := hall u hu
          simp; omega
    exact gen s.piv h.inc
  intro k
  induction k with
  | zero =>
    intro _
    refine ⟨?_, fun i _ j => rfl⟩
    show ([] : List Nat) = _
    symm; rw [List.filter_eq_nil_iff]; intro p _; simp
  | succ k ih =>
    intro hk
    obtain ⟨h1, h2⟩ := ih (by omega)
    obtain ⟨t, t1, t2, t3, t4⟩ := hpre k
    obtain ⟨r, hr⟩ : ∃ r, r = s.piv.length := ⟨_, rfl⟩
    have hl : (steps r s.M k).piv.length = t := by rw [hr, h1, t2, List.length_take]; omega
    show (step s.piv.length (steps s.piv.length s.M k) k).piv = _ ∧ ∀ i, i < s.piv.length → ∀ j, (step s.piv.length (steps s.piv.length s.M k) k).M i j = s.M i j
    rw [← hr] at h1 h2 t1 t4 ⊢
    cases hf : findRow (steps r s.M k).M k (r - (steps r s.M k).piv.length) (steps r s.M k).piv.length with
    | none =>
      rw [step_none hf]
      have h0 := findRow_none hf
      refine ⟨?_, h2⟩
      rw [h1]
      apply List.filter_congr
      intro p hp
      obtain ⟨u, hu, e⟩ := mem_iff_getD.1 hp
      have hne : p ≠ k := by
        intro hpk
        have hut : t ≤ u := Nat.le_of_not_lt fun g => by have := t3 u g; omega
        have hz := h0 u (by omega) (by omega)
        rw [h2 u (by omega) k, show k = s.piv.getD u 0 by omega, h.unit u hu u (by omega)] at hz
        simp at hz
      simp; omega
    | some x =>
      obtain ⟨g1, g2, g3, g4⟩ := findRow_some hf
      rw [hl] at g1 g2
      have hxr : x < r := by omega
      rw [h2 x hxr k] at g3
      -- row x has a pivot at k: else its number there were 0
      have hpx : s.piv.getD x 0 = k := by
        have hle := t4 x (by omega) hxr
        by_cases e : s.piv.getD x 0 = k
        · exact e
        · exact absurd (h.left x (by omega) k (by omega)) g3
      have hxt : x = t := by
        by_cases e : x = t
        · exact e
        · have := h.inc t x (by omega) (by omega)
          have := t4 t (by omega) (by omega)
          omega
      subst hxt
      rw [step_some hf, hl]
      have hsw : swapped (steps r s.M k).M x x = (steps r s.M k).M := by
        funext i; simp only [swapped]; by_cases g : i = x <;> simp [g]
      rw [hsw]
      have hu : ∀ i, i < r → s.M i k = if i = x then 1 else 0 := by
        intro i hi; have := h.unit x (by omega) i (by omega); rw [hpx] at this; exact this
      constructor
      · show (steps r s.M k).piv ++ [k] = _
        rw [h1, t2]
        obtain ⟨t', u1, u2, u3, u4⟩ := hpre (k + 1)
        rw [u2]
        have ht' : t' = x + 1 := by
          have a1 : ¬ t' ≤ x := fun g => by have := u4 x g (by omega); omega
          have a2 : ¬ x + 1 < t' := fun g => by have := u3 (x + 1) g; have := h.inc x (x + 1) (by omega) (by omega); omega
          omega
        rw [ht', List.take_add_one]
        congr 1
        have hx2 : x < s.piv.length := by omega
        rw [List.getD_eq_getElem?_getD, List.getElem?_eq_getElem hx2] at hpx
        simp at hpx
        rw [List.getElem?_eq_getElem hx2, hpx]; rfl
      · intro i hi j
        show cleared _ x k i j = _
        unfold cleared scaled
        have e1 : (steps r s.M k).M x k = 1 := by rw [h2 x hxr k, hu x hxr]; simp
        rw [e1]
        by_cases e : i = x
        · subst e; simp only [if_true]; rw [h2 i hi j]; grind
        · simp only [e, if_false, if_true]
          rw [h2 i hi j, h2 i hi k, hu i hi, if_neg e]; grind

end Go.Proofs.YtogakaiibijjpaaGreatDoor.DLin

/- Package matrix, sixth part: the table that is being reduced; sizes of its numbers. -/
set_option linter.unusedVariables false
set_option linter.unusedSimpArgs false
namespace Go.Proofs.YtogakaiibijjpaaGreatDoor
open Go.RowKit
open DDig DLin

/-- A row lies off some blocks. -/
def Off (G : Nat → Prop) (c : Nat) (v : Value) : Prop := ∀ ad n d, v = .slice (some ad) n d → 0 < c → ¬ G ad.block
theorem Fresh.off {b c : Nat} {G : Nat → Prop} {v : Value} (h : Fresh b v) (hg : ∀ x, G x → x < b) : Off G c v := fun ad n d e _ hG => by
  have h1 := h ad n d e
  have h2 := hg _ hG
  omega
theorem SlQ.off {w : World} {v : Value} {c : Nat} {f : Nat → Rat} (h : SlQ w v c f) {G : Nat → Prop} (hg : ∀ x, G x → w.heap.size ≤ x) : Off G c v := fun ad n d e h0 hG => by
  obtain ⟨A, k, rfl, h1, h2, h3⟩ := h
  obtain ⟨b, o, rfl, gg⟩ := h3 h0
  injection e with e; injection e with e
  subst e
  obtain ⟨a, c0, -⟩ := gg 0 h0
  have h4 : b < w.heap.size := World.block_lt_of_cell? _ _ c0
  have h5 : w.heap.size ≤ b := hg _ hG
  omega
/-- The blocks beside the table. -/
def Gs (w : World) (q : Nat) : Nat → Prop := fun b => b = q ∨ b = w.heap.size
theorem Gs.lt {w : World} {q n : Nat} (h : q < n) (hq : w.heap.size < q) : ∀ x, Gs w q x → x < n := fun x hx => by
  rcases hx with rfl | rfl <;> omega
theorem Gs.le {w : World} {q : Nat} (hq : w.heap.size < q) : ∀ x, Gs w q x → w.heap.size ≤ x := fun x hx => by
  rcases hx with rfl | rfl <;> omega
/-- A store into a block that a row lies off, and that holds no whole numbers. -/
theorem SlQ.put {w : World} {v : Value} {c : Nat} {f : Nat → Rat} (h : SlQ w v c f) {g : Nat} {G : Nat → Prop} (ho : Off G c v) (hG : G g) {e : TypeId} {cs : List Value} (hb : Blk w g e cs) (hn : NoInt cs) (j : Nat) (x : Value) : SlQ (w.setCell ⟨g, j, none⟩ x) v c f := by
  obtain ⟨A, k, rfl, h1, h2, h3⟩ := h
  refine ⟨A, k, rfl, h1, h2, fun h0 => ?_⟩
  obtain ⟨b, o, rfl, gg⟩ := h3 h0
  have hbg : b ≠ g := fun e => ho ⟨b, o, none⟩ c k rfl h0 (by rw [← e] at hG; exact hG)
  refine ⟨b, o, rfl, fun i hi => ?_⟩
  obtain ⟨a, c0, c1, c2, c3, hr⟩ := gg i hi
  have key : ∀ (p : Nat) (u : Value), w.cell? ⟨b, p, none⟩ = some u → (w.setCell ⟨g, j, none⟩ x).cell? ⟨b, p, none⟩ = some u := fun p u hp => by
    rw [World.cell?_setCell_other _ _ _ _ (fun e => hbg (by injection e with e; exact e.symm))]; exact hp
  exact ⟨a, key _ _ c0, key _ _ c1, key _ _ c2, key _ _ c3, hr.put hb hn j x⟩

/-- The rows of a table in a block of the call's own, off another block. -/
def Tbl (w : World) (g : Nat) (q : Nat → Prop) (m c : Nat) (M : Nat → Nat → Rat) : Prop :=
  ∃ us sp : List Value, Blk w g 49 (us ++ sp) ∧ (∀ u ∈ us ++ sp, IsSl u) ∧ us.length = m ∧ ∀ i u, us[i]? = some u → SlQ w u c (M i) ∧ Off q c u
theorem Tbl.x {w w' : World} {g m c : Nat} {q : Nat → Prop} {M : Nat → Nat → Rat} (h : Tbl w g q m c M) (hx : X w w') : Tbl w' g q m c M := by
  obtain ⟨us, sp, h1, h2, h3, h4⟩ := h
  exact ⟨us, sp, h1.x hx, h2, h3, fun i u hu => ⟨(h4 i u hu).1.x hx, (h4 i u hu).2⟩⟩
theorem Tbl.row {w : World} {g m c : Nat} {q : Nat → Prop} {M : Nat → Nat → Rat} (h : Tbl w g q m c M) {i : Nat} (hi : i < m) :
    ∃ B d, w.cell? ⟨g, i, none⟩ = some (.slice B c d) ∧ SlQ w (.slice B c d) c (M i) ∧ Off q c (.slice B c d) ∧ w.frozen? ⟨g, i, none⟩ = false := by
  obtain ⟨us, sp, h1, h2, h3, h4⟩ := h
  have hu : us[i]? = some us[i] := List.getElem?_eq_getElem (by omega)
  obtain ⟨hs, ho⟩ := h4 i _ hu
  obtain ⟨B, d, e, -⟩ := id hs
  have hc := h1.cell (app_get (sp := sp) hu)
  rw [e] at hs ho hc
  exact ⟨B, d, hc, hs, ho, h1.frozen i⟩
theorem Tbl.elem {w : World} {g m c : Nat} {q : Nat → Prop} {M : Nat → Nat → Rat} (h : Tbl w g q m c M) {i k : Nat} (hi : i < m) (hk : k < c) :
    ∃ (d b o : Nat) (a : QV), w.cell? ⟨g, i, none⟩ = some (.slice (some ⟨b, o, none⟩) c d) ∧ w.cell? ⟨b, o + k * 4, none⟩ = some (.bool a.s) ∧ w.cell? ⟨b, o + k * 4 + 1, none⟩ = some (.slice a.A a.n a.c) ∧ w.cell? ⟨b, o + k * 4 + 2, none⟩ = some (.bool a.t) ∧ w.cell? ⟨b, o + k * 4 + 3, none⟩ = some (.slice a.B a.m a.d) ∧ RatR w a (M i k) ∧ SlQ w (.slice (some ⟨b, o, none⟩) c d) c (M i) ∧ Off q c (.slice (some ⟨b, o, none⟩) c d) ∧ w.frozen? ⟨g, i, none⟩ = false := by
  obtain ⟨B, d, h1, h2, h3, h4⟩ := h.row hi
  obtain ⟨A, d', e, g1, g2, g3⟩ := id h2
  injection e with e1 e2 e3
  subst e1 e3
  obtain ⟨b, o, rfl, gg⟩ := g3 (by omega)
  obtain ⟨a, c0, c1, c2, c3, hr⟩ := gg k hk
  exact ⟨d, b, o, a, h1, c0, c1, c2, c3, hr, h2, h3, h4⟩
theorem Tbl.put {w : World} {g m c : Nat} {q : Nat → Prop} {M : Nat → Nat → Rat} (h : Tbl w g q m c M) {i : Nat} (hi : i < m) {u : Value} {f : Nat → Rat} (hu : SlQ w u c f) (ho : Off q c u) : Tbl (w.setCell ⟨g, i, none⟩ u) g q m c (fun j => if j = i then f else M j) := by
  obtain ⟨us, sp, h1, h2, h3, h4⟩ := h
  have hus : IsSl u := by obtain ⟨B, d, e, -⟩ := hu; exact ⟨B, c, d, e⟩
  have hk : ∀ p : Addr, p.block ≠ g → (w.setCell ⟨g, i, none⟩ u).cell? p = w.cell? p := fun p hp => World.cell?_setCell_other _ _ _ _ (fun e => hp (by rw [← e]))
  have hb := h1.set i u
  rw [List.set_append_left _ _ (by omega)] at hb
  refine ⟨us.set i u, sp, hb, ?_, by simpa using h3, ?_⟩
  · intro x hx
    rw [List.mem_append] at hx
    rcases hx with hx | hx
    · rcases List.mem_or_eq_of_mem_set hx with hx | rfl
      · exact h2 x (List.mem_append_left _ hx)
      · exact hus
    · exact h2 x (List.mem_append_right _ hx)
  · intro j x hx
    by_cases e : j = i
    · subst e
      rw [List.getElem?_set_self (by omega)] at hx
      injection hx with hx
      subst hx
      refine ⟨?_, ho⟩
      show SlQ _ u c (if j = j then f else M j)
      rw [if_pos rfl]
      exact hu.ks h1 h2 hk
    · rw [List.getElem?_set_ne (fun h => e h.symm)] at hx
      refine ⟨?_, (h4 j x hx).2⟩
      show SlQ _ x c (if j = i then f else M j)
      rw [if_neg e]
      exact (h4 j x hx).1.ks h1 h2 hk
/-- A store into the block that the rows lie off. -/
theorem Tbl.aside {w : World} {g m c : Nat} {q : Nat → Prop} {M : Nat → Nat → Rat} (h : Tbl w g q m c M) {p : Nat} (hp : q p) {cs : List Value} (hb : Blk w p 71 cs) (hn : NoInt cs) (j : Nat) (x : Value) : Tbl (w.setCell ⟨p, j, none⟩ x) g q m c M := by
  obtain ⟨us, sp, h1, h2, h3, h4⟩ := h
  have hq : p ≠ g := by
    intro e
    subst e
    unfold Blk at h1 hb
    rw [h1] at hb
    injection hb with hb
    injection hb with _ hb
    exact absurd hb (by decide)
  exact ⟨us, sp, h1.other (p := ⟨p, j, none⟩) hq x, h2, h3, fun i u hu => ⟨(h4 i u hu).1.put (h4 i u hu).2 hp hb hn j x, (h4 i u hu).2⟩⟩
/-- An append to a row of whole numbers. -/
theorem Tbl.ki {w w' : World} {g m c : Nat} {q : Nat → Prop} {M : Nat → Nat → Rat} (h : Tbl w g q m c M) (hk : Kp IsI64 w w') (hb : w'.heap[g]? = w.heap[g]?) : Tbl w' g q m c M := by
  obtain ⟨us, sp, h1, h2, h3, h4⟩ := h
  exact ⟨us, sp, by unfold Blk at *; rw [hb]; exact h1, h2, h3, fun i u hu => ⟨(h4 i u hu).1.ki hk, (h4 i u hu).2⟩⟩
theorem Tbl.congr {w : World} {g m c : Nat} {q : Nat → Prop} {M N : Nat → Nat → Rat} (h : Tbl w g q m c M) (e : ∀ i, i < m → ∀ j, j < c → M i j = N i j) : Tbl w g q m c N := by
  obtain ⟨us, sp, h1, h2, h3, h4⟩ := h
  refine ⟨us, sp, h1, h2, h3, fun i u hu => ⟨(h4 i u hu).1.congr (e i ?_), (h4 i u hu).2⟩⟩
  have := (List.getElem?_eq_some_iff.1 hu).1
  omega
theorem OwnC.type {C : Value → Prop} {w : World} {base : Nat} {e e' : TypeId} {size n g : Nat} {v : Value} {xs cs : List Value} (h : OwnC C w base e size v n xs) (hb : Blk w g e' cs) (he : e ≠ e') : v.ownBlock ≠ some g := by
  intro hg
  obtain ⟨cs', h1, -⟩ := h.2 g hg
  unfold Blk at h1 hb
  rw [h1] at hb
  injection hb with hb
  injection hb with _ hb
  exact he hb
theorem OwnC.put {C : Value → Prop} {w : World} {base : Nat} {e : TypeId} {size n g : Nat} {v : Value} {xs : List Value} (h : OwnC C w base e size v n xs) (hg : v.ownBlock ≠ some g) (j : Nat) (x : Value) : OwnC C (w.setCell ⟨g, j, none⟩ x) base e size v n xs := by
  have hh : ∀ b, v.ownBlock = some b → (w.setCell ⟨g, j, none⟩ x).heap[b]? = w.heap[b]? := fun b hb => by
    refine Below.heap_setCell _ _ _ _ ?_
    intro e
    exact hg (by rw [hb, e])
  refine ⟨⟨h.1.1, ?_⟩, fun b hb => ?_⟩
  · rcases h.1.2 with h1 | ⟨b, cap, cur, hv, hbb, hbl, h1, h2, h3, h4⟩
    · exact Or.inl h1
    · refine Or.inr ⟨b, cap, cur, hv, hbb, ?_, h1, h2, h3, h4⟩
      rw [hh b (by rw [hv]; rfl)]
      exact hbl
  · obtain ⟨cs, h1, h2⟩ := h.2 b hb
    exact ⟨cs, by unfold Blk at *; rw [hh b hb]; exact h1, h2⟩
theorem Tbl.of {w : World} {g m c cap base : Nat} {q : Nat → Prop} {us : List Value} {M : Nat → Nat → Rat} (h : OwnC IsSl w base 49 1 (.slice (some ⟨g, 0, none⟩) m cap) m us) (hu : ∀ i u, us[i]? = some u → SlQ w u c (M i) ∧ Off q c u) (hl : us.length = m) : Tbl w g q m c M := by
  obtain ⟨cs, h1, h2⟩ := h.2 g rfl
  rcases own_parts h.1 with ⟨e, _⟩ | ⟨g', cap', sp, e, hb, hl', hc, hB, -⟩
  · cases e
  · injection e with e1 e2 e3
    injection e1 with e1
    injection e1 with e1
    subst e1
    have : us ++ sp = cs := by
      unfold Blk at hB h1
      rw [hB] at h1
      injection h1 with h1
      injection h1 with h1
      simpa using h1
    exact ⟨us, sp, hB, fun u hu => h2 u (by rw [← this]; exact hu), hl, hu⟩
theorem Tbl.read {w : World} {g m c cap : Nat} {q : Nat → Prop} {M : Nat → Nat → Rat} (h : Tbl w g q m c M) (hc : m ≤ cap) : MatQ w (.slice (some ⟨g, 0, none⟩) m cap) m c M := by
  refine ⟨_, _, rfl, hc, by simp, fun h0 => ⟨g, 0, rfl, fun i hi => ?_⟩⟩
  obtain ⟨B, d, h1, h2, -⟩ := h.row hi
  rw [Nat.zero_add]
  exact ⟨_, h1, h2⟩

theorem Tbl.blk {w : World} {g m c : Nat} {q : Nat → Prop} {M : Nat → Nat → Rat} (h : Tbl w g q m c M) : ∃ cs : List Value, Blk w g 49 cs ∧ ∀ u ∈ cs, IsSl u := by
  obtain ⟨us, sp, h1, h2, -⟩ := h
  exact ⟨_, h1, h2⟩
theorem Tbl.swap {w : World} {g m c : Nat} {q : Nat → Prop} {M : Mat} (h : Tbl w g q m c M) {i r : Nat} (hi : i < m) (hr : r < m) {u v : Value} (hu : SlQ w u c (M i)) (hv : SlQ w v c (M r)) (ou : Off q c u) (ov : Off q c v) :
    Tbl ((w.setCell ⟨g, i, none⟩ v).setCell ⟨g, r, none⟩ u) g q m c (swapped M r i) := by
  obtain ⟨cs, hb, hs⟩ := h.blk
  have h1 := h.put hi hv ov
  have hu2 : SlQ (w.setCell ⟨g, i, none⟩ v) u c (M i) := hu.ks hb hs (fun p hp => World.cell?_setCell_other _ _ _ _ (fun e => hp (by rw [← e])))
  have h2 := h1.put hr hu2 ou
  refine h2.congr (fun t ht j hj => ?_)
  unfold swapped
  by_cases e : t = r
  · subst e; simp
  · by_cases e2 : t = i
    · subst e2; simp [e]
    · simp [e, e2]

/-- A list of numbers as cells. -/
def pivs (l : List Nat) : List Value := nums .i64 (l.map fun x : Nat => (x : Int))
abbrev zq : List Value := [.bool false, .slice none 0 0, .bool false, .slice none 0 0]
/-- What lies beside the table: the determinant of the steps, the place of the result, the pivots. -/
structure Oth (w wr : World) (q : Nat) (d : QV) (x : Rat) (P : Value) (l : List Nat) : Prop where
  b9 : Blk wr q 71 (qvc d)
  rd : RatR wr d x
  b6 : Blk wr w.heap.size 71 zq
  pv : OwnC IsI64 wr w.heap.size 3 1 P l.length (pivs l)
  x : X w wr
theorem Oth.go {w wr wr' : World} {q : Nat} {d : QV} {x : Rat} {P : Value} {l : List Nat} (h : Oth w wr q d x P l) (hx : X wr wr') : Oth w wr' q d x P l :=
  ⟨h.b9.x hx, h.rd.x hx, h.b6.x hx, h.pv.x hx, h.x.trans hx⟩
theorem blk_ne {w : World} {g g' : Nat} {e e' : TypeId} {cs cs' : List Value} (h : Blk w g e cs) (h' : Blk w g' e' cs') (he : e ≠ e') : g ≠ g' := by
  intro e
  subst e
  unfold Blk at h h'
  rw [h] at h'
  injection h' with h'
  injection h' with _ h'
  exact he h'
theorem sl_noint {cs : List Value} (h : ∀ u ∈ cs, IsSl u) : NoInt cs := fun v hv k x e => by
  obtain ⟨A, n, c, e'⟩ := h v hv
  rw [e'] at e; cases e
theorem Oth.put {w wr : World} {q g m c : Nat} {G : Nat → Prop} {d : QV} {x : Rat} {P : Value} {l : List Nat} {M : Nat → Nat → Rat} (h : Oth w wr q d x P l) (hT : Tbl wr g G m c M) (hg : w.heap.size ≤ g) (j : Nat) (u : Value) : Oth w (wr.setCell ⟨g, j, none⟩ u) q d x P l := by
  obtain ⟨cs, hb, hs⟩ := hT.blk
  exact ⟨h.b9.other (p := ⟨g, j, none⟩) (blk_ne hb h.b9 (by decide)) u, h.rd.put hb (sl_noint hs) j u, h.b6.other (p := ⟨g, j, none⟩) (blk_ne hb h.b6 (by decide)) u, h.pv.put (h.pv.type hb (by decide)) j u, h.x.set (p := ⟨g, j, none⟩) hg u⟩
theorem Oth.det {w wr : World} {q : Nat} {d r : QV} {x y : Rat} {P : Value} {l : List Nat} (h : Oth w wr q d x P l) (hq : w.heap.size < q) (hr : RatR wr r y) : Oth w (put4 wr q r) q r y P l :=
  ⟨h.b9.put4 r, hr.put4 h.b9 r, h.b6.q4o (by omega) r, (((h.pv.put (h.pv.type h.b9 (by decide)) _ _).put (h.pv.type h.b9 (by decide)) _ _).put (h.pv.type h.b9 (by decide)) _ _).put (h.pv.type h.b9 (by decide)) _ _, h.x.put4 (by omega) r⟩
theorem Tbl.det {w : World} {g m c : Nat} {q : Nat → Prop} {M : Nat → Nat → Rat} (h : Tbl w g q m c M) {p : Nat} (hp : q p) {d : QV} (hb : Blk w p 71 (qvc d)) (r : QV) : Tbl (put4 w p r) g q m c M := by
  have n0 := noint_qvc d
  have b1 := hb.set 0 (.bool r.s)
  have n1 := n0.set 0 (v := .bool r.s) (by simp)
  have b2 := b1.set 1 (.slice r.A r.n r.c)
  have n2 := n1.set 1 (v := .slice r.A r.n r.c) (by simp)
  have b3 := b2.set 2 (.bool r.t)
  have n3 := n2.set 2 (v := .bool r.t) (by simp)
  exact (((h.aside hp hb n0 0 _).aside hp b1 n1 1 _).aside hp b2 n2 2 _).aside hp b3 n3 3 _

theorem Oth.app {w wr w' : World} {q : Nat} {d : QV} {x : Rat} {P P' : Value} {l : List Nat} {k : Nat} (h : Oth w wr q d x P l) (ho : OwnC IsI64 w' w.heap.size 3 1 P' (l.length + 1) (pivs l ++ [.int .i64 k])) (hX : X w w') (hk : ∀ b, b < wr.heap.size → P.ownBlock ≠ some b → w'.heap[b]? = wr.heap[b]?) : Oth w w' q d x P' (l ++ [k]) := by
  refine ⟨?_, h.rd.kp (h.pv.kp hk) ni64_u32, ?_, ?_, hX⟩
  · unfold Blk; rw [hk q h.b9.lt (h.pv.type h.b9 (by decide))]; exact h.b9
  · unfold Blk; rw [hk w.heap.size h.b6.lt (h.pv.type h.b6 (by decide))]; exact h.b6
  · have e : pivs (l ++ [k]) = pivs l ++ [.int .i64 k] := by simp [pivs, nums]
    rw [e, List.length_append]
    exact ho
theorem Tbl.app {w wr w' : World} {g q m c : Nat} {G : Nat → Prop} {d : QV} {x : Rat} {P : Value} {l : List Nat} {M : Nat → Nat → Rat} (hT : Tbl wr g G m c M) (h : Oth w wr q d x P l) (hk : ∀ b, b < wr.heap.size → P.ownBlock ≠ some b → w'.heap[b]? = wr.heap[b]?) : Tbl w' g G m c M := by
  obtain ⟨cs, hb, hs⟩ := hT.blk
  exact hT.ki (h.pv.kp hk) (hk g hb.lt (h.pv.type hb (by decide)))

theorem findRow_none_of {M : Mat} {k : Nat} : ∀ {d i : Nat}, (∀ t, i ≤ t → t < i + d → M t k = 0) → findRow M k d i = none
  | 0, _, _ => rfl
  | d + 1, i, h => by
    unfold findRow
    rw [if_pos (h i (Nat.le_refl _) (by omega))]
    exact findRow_none_of (fun t h1 h2 => h t (by omega) (by omega))
theorem findRow_some_of {M : Mat} {k j : Nat} (hj : M j k ≠ 0) : ∀ {d i : Nat}, i ≤ j → j < i + d → (∀ t, i ≤ t → t < j → M t k = 0) → findRow M k d i = some j
  | 0, i, h1, h2, _ => by omega
  | d + 1, i, h1, h2, h => by
    unfold findRow
    by_cases e : i = j
    · subst e; rw [if_neg hj]
    · rw [if_pos (h i (Nat.le_refl _) (by omega))]
      exact findRow_some_of hj (by omega) (by omega) (fun t h3 h4 => h t (by omega) h4)
theorem swapped_self (M : Mat) (a : Nat) : swapped M a a = M := by
  funext i
  unfold swapped
  split
  · rename_i h; rw [h]
  · rfl

/-- Sizes. -/
def TSz (M : Nat → Nat → Rat) (m c k : Nat) : Prop := ∀ i, i < m → ∀ j, j < c → RSz (M i j) k
theorem RSz.one {k : Nat} (hk : 0 < k) : RSz 1 k := by
  have h := pw_mono B32_one (show 1 ≤ k from hk)
  have e : pw B32 1 = 4294967296 := by decide
  constructor
  · show ((1 : Int).natAbs : Int) < _; simp; omega
  · show ((1 : Nat) : Int) < _; simp; omega
theorem RSz.zero {k : Nat} (hk : 0 < k) : RSz 0 k := by
  have h := pw_mono B32_one (show 1 ≤ k from hk)
  have e : pw B32 1 = 4294967296 := by decide
  constructor
  · show ((0 : Int).natAbs : Int) < _; simp; omega
  · show ((1 : Nat) : Int) < _; simp; omega
theorem tsz_swapped {M : Mat} {m c k a b : Nat} (h : TSz M m c k) (ha : a < m) (hb : b < m) : TSz (swapped M a b) m c k := fun i hi j hj => by
  unfold swapped
  split
  · exact h b hb j hj
  · split
    · exact h a ha j hj
    · exact h i hi j hj
theorem tsz_scaled {M : Mat} {m c k r q : Nat} (h : TSz M m c k) (hr : r < m) (hq : q < c) (h0 : M r q ≠ 0) : TSz (scaled M r (M r q)) m c (2 * k) := fun i hi j hj => by
  unfold scaled
  split
  · exact ((h r hr j hj).div (h r hr q hq) h0).mono (by omega)
  · exact (h i hi j hj).mono (by omega)
theorem steps_size {M : Mat} {m c b : Nat} (hb : 0 < b) (h : TSz M m c b) : ∀ k, k ≤ c → TSz (steps m M k).M m c (5 ^ (steps m M k).piv.length * b) ∧ RSz (steps m M k).det (5 ^ (steps m M k).piv.length * b) ∧ (steps m M k).piv.length ≤ m
  | 0, _ => by
    refine ⟨?_, ?_, Nat.zero_le _⟩
    · show TSz M m c (5 ^ 0 * b)
      simpa using h
    · exact RSz.one (by show 0 < 5 ^ 0 * b; omega)
  | k + 1, hk => by
    obtain ⟨h1, h2, h3⟩ := steps_size hb h k (by omega)
    obtain ⟨s, hs⟩ : ∃ s, s = steps m M k := ⟨_, rfl⟩
    rw [← hs] at h1 h2 h3
    rw [show steps m M (k + 1) = DLin.step m s k by rw [hs]; rfl]
    obtain ⟨S, hS⟩ : ∃ S, S = 5 ^ s.piv.length * b := ⟨_, rfl⟩
    have hS0 : 0 < S := by rw [hS]; exact Nat.mul_pos (Nat.pow_pos (by omega)) hb
    rw [← hS] at h1 h2
    cases hf : findRow s.M k (m - s.piv.length) s.piv.length with
    | none =>
      rw [step_none hf, ← hS]
      exact ⟨h1, h2, h3⟩
    | some i =>
      rw [step_some hf]
      obtain ⟨i1, i2, i3, i4⟩ := findRow_some hf
      have hrm : s.piv.length < m := by omega
      have him : i < m := by omega
      have hl : (s.piv ++ [k]).length = s.piv.length + 1 := by simp
      have hS5 : 5 ^ (s.piv.length + 1) * b = 5 * S := by rw [hS, Nat.pow_succ]; simp only [Nat.mul_comm, Nat.mul_assoc, Nat.mul_left_comm]
      have hsw := tsz_swapped h1 hrm him
      have hpk : swapped s.M s.piv.length i s.piv.length k = s.M i k := by simp [swapped]
      have hne : swapped s.M s.piv.length i s.piv.length k ≠ 0 := by rw [hpk]; exact i3
      have hsc := tsz_scaled hsw hrm (show k < c by omega) hne
      refine ⟨?_, ?_, by rw [hl]; omega⟩
      · rw [hl, hS5]
        intro t ht j hj
        show RSz (cleared _ _ _ t j) _
        unfold cleared
        split
        · exact (hsc _ hrm j hj).mono (by omega)
        · rename_i e
          have e1 : scaled (swapped s.M s.piv.length i) s.piv.length (swapped s.M s.piv.length i s.piv.length k) t j = swapped s.M s.piv.length i t j := by simp [scaled, e]
          have e2 : scaled (swapped s.M s.piv.length i) s.piv.length (swapped s.M s.piv.length i s.piv.length k) t k = swapped s.M s.piv.length i t k := by simp [scaled, e]
          rw [e1, e2]
          exact ((hsw t ht j hj).sub ((hsw t ht k (by omega)).mul (hsc _ hrm j hj))).mono (by omega)
      · rw [hl, hS5]
        show RSz ((if i = s.piv.length then s.det else - s.det) * _) _
        split
        · exact (h2.mul (hsw _ hrm k (by omega))).mono (by omega)
        · exact (h2.neg.mul (hsw _ hrm k (by omega))).mono (by omega)
theorem steps_full {M : Mat} {m : Nat} : ∀ {k : Nat}, (steps m M k).piv.length = m → ∀ d, steps m M (k + d) = steps m M k
  | k, h, 0 => rfl
  | k, h, d + 1 => by
    have ih := steps_full h d
    show DLin.step m (steps m M (k + d)) (k + d) = _
    rw [ih]
    unfold DLin.step
    rw [h, Nat.sub_self]
    rfl
end Go.Proofs.YtogakaiibijjpaaGreatDoor

/- The reference's tables: rows of the call's own. -/
set_option linter.unusedVariables false
set_option linter.unusedSimpArgs false
namespace Go.Proofs.YtogakaiibijjpaaGreatDoor
open Go.RowKit
open DDig DLin

/-- Cells of fractions. -/
def FCs (cs : List Value) (c : Nat) (f : Nat → Rat) : Prop := ∀ j, j < c → ∃ a : FV, cs[j * 2]? = some (.string a.p) ∧ cs[j * 2 + 1]? = some (.string a.q) ∧ FR a (f j)
theorem FCs.put {cs : List Value} {c : Nat} {f : Nat → Rat} (h : FCs cs c f) {j : Nat} (hj : j < c) {r : FV} {y : Rat} (hr : FR r y) : FCs ((cs.set (j * 2) (.string r.p)).set (j * 2 + 1) (.string r.q)) c (fun t => if t = j then y else f t) := fun t ht => by
  have hl : j * 2 + 1 < cs.length := by
    obtain ⟨a, _, h2, _⟩ := h j hj
    exact (List.getElem?_eq_some_iff.1 h2).1
  by_cases e : t = j
  · subst e
    refine ⟨r, ?_, ?_, by show FR r (if t = t then y else f t); rw [if_pos rfl]; exact hr⟩
    · rw [List.getElem?_set_ne (by omega), List.getElem?_set_self (by omega)]
    · rw [List.getElem?_set_self (by simp; omega)]
  · obtain ⟨a, h1, h2, h3⟩ := h t ht
    refine ⟨a, ?_, ?_, by show FR a (if t = j then y else f t); rw [if_neg e]; exact h3⟩
    · rw [List.getElem?_set_ne (by omega), List.getElem?_set_ne (by omega)]; exact h1
    · rw [List.getElem?_set_ne (by omega), List.getElem?_set_ne (by omega)]; exact h2

/-- Rows of blocks of the call's own, each its own. -/
def RowsO (w : World) (base : Nat) (us : List Value) (m c : Nat) (R : Nat → Nat → Rat) : Prop :=
  us.length = m ∧ ∃ bs caps : Nat → Nat, (∀ i, i < m → us[i]? = some (.slice (some ⟨bs i, 0, none⟩) c (caps i)) ∧ c ≤ caps i ∧ base ≤ bs i ∧ ∃ cs : List Value, Blk w (bs i) 84 cs ∧ FCs cs c (R i)) ∧ ∀ i j, i < m → j < m → bs i = bs j → i = j
theorem RowsO.heap {w w' : World} {base m c : Nat} {us : List Value} {R : Nat → Nat → Rat} (h : RowsO w base us m c R) (hk : ∀ b cs, Blk w b 84 cs → w'.heap[b]? = w.heap[b]?) : RowsO w' base us m c R := by
  obtain ⟨h1, bs, caps, h2, h3⟩ := h
  refine ⟨h1, bs, caps, fun i hi => ?_, h3⟩
  obtain ⟨g1, g2, g3, cs, g4, g5⟩ := h2 i hi
  exact ⟨g1, g2, g3, cs, by unfold Blk; rw [hk _ _ g4]; exact g4, g5⟩
theorem RowsO.x {w w' : World} {base m c : Nat} {us : List Value} {R : Nat → Nat → Rat} (h : RowsO w base us m c R) (hx : X w w') : RowsO w' base us m c R :=
  h.heap fun b cs hb => hx.block b hb.lt
theorem RowsO.nil (w : World) (base c : Nat) (R : Nat → Nat → Rat) : RowsO w base [] 0 c R := ⟨rfl, fun _ => 0, fun _ => 0, fun i hi => by omega, fun i j hi => by omega⟩
theorem RowsO.snoc {w : World} {base m c b cap n0 : Nat} {us : List Value} {R : Nat → Nat → Rat} (h : RowsO w base us m c R) {cs : List Value} (hb : Blk w b 84 cs) (hf : FCs cs c (R m)) (hc : c ≤ cap) (hn : base ≤ n0) (hbn : n0 ≤ b) (hlt : ∀ (k : Nat) (v : Value), us[k]? = some v → ∀ (ad : Addr) (n d : Nat), v = Value.slice (some ad) n d → ad.block < n0) : RowsO w base (us ++ [.slice (some ⟨b, 0, none⟩) c cap]) (m + 1) c R := by
  obtain ⟨h1, bs, caps, h2, h3⟩ := h
  have hl : ∀ i, i < m → bs i < n0 := fun i hi => hlt i _ (h2 i hi).1 _ _ _ rfl
  refine ⟨by simp [h1], fun i => if i = m then b else bs i, fun i => if i = m then cap else caps i, fun i hi => ?_, fun i j hi hj e => ?_⟩
  · show (us ++ _)[i]? = some (.slice (some ⟨if i = m then b else bs i, 0, none⟩) c (if i = m then cap else caps i)) ∧ c ≤ (if i = m then cap else caps i) ∧ base ≤ (if i = m then b else bs i) ∧ ∃ cs : List Value, Blk w (if i = m then b else bs i) _ cs ∧ FCs cs c (R i)
    by_cases e : i = m
    · simp only [if_pos e]
      refine ⟨by rw [e, ← h1]; simp, hc, by omega, cs, hb, by rw [e]; exact hf⟩
    · simp only [if_neg e]
      obtain ⟨g1, g2, g3, g4⟩ := h2 i (by omega)
      exact ⟨by rw [List.getElem?_append_left (by omega)]; exact g1, g2, g3, g4⟩
  · by_cases e1 : i = m <;> by_cases e2 : j = m <;> simp only [e1, e2, if_true, if_false] at e
    · omega
    · have := hl j (by omega); omega
    · have := hl i (by omega); omega
    · exact h3 i j (by omega) (by omega) e

/-- A table of the call's own. -/
def Low (us : List Value) (top : Nat) : Prop := ∀ u ∈ us, ∀ (ad : Addr) (n d : Nat), u = Value.slice (some ad) n d → ad.block < top
def TabR (w : World) (base top g m c : Nat) (R : Nat → Nat → Rat) : Prop := base ≤ g ∧ ∃ us sp : List Value, Blk w g 51 (us ++ sp) ∧ RowsO w base us m c R ∧ Low us top
theorem RowsO.low {w : World} {base m c : Nat} {us : List Value} {R : Nat → Nat → Rat} (h : RowsO w base us m c R) : Low us w.heap.size := fun u hu ad n d e => by
  obtain ⟨h1, bs, caps, h2, h3⟩ := h
  obtain ⟨k, hk, rfl⟩ := List.getElem_of_mem hu
  obtain ⟨g1, g2, g3, cs, g4, g5⟩ := h2 k (by omega)
  rw [List.getElem?_eq_getElem hk, e] at g1
  injection g1 with g1
  injection g1 with g1
  injection g1 with g1
  rw [g1]; exact g4.lt
theorem TabR.heap {w w' : World} {base top g m c : Nat} {R : Nat → Nat → Rat} (h : TabR w base top g m c R) (hk : ∀ b cs, Blk w b 84 cs ∨ Blk w b 51 cs → w'.heap[b]? = w.heap[b]?) : TabR w' base top g m c R := by
  obtain ⟨h0, us, sp, h1, h2, hL⟩ := h
  exact ⟨h0, us, sp, by unfold Blk; rw [hk _ _ (Or.inr h1)]; exact h1, h2.heap fun b cs hb => hk b cs (Or.inl hb), hL⟩
theorem TabR.x {w w' : World} {base top g m c : Nat} {R : Nat → Nat → Rat} (h : TabR w base top g m c R) (hx : X w w') : TabR w' base top g m c R :=
  h.heap fun b cs hb => hx.block b (hb.elim Blk.lt Blk.lt)
theorem TabR.retop {w : World} {base top g m c : Nat} {R : Nat → Nat → Rat} (h : TabR w base top g m c R) : TabR w base w.heap.size g m c R := by
  obtain ⟨h0, us, sp, h1, h2, hL⟩ := h
  exact ⟨h0, us, sp, h1, h2, h2.low⟩
theorem TabR.row {w : World} {base top g m c : Nat} {R : Nat → Nat → Rat} (h : TabR w base top g m c R) {i : Nat} (hi : i < m) :
    ∃ (b cap : Nat) (cs : List Value), w.cell? ⟨g, i, none⟩ = some (.slice (some ⟨b, 0, none⟩) c cap) ∧ c ≤ cap ∧ (base ≤ b ∧ b < top) ∧ w.frozen? ⟨g, i, none⟩ = false ∧ Blk w b 84 cs ∧ FCs cs c (R i) := by
  obtain ⟨h0, us, sp, h1, ⟨h2, bs, caps, h3, h4⟩, hL⟩ := h
  obtain ⟨g1, g2, g3, cs, g4, g5⟩ := h3 i hi
  exact ⟨bs i, caps i, cs, h1.cell (app_get g1), g2, ⟨g3, hL _ (List.mem_of_getElem? g1) _ _ _ rfl⟩, h1.frozen i, g4, g5⟩
theorem Blk.same {w : World} {b : Nat} {e e' : TypeId} {cs cs' : List Value} (h : Blk w b e cs) (h' : Blk w b e' cs') : e = e' ∧ cs = cs' := by
  unfold Blk at h h'
  rw [h] at h'
  injection h' with h'
  injection h' with h1 h2
  exact ⟨h2, by simpa using h1⟩
theorem TabR.put {w : World} {base top g m c : Nat} {R : Nat → Nat → Rat} (h : TabR w base top g m c R) {i j : Nat} (hi : i < m) (hj : j < c) {b cap : Nat} (hc : w.cell? ⟨g, i, none⟩ = some (.slice (some ⟨b, 0, none⟩) c cap)) {r : FV} {y : Rat} (hr : FR r y) :
    TabR ((w.setCell ⟨b, j * 2, none⟩ (.string r.p)).setCell ⟨b, j * 2 + 1, none⟩ (.string r.q)) base top g m c (fun s t => if s = i ∧ t = j then y else R s t) := by
  obtain ⟨h0, us, sp, h1, ⟨h2, bs, caps, h3, h4⟩, hL⟩ := h
  obtain ⟨g1, g2, g3, cs, g4, g5⟩ := h3 i hi
  have e := h1.cell (app_get g1)
  rw [hc] at e
  injection e with e; injection e with e _ e2
  injection e with e; injection e with e
  subst e e2
  have hne : bs i ≠ g := fun e => by
    rw [e] at g4
    exact absurd (g4.same h1).1 (by decide)
  have hg' := (h1.other (p := ⟨bs i, j * 2, none⟩) hne (.string r.p)).other (p := ⟨bs i, j * 2 + 1, none⟩) hne (.string r.q)
  refine ⟨h0, us, sp, hg', ⟨h2, bs, caps, fun t ht => ?_, h4⟩, hL⟩
  by_cases e : t = i
  · subst e
    refine ⟨g1, g2, g3, _, (g4.set (j * 2) (.string r.p)).set (j * 2 + 1) (.string r.q), ?_⟩
    have k1 := g5.put hj hr
    intro s hs
    obtain ⟨a, a1, a2, a3⟩ := k1 s hs
    refine ⟨a, a1, a2, ?_⟩
    show FR a (if t = t ∧ s = j then y else R t s)
    have e1 : (if t = t ∧ s = j then y else R t s) = (if s = j then y else R t s) := by simp
    rw [e1]; exact a3
  · obtain ⟨k1, k2, k3, cs', k4, k5⟩ := h3 t ht
    have hn : bs i ≠ bs t := fun h => e (h4 t i ht hi h.symm)
    refine ⟨k1, k2, k3, cs', (k4.other (p := ⟨bs i, j * 2, none⟩) hn _).other (p := ⟨bs i, j * 2 + 1, none⟩) hn _, fun s hs => ?_⟩
    obtain ⟨a, a1, a2, a3⟩ := k5 s hs
    refine ⟨a, a1, a2, ?_⟩
    show FR a (if t = i ∧ s = j then y else R t s)
    rw [if_neg (fun h => e h.1)]; exact a3
theorem TabR.swap {w : World} {base top g m c : Nat} {R : Nat → Nat → Rat} (h : TabR w base top g m c R) {i r : Nat} (hi : i < m) (hr : r < m) {u v : Value} (hu : w.cell? ⟨g, i, none⟩ = some u) (hv : w.cell? ⟨g, r, none⟩ = some v) :
    TabR ((w.setCell ⟨g, i, none⟩ v).setCell ⟨g, r, none⟩ u) base top g m c (swapped R i r) := by
  obtain ⟨h0, us, sp, h1, ⟨h2, bs, caps, h3, h4⟩, hL⟩ := h
  have eu : us[i]? = some u := by
    have e := h1.cell (app_get (h3 i hi).1)
    rw [hu] at e
    injection e with e
    rw [e]; exact (h3 i hi).1
  have ev : us[r]? = some v := by
    have e := h1.cell (app_get (h3 r hr).1)
    rw [hv] at e
    injection e with e
    rw [e]; exact (h3 r hr).1
  have hb := (h1.set i v).set r u
  rw [List.set_append_left _ _ (by omega), List.set_append_left _ _ (by simp; omega)] at hb
  have hp : ∀ t, (if t = i then r else if t = r then i else t) < m ↔ t < m := fun t => by
    by_cases e1 : t = i
    · simp [e1, hi, hr]
    · by_cases e2 : t = r
      · subst e2; simp [e1, hi, hr]
      · simp [e1, e2]
  have hL2 : Low ((us.set i v).set r u) top := fun x hx => by
    rcases List.mem_or_eq_of_mem_set hx with hx | rfl
    · rcases List.mem_or_eq_of_mem_set hx with hx | rfl
      · exact hL x hx
      · exact hL _ (List.mem_of_getElem? ev)
    · exact hL _ (List.mem_of_getElem? eu)
  refine ⟨h0, (us.set i v).set r u, sp, hb, ⟨by simpa using h2, fun t => bs (if t = i then r else if t = r then i else t), fun t => caps (if t = i then r else if t = r then i else t), fun t ht => ?_, fun s t hs ht e => ?_⟩, hL2⟩
  · obtain ⟨g1, g2, g3, cs, g4, g5⟩ := h3 (if t = i then r else if t = r then i else t) ((hp t).2 ht)
    have hne : ∀ b cs, Blk w b 84 cs → g ≠ b := fun b cs hb e => by
      rw [← e] at hb
      exact absurd (hb.same h1).1 (by decide)
    refine ⟨?_, g2, g3, cs, (g4.other (p := ⟨g, i, none⟩) (hne _ _ g4) v).other (p := ⟨g, r, none⟩) (hne _ _ g4) u, ?_⟩
    · rw [← g1]
      by_cases e1 : t = i
      · subst e1
        rw [if_pos rfl]
        by_cases e2 : t = r
        · subst e2
          rw [List.getElem?_set_self (by simp; omega), eu]
        · rw [List.getElem?_set_ne (fun h => e2 h.symm), List.getElem?_set_self (by omega), ev]
      · rw [if_neg e1]
        by_cases e2 : t = r
        · subst e2
          rw [if_pos rfl, List.getElem?_set_self (by simp; omega), eu]
        · rw [if_neg e2, List.getElem?_set_ne (fun h => e2 h.symm), List.getElem?_set_ne (fun h => e1 h.symm)]
    · have e : swapped R i r t = R (if t = i then r else if t = r then i else t) := by
        unfold swapped
        by_cases e1 : t = i
        · rw [if_pos e1, if_pos e1]
        · rw [if_neg e1, if_neg e1]
          by_cases e2 : t = r
          · rw [if_pos e2, if_pos e2]
          · rw [if_neg e2, if_neg e2]
      rw [e]; exact g5
  · have h5 := h4 _ _ ((hp s).2 hs) ((hp t).2 ht) e
    by_cases e1 : s = i
    · by_cases e2 : t = i
      · omega
      · rw [if_pos e1, if_neg e2] at h5
        by_cases e4 : t = r
        · rw [if_pos e4] at h5; omega
        · rw [if_neg e4] at h5; omega
    · rw [if_neg e1] at h5
      by_cases e2 : t = i
      · rw [if_pos e2] at h5
        by_cases e3 : s = r
        · rw [if_pos e3] at h5; omega
        · rw [if_neg e3] at h5; omega
      · rw [if_neg e2] at h5
        by_cases e3 : s = r
        · rw [if_pos e3] at h5
          by_cases e4 : t = r
          · omega
          · rw [if_neg e4] at h5; omega
        · rw [if_neg e3] at h5
          by_cases e4 : t = r
          · rw [if_pos e4] at h5; omega
          · rw [if_neg e4] at h5; omega
theorem TabR.read {w : World} {base top g m c p cap : Nat} {R : Nat → Nat → Rat} (h : TabR w base top g m c R) (hp : p ≤ m) (hc : p ≤ cap) : MatF w (.slice (some ⟨g, 0, none⟩) p cap) p c R := by
  refine ⟨_, _, rfl, hc, by simp, fun h0 => ⟨g, 0, rfl, fun i hi => ?_⟩⟩
  obtain ⟨b, k, cs, h1, h2, h3, h4, h5, h6⟩ := h.row (i := i) (by omega)
  rw [Nat.zero_add]
  refine ⟨_, h1, _, _, rfl, h2, by simp, fun _ => ⟨b, 0, rfl, fun j hj => ?_⟩⟩
  obtain ⟨a, a1, a2, a3⟩ := h6 j hj
  simp only [Nat.zero_add]
  exact ⟨a, h5.cell a1, h5.cell a2, a3⟩
theorem TabR.congr {w : World} {base top g m c : Nat} {R S : Nat → Nat → Rat} (h : TabR w base top g m c R) (e : ∀ i, i < m → ∀ j, j < c → R i j = S i j) : TabR w base top g m c S := by
  obtain ⟨h0, us, sp, h1, ⟨h2, bs, caps, h3, h4⟩, hL⟩ := h
  refine ⟨h0, us, sp, h1, ⟨h2, bs, caps, fun i hi => ?_, h4⟩, hL⟩
  obtain ⟨g1, g2, g3, cs, g4, g5⟩ := h3 i hi
  exact ⟨g1, g2, g3, cs, g4, fun j hj => by rw [← e i hi j hj]; exact g5 j hj⟩
end Go.Proofs.YtogakaiibijjpaaGreatDoor
