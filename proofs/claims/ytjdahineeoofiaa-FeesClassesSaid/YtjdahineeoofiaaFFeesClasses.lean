/- The functions that the law FeesClasses of this seat reaches: what each comes to, as a plain function, and that its code comes to it. Conditions: the plain function gives a value (enough fuel, no panic). -/
import Derived.Test.YtjdahineeoofiaaChecked
import Derived.Test.YtjdahineeoofiaaG
set_option linter.unusedVariables false
set_option linter.unusedSimpArgs false
namespace Go.Proofs.Ytjdahineeoofiaa.G
open Go Go.RowKit Go.Proofs
def pA24i64 : Pl (Vector Int 24) := Pl.vec 24 .i64 (by decide)
theorem eq_A24i64 : EqOk Try.prog 49 pA24i64 2 := fun d x y w => eq_vec (by decide) d Try.underlying49 Try.isAgg3 Try.underlying3 (by kernel_rfl) (by kernel_rfl) x y w
theorem zero49 : ∀ w, (zeroValue 49).run Try.prog w = .ok (.agg (pA24i64.enc (Vector.replicate 24 0 : Vector Int 24)).toArray) w := run_zero (by kernel_rfl)
theorem elt24 : Elt Try.prog (Pl.int .i64) 24 3 (.int .i64 (0 : Int)) 8 := ⟨Try.underlying24, by kernel_rfl, by first | rfl | simp [Value.cells, Pl.len], by decide⟩
def fees_Rate.f (k : Nat) (fee_0 : Int) (weight_1 : Int) : Option Int := (Option.bind (α := Bool) (if (decide (fee_0 < 0)) = true then (some true) else (if (decide (fee_0 > 2100000000000000)) = true then (some true) else (if (decide (weight_1 < 1)) = true then (some true) else (some (decide (weight_1 > 80000)))))) (fun t4 => (if t4 = true then (some 0) else (if ¬ weight_1 = 0 then (some (if 1048576 < IntKind.i64.wrap ((IntKind.i64.wrap (1000 * fee_0)).tdiv weight_1) then 1048576 else IntKind.i64.wrap ((IntKind.i64.wrap (1000 * fee_0)).tdiv weight_1))) else none))))
theorem fees_Rate.calls (k : Nat) (fee_0 : Int) (weight_1 : Int)  (r : Int) (w0 : World)  (H : fees_Rate.f k fee_0 weight_1 = some r) :
    Calls Try.prog 8 #[(.int .i64 fee_0), (.int .i64 weight_1)] w0 fun e w' => ∃ v, e = .returned v ∧ v = (.int .i64 r) ∧ Below w0.heap.size w0 w' := by
  unfold fees_Rate.f at H
  have hB0 := Below.refl w0.heap.size w0
  refine enterL (n := 24) [(.int .i64 fee_0), (.int .i64 weight_1)] Try.func8 rfl rfl rfl ?_
  intro a hA
  refine wp_seq ?_
  refine wp_region_lit ?_
  refine L1 (stv hA (by decide) (run_assign (hA.ev rfl)) ?_); intro a hA
  refine LQ ?_
  refine TN ?_
  refine wp_seq ?_
  refine wp_seq ?_
  obtain ⟨o6, H5, H⟩ := Option.bind_eq_some_iff.1 H
  refine cutC (fun a w => ∃ (t4 : Bool), t4 = o6 ∧ w0 = w ∧ Has 24 [(0, (.int .i64 fee_0)), (1, (.int .i64 weight_1)), (18, (.bool t4))] a) ?_ ?_
  · refine wp_region_lit ?_
    refine L1 (stv hA (by decide) (run_move (hA.ev rfl)) ?_); intro a hA
    refine L1 (stv hA (by decide) (run_bin (hA.ev rfl) (hA.ev rfl) (bin_lss _ _ _ _)) ?_); intro a hA
    refine L1 (stv hA (by decide) (run_move (hA.ev rfl)) ?_); intro a hA
    refine bsplit (b := (decide (fee_0 < 0))) (fun hb7 => ?_) (fun hb7 => ?_)
    · replace H5 := ite_t hb7 H5
      have hA := hA.re (t := 7) rfl (congrArg Value.bool hb7)
      refine L1 (gate_off rfl (by decide) rfl hA (by decide) rfl rfl ?_); intro a hA
      refine L1 (gate_off rfl (by decide) rfl hA (by decide) rfl rfl ?_); intro a hA
      refine L1 (stv hA (by decide) (run_pick (hA.ev rfl) (fun _ => hA.ev rfl) (fun h => Bool.noConfusion h)) ?_); intro a hA
      refine L1 (stv hA (by decide) (run_move (hA.ev rfl)) ?_); intro a hA
      refine L1 (gate_off rfl (by decide) rfl hA (by decide) rfl rfl ?_); intro a hA
      refine L1 (gate_off rfl (by decide) rfl hA (by decide) rfl rfl ?_); intro a hA
      refine L1 (stv hA (by decide) (run_pick (hA.ev rfl) (fun _ => hA.ev rfl) (fun h => Bool.noConfusion h)) ?_); intro a hA
      refine L1 (stv hA (by decide) (run_move (hA.ev rfl)) ?_); intro a hA
      refine L1 (gate_off rfl (by decide) rfl hA (by decide) rfl rfl ?_); intro a hA
      refine L1 (gate_off rfl (by decide) rfl hA (by decide) rfl rfl ?_); intro a hA
      refine L1 (stv hA (by decide) (run_pick (hA.ev rfl) (fun _ => hA.ev rfl) (fun h => Bool.noConfusion h)) ?_); intro a hA
      refine LQ ?_
      exact ⟨true, Option.some.inj H5, rfl, (((hA.nil.cons (hA.get 18 _ rfl)).cons (hA.get 1 _ rfl)).cons (hA.get 0 _ rfl))⟩
    · replace H5 := ite_f hb7 H5
      have hA := hA.re (t := 7) rfl (congrArg Value.bool hb7)
      refine L1 (gate_on rfl rfl hA (by decide) rfl (stv hA (by decide) (run_move (hA.ev rfl)) ?_)); intro a hA
      refine L1 (gate_on rfl rfl hA (by decide) rfl (stv hA (by decide) (run_bin (hA.ev rfl) (hA.ev rfl) (bin_gtr _ _ _ _)) ?_)); intro a hA
      refine L1 (stv hA (by decide) (run_pick (hA.ev rfl) (fun h => Bool.noConfusion h) (fun _ => hA.ev rfl)) ?_); intro a hA
      refine L1 (stv hA (by decide) (run_move (hA.ev rfl)) ?_); intro a hA
      refine bsplit (b := (decide (fee_0 > 2100000000000000))) (fun hb8 => ?_) (fun hb8 => ?_)
      · replace H5 := ite_t hb8 H5
        have hA := hA.re (t := 11) rfl (congrArg Value.bool hb8)
        refine L1 (gate_off rfl (by decide) rfl hA (by decide) rfl rfl ?_); intro a hA
        refine L1 (gate_off rfl (by decide) rfl hA (by decide) rfl rfl ?_); intro a hA
        refine L1 (stv hA (by decide) (run_pick (hA.ev rfl) (fun _ => hA.ev rfl) (fun h => Bool.noConfusion h)) ?_); intro a hA
        refine L1 (stv hA (by decide) (run_move (hA.ev rfl)) ?_); intro a hA
        refine L1 (gate_off rfl (by decide) rfl hA (by decide) rfl rfl ?_); intro a hA
        refine L1 (gate_off rfl (by decide) rfl hA (by decide) rfl rfl ?_); intro a hA
        refine L1 (stv hA (by decide) (run_pick (hA.ev rfl) (fun _ => hA.ev rfl) (fun h => Bool.noConfusion h)) ?_); intro a hA
        refine LQ ?_
        exact ⟨true, Option.some.inj H5, rfl, (((hA.nil.cons (hA.get 18 _ rfl)).cons (hA.get 1 _ rfl)).cons (hA.get 0 _ rfl))⟩
      · replace H5 := ite_f hb8 H5
        have hA := hA.re (t := 11) rfl (congrArg Value.bool hb8)
        refine L1 (gate_on rfl rfl hA (by decide) rfl (stv hA (by decide) (run_move (hA.ev rfl)) ?_)); intro a hA
        refine L1 (gate_on rfl rfl hA (by decide) rfl (stv hA (by decide) (run_bin (hA.ev rfl) (hA.ev rfl) (bin_lss _ _ _ _)) ?_)); intro a hA
        refine L1 (stv hA (by decide) (run_pick (hA.ev rfl) (fun h => Bool.noConfusion h) (fun _ => hA.ev rfl)) ?_); intro a hA
        refine L1 (stv hA (by decide) (run_move (hA.ev rfl)) ?_); intro a hA
        refine bsplit (b := (decide (weight_1 < 1))) (fun hb9 => ?_) (fun hb9 => ?_)
        · replace H5 := ite_t hb9 H5
          have hA := hA.re (t := 15) rfl (congrArg Value.bool hb9)
          refine L1 (gate_off rfl (by decide) rfl hA (by decide) rfl rfl ?_); intro a hA
          refine L1 (gate_off rfl (by decide) rfl hA (by decide) rfl rfl ?_); intro a hA
          refine L1 (stv hA (by decide) (run_pick (hA.ev rfl) (fun _ => hA.ev rfl) (fun h => Bool.noConfusion h)) ?_); intro a hA
          refine LQ ?_
          exact ⟨true, Option.some.inj H5, rfl, (((hA.nil.cons (hA.get 18 _ rfl)).cons (hA.get 1 _ rfl)).cons (hA.get 0 _ rfl))⟩
        · replace H5 := ite_f hb9 H5
          have hA := hA.re (t := 15) rfl (congrArg Value.bool hb9)
          refine L1 (gate_on rfl rfl hA (by decide) rfl (stv hA (by decide) (run_move (hA.ev rfl)) ?_)); intro a hA
          refine L1 (gate_on rfl rfl hA (by decide) rfl (stv hA (by decide) (run_bin (hA.ev rfl) (hA.ev rfl) (bin_gtr _ _ _ _)) ?_)); intro a hA
          refine L1 (stv hA (by decide) (run_pick (hA.ev rfl) (fun h => Bool.noConfusion h) (fun _ => hA.ev rfl)) ?_); intro a hA
          refine LQ ?_
          exact ⟨(decide (weight_1 > 80000)), Option.some.inj H5, rfl, (((hA.nil.cons (hA.get 18 _ rfl)).cons (hA.get 1 _ rfl)).cons (hA.get 0 _ rfl))⟩
  rintro a _ ⟨t4, rfl, rfl, hA⟩
  try dsimp only at H
  refine TN ?_
  refine tcond (b := t4) hA rfl (fun hb11 => ?_) (fun hb11 => ?_)
  · replace H := ite_t hb11 H
    refine wp_seq ?_
    refine wp_region_lit ?_
    refine L1 (stv hA (by decide) (run_assign (hA.ev rfl)) ?_); intro a hA
    refine LQ ?_
    refine TN ?_
    refine wp_ret ?_
    cases H
    refine TR ?_
    exact ret_post1 (fn := Try.f8) hA rfl rfl ⟨_, rfl, rfl, hB0⟩
  · replace H := ite_f hb11 H
    refine wp_skip ?_
    refine TN ?_
    refine wp_seq ?_
    refine wp_region_lit ?_
    refine L1 (stv hA (by decide) (run_move (hA.ev rfl)) ?_); intro a hA
    refine L1 (stv hA (by decide) (run_bin (hA.ev rfl) (hA.ev rfl) (bin_mul _ _ _ _)) ?_); intro a hA
    refine L1 (stv hA (by decide) (run_move (hA.ev rfl)) ?_); intro a hA
    obtain ⟨hd12, H⟩ := ite_some H
    refine L1 (stv hA (by decide) (run_bin (hA.ev rfl) (hA.ev rfl) (bin_quo _ _ _ _ hd12)) ?_); intro a hA
    refine L1 (stv hA (by decide) (run_min (hA.ev rfl) (hA.ev rfl)) ?_); intro a hA
    refine L1 (stv hA (by decide) (run_assign (hA.ev rfl)) ?_); intro a hA
    refine LQ ?_
    refine TN ?_
    refine wp_ret ?_
    cases H
    exact ret_post1 (fn := Try.f8) hA rfl rfl ⟨_, rfl, rfl, hB0⟩

def fees_bounds.l0  : Nat → Int → Int → (Vector Int 24) → Option ((Vector Int 24))
  | 0, _, _, _ => none
  | k + 1, n54, t55, x56 => (if (decide (t55 < 24)) = true then (if 0 ≤ t55 ∧ t55 < (24 : Int) then (fees_bounds.l0  k (IntKind.i64.wrap (n54 + (IntKind.i64.wrap (n54.tdiv 2)))) (IntKind.i64.wrap (t55 + 1)) (vs x56 t55 n54)) else none) else (some x56))
def fees_bounds.f (k : Nat)  : Option (Vector Int 24) := (Option.bind (α := (Vector Int 24)) (fees_bounds.l0 k 10 0 (Vector.replicate 24 0 : Vector Int 24)) (fun x57 => (some x57)))
theorem fees_bounds.calls (k : Nat)   (r : (Vector Int 24)) (w0 : World)  (H : fees_bounds.f k  = some r) :
    Calls Try.prog 24 #[] w0 fun e w' => ∃ v, e = .returned v ∧ v = (.agg (pA24i64.enc r).toArray) ∧ Below w0.heap.size w0 w' := by
  unfold fees_bounds.f at H
  have hB0 := Below.refl w0.heap.size w0
  refine enterL (n := 16) [] Try.func24 rfl rfl rfl ?_
  intro a hA
  refine wp_seq ?_
  refine wp_region_lit ?_
  refine L1 (st_alloc (cs := (pA24i64.enc (Vector.replicate 24 0 : Vector Int 24)).toArray) zero49 rfl hA (by decide) ?_)
  intro w2 g1 hg3 hz4 hX5 hE6 a hA
  have ge8 : _ ≤ g1 := Nat.le_trans hB0.size (Nat.le_of_eq hg3.symm)
  refine LQ ?_
  refine TN ?_
  refine wp_seq ?_
  refine wp_region_lit ?_
  have hB9 := hB0.trans (hE6.mono hB0.size)
  refine L1 (st_alloc (cs := (pA24i64.enc (Vector.replicate 24 0 : Vector Int 24)).toArray) zero49 rfl hA (by decide) ?_)
  intro w11 g10 hg12 hz13 hX14 hE15 a hA
  have ge17 : _ ≤ g10 := Nat.le_trans hB9.size (Nat.le_of_eq hg12.symm)
  have sp18 := sep_lt (lt_box hX5) hg12
  have lg19 : g1 < g10 := hg12 ▸ (lt_box hX5) _ rfl
  refine LQ ?_
  refine TN ?_
  refine wp_seq ?_
  refine wp_region_lit ?_
  refine L1 (stv hA (by decide) (run_assign (hA.ev rfl)) ?_); intro a hA
  refine LQ ?_
  refine TN ?_
  refine wp_seq ?_
  refine wp_seq ?_
  refine wp_region_lit ?_
  refine L1 (stv hA (by decide) (run_move (hA.ev rfl)) ?_); intro a hA
  refine LQ ?_
  refine TN ?_
  obtain ⟨o59, H58, H⟩ := Option.bind_eq_some_iff.1 H
  refine cutC (fun a w => ∃ (x57 : (Vector Int 24)), x57 = o59 ∧ (Below w0.heap.size w0 w) ∧ (w.heap[g1]? = some (.cells (pA24i64.enc (Vector.replicate 24 0 : Vector Int 24)).toArray 49 (0, 0))) ∧ (w.heap[g10]? = some (.cells (pA24i64.enc x57).toArray 49 (0, 0))) ∧ Has 16 [(0, (.pointer (some (⟨g1, 0, none⟩)))), (1, (.pointer (some (⟨g10, 0, none⟩))))] a) ?_ ?_
  · refine wp_block ?_
    have hB66 := hB9.trans (hE15.mono hB9.size)
    have h67 := (hE15.block _ (lt_some hX5)).trans hX5
    refine wp_loop_ghost (fun m a w => ∃ (n54 : Int) (t55 : Int) (x56 : (Vector Int 24)), fees_bounds.l0 m n54 t55 x56 = some o59 ∧ (Below w0.heap.size w0 w) ∧ (w.heap[g1]? = some (.cells (pA24i64.enc (Vector.replicate 24 0 : Vector Int 24)).toArray 49 (0, 0))) ∧ (w.heap[g10]? = some (.cells (pA24i64.enc x56).toArray 49 (0, 0))) ∧ Has 16 [(0, (.pointer (some (⟨g1, 0, none⟩)))), (1, (.pointer (some (⟨g10, 0, none⟩)))), (2, (.int .i64 n54)), (4, (.int .i64 t55))] a) k ⟨10, 0, (Vector.replicate 24 0 : Vector Int 24), H58, hB66, h67, hX14, ((((hA.nil.cons (hA.get 4 _ rfl)).cons (hA.get 2 _ rfl)).cons (hA.get 1 _ rfl)).cons (hA.get 0 _ rfl))⟩ ?_
    rintro m68 a w69 ⟨n54, t55, x56, H58, hB63, hX64, hX65, hA⟩
    cases m68 with
    | zero => exact absurd H58 (by simp [fees_bounds.l0])
    | succ m68 =>
    rw [fees_bounds.l0] at H58
    refine wp_seq ?_
    refine wp_region_lit ?_
    refine L1 (stv hA (by decide) (run_bin (hA.ev rfl) (hA.ev rfl) (bin_lss _ _ _ _)) ?_); intro a hA
    refine LQ ?_
    refine TN ?_
    refine wp_seq ?_
    refine tcond (b := (decide (t55 < 24))) hA rfl (fun hb70 => ?_) (fun hb70 => ?_)
    · replace H58 := ite_t hb70 H58
      refine wp_skip ?_
      refine TN ?_
      refine wp_seq ?_
      refine wp_block ?_
      refine wp_seq ?_
      refine wp_region_lit ?_
      refine L1 (stv hA (by decide) (run_move (hA.ev rfl)) ?_); intro a hA
      refine L1 (stv hA (by decide) (run_assign (hA.ev rfl)) ?_); intro a hA
      refine LQ ?_
      refine TN ?_
      refine wp_seq ?_
      refine wp_region_lit ?_
      refine L1 (stv hA (by decide) (run_move (hA.ev rfl)) ?_); intro a hA
      refine L1 (stv hA (by decide) (run_move (hA.ev rfl)) ?_); intro a hA
      obtain ⟨⟨hi71, hj72⟩, H58⟩ := ite_some H58
      refine L1 (stv hA (by decide) (run_idxarr Try.underlying49 Try.sizeOf3 (hA.ev rfl) (hA.ev rfl) hi71 hj72) ?_); intro a hA
      refine L1 (st_store (g := g10) (off := (t55.toNat * 1)) (cur := (pA24i64.enc x56).toArray) Try.sizeOf3 hA rfl (by simp [add_mk]) rfl (by rfl) (one_val rfl) hX65 (by have h1 := hj72; have h0 := hi71; rw [List.size_toArray, Pl.len]; show _ ≤ 24; omega) ?_)
      intro w73 hX74 hU75 hz76 a hA
      replace hX74 : w73.heap[g10]? = some (.cells (pA24i64.enc (vs x56 t55 n54)).toArray 49 (0, 0)) := hX74.trans (congrArg (fun c => some (Obj.cells c 49 (0, 0))) (vec_splice _ _ hi71 hj72))
      refine LQ ?_
      refine TN ?_
      refine wp_region_lit ?_
      refine L1 (stv hA (by decide) (run_move (hA.ev rfl)) ?_); intro a hA
      refine L1 (stv hA (by decide) (run_move (hA.ev rfl)) ?_); intro a hA
      refine L1 (stv hA (by decide) (run_bin (hA.ev rfl) (hA.ev rfl) (bin_quo _ _ _ _ (by decide))) ?_); intro a hA
      refine L1 (stv hA (by decide) (run_bin (hA.ev rfl) (hA.ev rfl) (bin_add _ _ _ _)) ?_); intro a hA
      refine L1 (stv hA (by decide) (run_assign (hA.ev rfl)) ?_); intro a hA
      refine LQ ?_
      refine BN ?_
      refine TN ?_
      refine wp_region_lit ?_
      refine L1 (stv hA (by decide) (run_bin (hA.ev rfl) (hA.ev rfl) (bin_add _ _ _ _)) ?_); intro a hA
      refine L1 (stv hA (by decide) (run_move (hA.ev rfl)) ?_); intro a hA
      refine LQ ?_
      have hB77 := hB63.grown hU75 hB63.size (fun k hk => by cases hk; exact ge17)
      have h78 := (hU75.block _ (lt_some hX64) (sep_box (by omega) _ rfl)).trans hX64
      exact ⟨_, Nat.lt_succ_self m68, IntKind.i64.wrap (n54 + (IntKind.i64.wrap (n54.tdiv 2))), IntKind.i64.wrap (t55 + 1), vs x56 t55 n54, H58, hB77, h78, hX74, ((((hA.nil.cons (hA.get 4 _ rfl)).cons (hA.get 2 _ rfl)).cons (hA.get 1 _ rfl)).cons (hA.get 0 _ rfl))⟩
    · replace H58 := ite_f hb70 H58
      refine wp_exit ?_
      refine TX ?_
      refine TX ?_
      refine BX ?_
      exact ⟨x56, Option.some.inj H58, hB63, hX64, hX65, ((hA.nil.cons (hA.get 1 _ rfl)).cons (hA.get 0 _ rfl))⟩
  rintro a w79 ⟨x57, rfl, hB60, hX61, hX62, hA⟩
  try dsimp only at H
  refine TN ?_
  refine wp_seq ?_
  refine wp_region_lit ?_
  refine L1 (stv hA (by decide) (run_ld (hA.ev rfl) (run_loadP Try.isAgg49 Try.sizeOf49 (At.box' hX62))) ?_); intro a hA
  refine L1 (st_store (g := g1) (off := 0) (cur := (pA24i64.enc (Vector.replicate 24 0 : Vector Int 24)).toArray) Try.sizeOf49 hA rfl (by simp [add_mk]) rfl (agg_size _ _) (agg_one _ _) hX61 (Nat.le_of_ble_eq_true (enc_fit _ _ rfl)) ?_)
  intro w80 hX81 hU82 hz83 a hA
  replace hX81 : w80.heap[g1]? = some (.cells (pA24i64.enc x57).toArray 49 (0, 0)) := hX81.trans (congrArg (fun c => some (Obj.cells c 49 (0, 0))) (splice_all _ _ (agg_same _ _ _)))
  refine LQ ?_
  refine TN ?_
  refine wp_ret ?_
  have hB84 := hB60.grown hU82 hB60.size (fun k hk => by cases hk; exact ge8)
  cases H
  exact ret_cell (fn := Try.f24) hA rfl rfl (run_loadP Try.isAgg49 Try.sizeOf49 (At.box' hX81)) ⟨_, rfl, rfl, hB84⟩

def fees_Bound.f (k : Nat) (class_0 : Int) : Option Int := (Option.bind (α := Bool) (if (decide (class_0 < 0)) = true then (some true) else (some (decide (class_0 ≥ 24)))) (fun t2 => (if t2 = true then (some 0) else ((fees_bounds.f k ).bind fun r8 => (if 0 ≤ class_0 ∧ class_0 < (24 : Int) then (some (vg r8 class_0)) else none)))))
theorem fees_Bound.calls (k : Nat) (class_0 : Int)  (r : Int) (w0 : World)  (H : fees_Bound.f k class_0 = some r) :
    Calls Try.prog 10 #[(.int .i64 class_0)] w0 fun e w' => ∃ v, e = .returned v ∧ v = (.int .i64 r) ∧ Below w0.heap.size w0 w' := by
  unfold fees_Bound.f at H
  have hB0 := Below.refl w0.heap.size w0
  refine enterL (n := 12) [(.int .i64 class_0)] Try.func10 rfl rfl rfl ?_
  intro a hA
  refine wp_seq ?_
  refine wp_region_lit ?_
  refine L1 (stv hA (by decide) (run_assign (hA.ev rfl)) ?_); intro a hA
  refine LQ ?_
  refine TN ?_
  refine wp_seq ?_
  refine wp_seq ?_
  obtain ⟨o4, H3, H⟩ := Option.bind_eq_some_iff.1 H
  refine cutC (fun a w => ∃ (t2 : Bool), t2 = o4 ∧ w0 = w ∧ Has 12 [(0, (.int .i64 class_0)), (8, (.bool t2))] a) ?_ ?_
  · refine wp_region_lit ?_
    refine L1 (stv hA (by decide) (run_move (hA.ev rfl)) ?_); intro a hA
    refine L1 (stv hA (by decide) (run_bin (hA.ev rfl) (hA.ev rfl) (bin_lss _ _ _ _)) ?_); intro a hA
    refine L1 (stv hA (by decide) (run_move (hA.ev rfl)) ?_); intro a hA
    refine bsplit (b := (decide (class_0 < 0))) (fun hb5 => ?_) (fun hb5 => ?_)
    · replace H3 := ite_t hb5 H3
      have hA := hA.re (t := 5) rfl (congrArg Value.bool hb5)
      refine L1 (gate_off rfl (by decide) rfl hA (by decide) rfl rfl ?_); intro a hA
      refine L1 (gate_off rfl (by decide) rfl hA (by decide) rfl rfl ?_); intro a hA
      refine L1 (stv hA (by decide) (run_pick (hA.ev rfl) (fun _ => hA.ev rfl) (fun h => Bool.noConfusion h)) ?_); intro a hA
      refine LQ ?_
      exact ⟨true, Option.some.inj H3, rfl, ((hA.nil.cons (hA.get 8 _ rfl)).cons (hA.get 0 _ rfl))⟩
    · replace H3 := ite_f hb5 H3
      have hA := hA.re (t := 5) rfl (congrArg Value.bool hb5)
      refine L1 (gate_on rfl rfl hA (by decide) rfl (stv hA (by decide) (run_move (hA.ev rfl)) ?_)); intro a hA
      refine L1 (gate_on rfl rfl hA (by decide) rfl (stv hA (by decide) (run_bin (hA.ev rfl) (hA.ev rfl) (bin_geq _ _ _ _)) ?_)); intro a hA
      refine L1 (stv hA (by decide) (run_pick (hA.ev rfl) (fun h => Bool.noConfusion h) (fun _ => hA.ev rfl)) ?_); intro a hA
      refine LQ ?_
      exact ⟨(decide (class_0 ≥ 24)), Option.some.inj H3, rfl, ((hA.nil.cons (hA.get 8 _ rfl)).cons (hA.get 0 _ rfl))⟩
  rintro a _ ⟨t2, rfl, rfl, hA⟩
  try dsimp only at H
  refine TN ?_
  refine tcond (b := t2) hA rfl (fun hb7 => ?_) (fun hb7 => ?_)
  · replace H := ite_t hb7 H
    refine wp_seq ?_
    refine wp_region_lit ?_
    refine L1 (stv hA (by decide) (run_assign (hA.ev rfl)) ?_); intro a hA
    refine LQ ?_
    refine TN ?_
    refine wp_ret ?_
    cases H
    refine TR ?_
    exact ret_post1 (fn := Try.f10) hA rfl rfl ⟨_, rfl, rfl, hB0⟩
  · replace H := ite_f hb7 H
    refine wp_skip ?_
    refine TN ?_
    refine wp_seq ?_
    refine wp_region_lit ?_
    obtain ⟨r8, H9, H⟩ := Option.bind_eq_some_iff.1 H
    refine L1 (st_call Try.call24 hA [] rfl (by decide) (fees_bounds.calls _ _ _ H9) ?_)
    rintro _ w10 ⟨rfl, hE11⟩ a hA
    refine L1 (stv hA (by decide) (run_move (hA.ev rfl)) ?_); intro a hA
    obtain ⟨⟨hi12, hj13⟩, H⟩ := ite_some H
    refine L1 (stv hA (by decide) (run_index_vec Try.underlying49 Try.isAgg3 Try.sizeOf3 (hA.ev rfl) (hA.ev rfl) hi12 hj13) ?_); intro a hA
    refine L1 (stv hA (by decide) (run_assign (hA.ev rfl)) ?_); intro a hA
    refine LQ ?_
    refine TN ?_
    refine wp_ret ?_
    have hB14 := hB0.trans (hE11.mono hB0.size)
    cases H
    exact ret_post1 (fn := Try.f10) hA rfl rfl ⟨_, rfl, rfl, hB14⟩

def fees_Class.l0 (rate_0 : Int) (r1 : (Vector Int 24)) : Nat → Int → Int → Option (Int)
  | 0, _, _ => none
  | k + 1, t37, t38 => (if (decide (t38 < 24)) = true then (if 0 ≤ t38 ∧ t38 < (24 : Int) then (Option.bind (α := Int) (if (decide ((vg r1 t38) ≤ rate_0)) = true then (some t38) else (some t37)) (fun t48 => (fees_Class.l0 rate_0 r1 k t48 (IntKind.i64.wrap (t38 + 1))))) else none) else (some t37))
def fees_Class.f (k : Nat) (rate_0 : Int) : Option Int := ((fees_bounds.f k ).bind fun r1 => (Option.bind (α := Int) (fees_Class.l0 rate_0 r1 k (-1) 0) (fun t39 => (some t39))))
theorem fees_Class.calls (k : Nat) (rate_0 : Int)  (r : Int) (w0 : World)  (H : fees_Class.f k rate_0 = some r) :
    Calls Try.prog 12 #[(.int .i64 rate_0)] w0 fun e w' => ∃ v, e = .returned v ∧ v = (.int .i64 r) ∧ Below w0.heap.size w0 w' := by
  unfold fees_Class.f at H
  have hB0 := Below.refl w0.heap.size w0
  refine enterL (n := 17) [(.int .i64 rate_0)] Try.func12 rfl rfl rfl ?_
  intro a hA
  refine wp_seq ?_
  refine wp_region_lit ?_
  refine L1 (stv hA (by decide) (run_assign (hA.ev rfl)) ?_); intro a hA
  refine LQ ?_
  refine TN ?_
  refine wp_seq ?_
  refine wp_region_lit ?_
  refine L1 (stv hA (by decide) (run_assign (hA.ev rfl)) ?_); intro a hA
  refine LQ ?_
  refine TN ?_
  refine wp_seq ?_
  refine wp_seq ?_
  refine wp_region_lit ?_
  obtain ⟨r1, H2, H⟩ := Option.bind_eq_some_iff.1 H
  refine L1 (st_call Try.call24 hA [] rfl (by decide) (fees_bounds.calls _ _ _ H2) ?_)
  rintro _ w3 ⟨rfl, hE4⟩ a hA
  refine L1 (stv hA (by decide) (run_move (hA.ev rfl)) ?_); intro a hA
  refine LQ ?_
  refine TN ?_
  obtain ⟨o41, H40, H⟩ := Option.bind_eq_some_iff.1 H
  refine cutC (fun a w => ∃ (t39 : Int), t39 = o41 ∧ w3 = w ∧ Has 17 [(3, (.int .i64 t39))] a) ?_ ?_
  · refine wp_block ?_
    refine wp_loop_ghost (fun m a w => ∃ (t37 : Int) (t38 : Int), fees_Class.l0 rate_0 r1 m t37 t38 = some o41 ∧ w3 = w ∧ Has 17 [(0, (.int .i64 rate_0)), (3, (.int .i64 t37)), (6, (.agg (pA24i64.enc r1).toArray)), (7, (.int .i64 t38))] a) k ⟨(-1), 0, H40, rfl, ((((hA.nil.cons (hA.get 7 _ rfl)).cons (hA.get 6 _ rfl)).cons (hA.get 3 _ rfl)).cons (hA.get 0 _ rfl))⟩ ?_
    rintro m42 a _ ⟨t37, t38, H40, rfl, hA⟩
    cases m42 with
    | zero => exact absurd H40 (by simp [fees_Class.l0])
    | succ m42 =>
    rw [fees_Class.l0] at H40
    refine wp_seq ?_
    refine wp_region_lit ?_
    refine L1 (stv hA (by decide) (run_bin (hA.ev rfl) (hA.ev rfl) (bin_lss _ _ _ _)) ?_); intro a hA
    refine LQ ?_
    refine TN ?_
    refine wp_seq ?_
    refine tcond (b := (decide (t38 < 24))) hA rfl (fun hb44 => ?_) (fun hb44 => ?_)
    · replace H40 := ite_t hb44 H40
      refine wp_skip ?_
      refine TN ?_
      refine wp_seq ?_
      refine wp_block ?_
      refine wp_seq ?_
      refine wp_region_lit ?_
      refine L1 (stv hA (by decide) (run_move (hA.ev rfl)) ?_); intro a hA
      obtain ⟨⟨hi45, hj46⟩, H40⟩ := ite_some H40
      refine L1 (stv hA (by decide) (run_index_vec Try.underlying49 Try.isAgg3 Try.sizeOf3 (hA.ev rfl) (hA.ev rfl) hi45 hj46) ?_); intro a hA
      refine L1 (stv hA (by decide) (run_assign (hA.ev rfl)) ?_); intro a hA
      refine L1 (stv hA (by decide) (run_assign (hA.ev rfl)) ?_); intro a hA
      refine LQ ?_
      refine TN ?_
      refine wp_seq ?_
      refine wp_region_lit ?_
      refine L1 (stv hA (by decide) (run_move (hA.ev rfl)) ?_); intro a hA
      refine L1 (stv hA (by decide) (run_move (hA.ev rfl)) ?_); intro a hA
      refine L1 (stv hA (by decide) (run_bin (hA.ev rfl) (hA.ev rfl) (bin_leq _ _ _ _)) ?_); intro a hA
      refine LQ ?_
      refine TN ?_
      obtain ⟨o50, H49, H40⟩ := Option.bind_eq_some_iff.1 H40
      refine cutC (fun a w => ∃ (t48 : Int), t48 = o50 ∧ w3 = w ∧ Has 17 [(0, (.int .i64 rate_0)), (3, (.int .i64 t48)), (6, (.agg (pA24i64.enc r1).toArray)), (7, (.int .i64 t38))] a) ?_ ?_
      · refine tcond (b := (decide ((vg r1 t38) ≤ rate_0))) hA rfl (fun hb51 => ?_) (fun hb51 => ?_)
        · replace H49 := ite_t hb51 H49
          refine wp_region_lit ?_
          refine L1 (stv hA (by decide) (run_move (hA.ev rfl)) ?_); intro a hA
          refine L1 (stv hA (by decide) (run_assign (hA.ev rfl)) ?_); intro a hA
          refine LQ ?_
          exact ⟨t38, Option.some.inj H49, rfl, ((((hA.nil.cons (hA.get 7 _ rfl)).cons (hA.get 6 _ rfl)).cons (hA.get 3 _ rfl)).cons (hA.get 0 _ rfl))⟩
        · replace H49 := ite_f hb51 H49
          refine wp_skip ?_
          exact ⟨t37, Option.some.inj H49, rfl, ((((hA.nil.cons (hA.get 7 _ rfl)).cons (hA.get 6 _ rfl)).cons (hA.get 3 _ rfl)).cons (hA.get 0 _ rfl))⟩
      rintro a _ ⟨t48, rfl, rfl, hA⟩
      try dsimp only at H40
      refine BN ?_
      refine TN ?_
      refine wp_region_lit ?_
      refine L1 (stv hA (by decide) (run_bin (hA.ev rfl) (hA.ev rfl) (bin_add _ _ _ _)) ?_); intro a hA
      refine L1 (stv hA (by decide) (run_move (hA.ev rfl)) ?_); intro a hA
      refine LQ ?_
      exact ⟨_, Nat.lt_succ_self m42, t48, IntKind.i64.wrap (t38 + 1), H40, rfl, ((((hA.nil.cons (hA.get 7 _ rfl)).cons (hA.get 6 _ rfl)).cons (hA.get 3 _ rfl)).cons (hA.get 0 _ rfl))⟩
    · replace H40 := ite_f hb44 H40
      refine wp_exit ?_
      refine TX ?_
      refine TX ?_
      refine BX ?_
      exact ⟨t37, Option.some.inj H40, rfl, (hA.nil.cons (hA.get 3 _ rfl))⟩
  rintro a _ ⟨t39, rfl, rfl, hA⟩
  try dsimp only at H
  refine TN ?_
  refine wp_seq ?_
  refine wp_region_lit ?_
  refine L1 (stv hA (by decide) (run_move (hA.ev rfl)) ?_); intro a hA
  refine L1 (stv hA (by decide) (run_assign (hA.ev rfl)) ?_); intro a hA
  refine LQ ?_
  refine TN ?_
  refine wp_ret ?_
  have hB54 := hB0.trans (hE4.mono hB0.size)
  cases H
  exact ret_post1 (fn := Try.f12) hA rfl rfl ⟨_, rfl, rfl, hB54⟩

def law33_sane.f (k : Nat)  : Option Bool := (Option.bind (α := Bool) ((fees_Bound.f k 0).bind fun r33 => (if (r33 == 10) = true then ((fees_Bound.f k 3).bind fun r39 => (if (r39 == 33) = true then ((fees_Class.f k 21).bind fun r45 => (if (r45 == 1) = true then ((fees_Class.f k 9).bind fun r51 => (if (r51 == (-1)) = true then ((fees_Rate.f k 5 1000).bind fun r57 => (some (r57 == 5))) else (some false))) else (some false))) else (some false))) else (some false))) (fun t29 => (some t29)))
theorem law33_sane.calls (k : Nat)   (r : Bool) (w0 : World)  (H : law33_sane.f k  = some r) :
    Calls Try.prog 6 #[] w0 fun e w' => ∃ v, e = .returned v ∧ v = (.bool r) ∧ Below w0.heap.size w0 w' := by
  unfold law33_sane.f at H
  have hB0 := Below.refl w0.heap.size w0
  refine enterL (n := 19) [] Try.func6 rfl rfl rfl ?_
  intro a hA
  refine wp_seq ?_
  refine wp_region_lit ?_
  refine L1 (stv hA (by decide) (run_assign (hA.ev rfl)) ?_); intro a hA
  refine LQ ?_
  refine TN ?_
  refine wp_seq ?_
  obtain ⟨o31, H30, H⟩ := Option.bind_eq_some_iff.1 H
  refine cutC (fun a w => ∃ (t29 : Bool), t29 = o31 ∧ (Below w0.heap.size w0 w) ∧ Has 19 [(0, (.bool t29))] a) ?_ ?_
  · refine wp_region_lit ?_
    obtain ⟨r33, H34, H30⟩ := Option.bind_eq_some_iff.1 H30
    refine L1 (st_call Try.call10 hA [(.int .i64 0)] rfl (by decide) (fees_Bound.calls _ _ _ _ H34) ?_)
    rintro _ w35 ⟨rfl, hE36⟩ a hA
    refine L1 (stv hA (by decide) (run_bin (hA.ev rfl) (hA.ev rfl) (bin_eql _ _ _ _)) ?_); intro a hA
    refine L1 (stv hA (by decide) (run_move (hA.ev rfl)) ?_); intro a hA
    refine bsplit (b := (r33 == 10)) (fun hb37 => ?_) (fun hb37 => ?_)
    · replace H30 := ite_t hb37 H30
      have hA := hA.re (t := 3) rfl (congrArg Value.bool hb37)
      have hB38 := hB0.trans (hE36.mono hB0.size)
      obtain ⟨r39, H40, H30⟩ := Option.bind_eq_some_iff.1 H30
      refine L1 (gate_on rfl rfl hA (by decide) rfl (st_call Try.call10 hA [(.int .i64 3)] rfl (by decide) (fees_Bound.calls _ _ _ _ H40) ?_))
      rintro _ w41 ⟨rfl, hE42⟩ a hA
      refine L1 (gate_on rfl rfl hA (by decide) rfl (stv hA (by decide) (run_bin (hA.ev rfl) (hA.ev rfl) (bin_eql _ _ _ _)) ?_)); intro a hA
      refine L1 (stv hA (by decide) (run_pick (hA.ev rfl) (fun _ => hA.ev rfl) (fun h => Bool.noConfusion h)) ?_); intro a hA
      refine L1 (stv hA (by decide) (run_move (hA.ev rfl)) ?_); intro a hA
      refine bsplit (b := (r39 == 33)) (fun hb43 => ?_) (fun hb43 => ?_)
      · replace H30 := ite_t hb43 H30
        have hA := hA.re (t := 7) rfl (congrArg Value.bool hb43)
        have hB44 := hB38.trans (hE42.mono hB38.size)
        obtain ⟨r45, H46, H30⟩ := Option.bind_eq_some_iff.1 H30
        refine L1 (gate_on rfl rfl hA (by decide) rfl (st_call Try.call12 hA [(.int .i64 21)] rfl (by decide) (fees_Class.calls _ _ _ _ H46) ?_))
        rintro _ w47 ⟨rfl, hE48⟩ a hA
        refine L1 (gate_on rfl rfl hA (by decide) rfl (stv hA (by decide) (run_bin (hA.ev rfl) (hA.ev rfl) (bin_eql _ _ _ _)) ?_)); intro a hA
        refine L1 (stv hA (by decide) (run_pick (hA.ev rfl) (fun _ => hA.ev rfl) (fun h => Bool.noConfusion h)) ?_); intro a hA
        refine L1 (stv hA (by decide) (run_move (hA.ev rfl)) ?_); intro a hA
        refine bsplit (b := (r45 == 1)) (fun hb49 => ?_) (fun hb49 => ?_)
        · replace H30 := ite_t hb49 H30
          have hA := hA.re (t := 11) rfl (congrArg Value.bool hb49)
          have hB50 := hB44.trans (hE48.mono hB44.size)
          obtain ⟨r51, H52, H30⟩ := Option.bind_eq_some_iff.1 H30
          refine L1 (gate_on rfl rfl hA (by decide) rfl (st_call Try.call12 hA [(.int .i64 9)] rfl (by decide) (fees_Class.calls _ _ _ _ H52) ?_))
          rintro _ w53 ⟨rfl, hE54⟩ a hA
          refine L1 (gate_on rfl rfl hA (by decide) rfl (stv hA (by decide) (run_bin (hA.ev rfl) (hA.ev rfl) (bin_eql _ _ _ _)) ?_)); intro a hA
          refine L1 (stv hA (by decide) (run_pick (hA.ev rfl) (fun _ => hA.ev rfl) (fun h => Bool.noConfusion h)) ?_); intro a hA
          refine L1 (stv hA (by decide) (run_move (hA.ev rfl)) ?_); intro a hA
          refine bsplit (b := (r51 == (-1))) (fun hb55 => ?_) (fun hb55 => ?_)
          · replace H30 := ite_t hb55 H30
            have hA := hA.re (t := 15) rfl (congrArg Value.bool hb55)
            have hB56 := hB50.trans (hE54.mono hB50.size)
            obtain ⟨r57, H58, H30⟩ := Option.bind_eq_some_iff.1 H30
            refine L1 (gate_on rfl rfl hA (by decide) rfl (st_call Try.call8 hA [(.int .i64 5), (.int .i64 1000)] rfl (by decide) (fees_Rate.calls _ _ _ _ _ H58) ?_))
            rintro _ w59 ⟨rfl, hE60⟩ a hA
            refine L1 (gate_on rfl rfl hA (by decide) rfl (stv hA (by decide) (run_bin (hA.ev rfl) (hA.ev rfl) (bin_eql _ _ _ _)) ?_)); intro a hA
            refine L1 (stv hA (by decide) (run_pick (hA.ev rfl) (fun _ => hA.ev rfl) (fun h => Bool.noConfusion h)) ?_); intro a hA
            refine L1 (stv hA (by decide) (run_assign (hA.ev rfl)) ?_); intro a hA
            refine LQ ?_
            have hB61 := hB56.trans (hE60.mono hB56.size)
            exact ⟨(r57 == 5), Option.some.inj H30, hB61, (hA.nil.cons (hA.get 0 _ rfl))⟩
          · replace H30 := ite_f hb55 H30
            have hA := hA.re (t := 15) rfl (congrArg Value.bool hb55)
            refine L1 (gate_off rfl (by decide) rfl hA (by decide) rfl rfl ?_); intro a hA
            refine L1 (gate_off rfl (by decide) rfl hA (by decide) rfl rfl ?_); intro a hA
            refine L1 (stv hA (by decide) (run_pick (hA.ev rfl) (fun h => Bool.noConfusion h) (fun _ => hA.ev rfl)) ?_); intro a hA
            refine L1 (stv hA (by decide) (run_assign (hA.ev rfl)) ?_); intro a hA
            refine LQ ?_
            have hB62 := hB50.trans (hE54.mono hB50.size)
            exact ⟨false, Option.some.inj H30, hB62, (hA.nil.cons (hA.get 0 _ rfl))⟩
        · replace H30 := ite_f hb49 H30
          have hA := hA.re (t := 11) rfl (congrArg Value.bool hb49)
          refine L1 (gate_off rfl (by decide) rfl hA (by decide) rfl rfl ?_); intro a hA
          refine L1 (gate_off rfl (by decide) rfl hA (by decide) rfl rfl ?_); intro a hA
          refine L1 (stv hA (by decide) (run_pick (hA.ev rfl) (fun h => Bool.noConfusion h) (fun _ => hA.ev rfl)) ?_); intro a hA
          refine L1 (stv hA (by decide) (run_move (hA.ev rfl)) ?_); intro a hA
          refine L1 (gate_off rfl (by decide) rfl hA (by decide) rfl rfl ?_); intro a hA
          refine L1 (gate_off rfl (by decide) rfl hA (by decide) rfl rfl ?_); intro a hA
          refine L1 (stv hA (by decide) (run_pick (hA.ev rfl) (fun h => Bool.noConfusion h) (fun _ => hA.ev rfl)) ?_); intro a hA
          refine L1 (stv hA (by decide) (run_assign (hA.ev rfl)) ?_); intro a hA
          refine LQ ?_
          have hB63 := hB44.trans (hE48.mono hB44.size)
          exact ⟨false, Option.some.inj H30, hB63, (hA.nil.cons (hA.get 0 _ rfl))⟩
      · replace H30 := ite_f hb43 H30
        have hA := hA.re (t := 7) rfl (congrArg Value.bool hb43)
        refine L1 (gate_off rfl (by decide) rfl hA (by decide) rfl rfl ?_); intro a hA
        refine L1 (gate_off rfl (by decide) rfl hA (by decide) rfl rfl ?_); intro a hA
        refine L1 (stv hA (by decide) (run_pick (hA.ev rfl) (fun h => Bool.noConfusion h) (fun _ => hA.ev rfl)) ?_); intro a hA
        refine L1 (stv hA (by decide) (run_move (hA.ev rfl)) ?_); intro a hA
        refine L1 (gate_off rfl (by decide) rfl hA (by decide) rfl rfl ?_); intro a hA
        refine L1 (gate_off rfl (by decide) rfl hA (by decide) rfl rfl ?_); intro a hA
        refine L1 (stv hA (by decide) (run_pick (hA.ev rfl) (fun h => Bool.noConfusion h) (fun _ => hA.ev rfl)) ?_); intro a hA
        refine L1 (stv hA (by decide) (run_move (hA.ev rfl)) ?_); intro a hA
        refine L1 (gate_off rfl (by decide) rfl hA (by decide) rfl rfl ?_); intro a hA
        refine L1 (gate_off rfl (by decide) rfl hA (by decide) rfl rfl ?_); intro a hA
        refine L1 (stv hA (by decide) (run_pick (hA.ev rfl) (fun h => Bool.noConfusion h) (fun _ => hA.ev rfl)) ?_); intro a hA
        refine L1 (stv hA (by decide) (run_assign (hA.ev rfl)) ?_); intro a hA
        refine LQ ?_
        have hB64 := hB38.trans (hE42.mono hB38.size)
        exact ⟨false, Option.some.inj H30, hB64, (hA.nil.cons (hA.get 0 _ rfl))⟩
    · replace H30 := ite_f hb37 H30
      have hA := hA.re (t := 3) rfl (congrArg Value.bool hb37)
      refine L1 (gate_off rfl (by decide) rfl hA (by decide) rfl rfl ?_); intro a hA
      refine L1 (gate_off rfl (by decide) rfl hA (by decide) rfl rfl ?_); intro a hA
      refine L1 (stv hA (by decide) (run_pick (hA.ev rfl) (fun h => Bool.noConfusion h) (fun _ => hA.ev rfl)) ?_); intro a hA
      refine L1 (stv hA (by decide) (run_move (hA.ev rfl)) ?_); intro a hA
      refine L1 (gate_off rfl (by decide) rfl hA (by decide) rfl rfl ?_); intro a hA
      refine L1 (gate_off rfl (by decide) rfl hA (by decide) rfl rfl ?_); intro a hA
      refine L1 (stv hA (by decide) (run_pick (hA.ev rfl) (fun h => Bool.noConfusion h) (fun _ => hA.ev rfl)) ?_); intro a hA
      refine L1 (stv hA (by decide) (run_move (hA.ev rfl)) ?_); intro a hA
      refine L1 (gate_off rfl (by decide) rfl hA (by decide) rfl rfl ?_); intro a hA
      refine L1 (gate_off rfl (by decide) rfl hA (by decide) rfl rfl ?_); intro a hA
      refine L1 (stv hA (by decide) (run_pick (hA.ev rfl) (fun h => Bool.noConfusion h) (fun _ => hA.ev rfl)) ?_); intro a hA
      refine L1 (stv hA (by decide) (run_move (hA.ev rfl)) ?_); intro a hA
      refine L1 (gate_off rfl (by decide) rfl hA (by decide) rfl rfl ?_); intro a hA
      refine L1 (gate_off rfl (by decide) rfl hA (by decide) rfl rfl ?_); intro a hA
      refine L1 (stv hA (by decide) (run_pick (hA.ev rfl) (fun h => Bool.noConfusion h) (fun _ => hA.ev rfl)) ?_); intro a hA
      refine L1 (stv hA (by decide) (run_assign (hA.ev rfl)) ?_); intro a hA
      refine LQ ?_
      have hB65 := hB0.trans (hE36.mono hB0.size)
      exact ⟨false, Option.some.inj H30, hB65, (hA.nil.cons (hA.get 0 _ rfl))⟩
  rintro a w66 ⟨t29, rfl, hB32, hA⟩
  try dsimp only at H
  refine TN ?_
  refine wp_ret ?_
  cases H
  exact ret_post1 (fn := Try.f6) hA rfl rfl ⟨_, rfl, rfl, hB32⟩

def mill_Mod.f (k : Nat) (v_0 : Int) (n_1 : Int) : Option Int := (if ¬ n_1 = 0 then (Option.bind (α := Int) (if (decide ((v_0.tmod n_1) < 0)) = true then (some (IntKind.i64.wrap ((v_0.tmod n_1) + n_1))) else (some (v_0.tmod n_1))) (fun r3 => (some r3))) else none)
theorem mill_Mod.calls (k : Nat) (v_0 : Int) (n_1 : Int)  (r : Int) (w0 : World)  (H : mill_Mod.f k v_0 n_1 = some r) :
    Calls Try.prog 7 #[(.int .i64 v_0), (.int .i64 n_1)] w0 fun e w' => ∃ v, e = .returned v ∧ v = (.int .i64 r) ∧ Below w0.heap.size w0 w' := by
  unfold mill_Mod.f at H
  have hB0 := Below.refl w0.heap.size w0
  refine enterL (n := 15) [(.int .i64 v_0), (.int .i64 n_1)] Try.func7 rfl rfl rfl ?_
  intro a hA
  refine wp_seq ?_
  refine wp_region_lit ?_
  refine L1 (stv hA (by decide) (run_assign (hA.ev rfl)) ?_); intro a hA
  refine LQ ?_
  refine TN ?_
  refine wp_seq ?_
  refine wp_region_lit ?_
  refine L1 (stv hA (by decide) (run_move (hA.ev rfl)) ?_); intro a hA
  refine L1 (stv hA (by decide) (run_move (hA.ev rfl)) ?_); intro a hA
  obtain ⟨hd1, H⟩ := ite_some H
  refine L1 (stv hA (by decide) (run_bin (hA.ev rfl) (hA.ev rfl) (bin_rem _ _ _ _ hd1)) ?_); intro a hA
  refine L1 (stv hA (by decide) (run_assign (hA.ev rfl)) ?_); intro a hA
  refine LQ ?_
  refine TN ?_
  refine wp_seq ?_
  refine wp_seq ?_
  refine wp_region_lit ?_
  refine L1 (stv hA (by decide) (run_move (hA.ev rfl)) ?_); intro a hA
  refine L1 (stv hA (by decide) (run_bin (hA.ev rfl) (hA.ev rfl) (bin_lss _ _ _ _)) ?_); intro a hA
  refine LQ ?_
  refine TN ?_
  obtain ⟨o5, H4, H⟩ := Option.bind_eq_some_iff.1 H
  refine cutC (fun a w => ∃ (r3 : Int), r3 = o5 ∧ w0 = w ∧ Has 15 [(5, (.int .i64 r3))] a) ?_ ?_
  · refine tcond (b := (decide ((v_0.tmod n_1) < 0))) hA rfl (fun hb6 => ?_) (fun hb6 => ?_)
    · replace H4 := ite_t hb6 H4
      refine wp_region_lit ?_
      refine L1 (stv hA (by decide) (run_move (hA.ev rfl)) ?_); intro a hA
      refine L1 (stv hA (by decide) (run_move (hA.ev rfl)) ?_); intro a hA
      refine L1 (stv hA (by decide) (run_bin (hA.ev rfl) (hA.ev rfl) (bin_add _ _ _ _)) ?_); intro a hA
      refine L1 (stv hA (by decide) (run_assign (hA.ev rfl)) ?_); intro a hA
      refine LQ ?_
      exact ⟨IntKind.i64.wrap ((v_0.tmod n_1) + n_1), Option.some.inj H4, rfl, (hA.nil.cons (hA.get 5 _ rfl))⟩
    · replace H4 := ite_f hb6 H4
      refine wp_skip ?_
      exact ⟨v_0.tmod n_1, Option.some.inj H4, rfl, (hA.nil.cons (hA.get 5 _ rfl))⟩
  rintro a _ ⟨r3, rfl, rfl, hA⟩
  try dsimp only at H
  refine TN ?_
  refine wp_seq ?_
  refine wp_region_lit ?_
  refine L1 (stv hA (by decide) (run_move (hA.ev rfl)) ?_); intro a hA
  refine L1 (stv hA (by decide) (run_assign (hA.ev rfl)) ?_); intro a hA
  refine LQ ?_
  refine TN ?_
  refine wp_ret ?_
  cases H
  exact ret_post1 (fn := Try.f7) hA rfl rfl ⟨_, rfl, rfl, hB0⟩

def ref33_in.f (k : Nat) (n_0 : Int) (low_1 : Int) (high_2 : Int) : Option Bool := (Option.bind (α := Bool) (if (decide (n_0 ≥ low_1)) = true then (some (decide (n_0 ≤ high_2))) else (some false)) (fun t2 => (some t2)))
theorem ref33_in.calls (k : Nat) (n_0 : Int) (low_1 : Int) (high_2 : Int)  (r : Bool) (w0 : World)  (H : ref33_in.f k n_0 low_1 high_2 = some r) :
    Calls Try.prog 23 #[(.int .i64 n_0), (.int .i64 low_1), (.int .i64 high_2)] w0 fun e w' => ∃ v, e = .returned v ∧ v = (.bool r) ∧ Below w0.heap.size w0 w' := by
  unfold ref33_in.f at H
  have hB0 := Below.refl w0.heap.size w0
  refine enterL (n := 15) [(.int .i64 n_0), (.int .i64 low_1), (.int .i64 high_2)] Try.func23 rfl rfl rfl ?_
  intro a hA
  refine wp_seq ?_
  refine wp_region_lit ?_
  refine L1 (stv hA (by decide) (run_assign (hA.ev rfl)) ?_); intro a hA
  refine LQ ?_
  refine TN ?_
  refine wp_seq ?_
  obtain ⟨o4, H3, H⟩ := Option.bind_eq_some_iff.1 H
  refine cutC (fun a w => ∃ (t2 : Bool), t2 = o4 ∧ w0 = w ∧ Has 15 [(6, (.bool t2))] a) ?_ ?_
  · refine wp_region_lit ?_
    refine L1 (stv hA (by decide) (run_move (hA.ev rfl)) ?_); intro a hA
    refine L1 (stv hA (by decide) (run_move (hA.ev rfl)) ?_); intro a hA
    refine L1 (stv hA (by decide) (run_bin (hA.ev rfl) (hA.ev rfl) (bin_geq _ _ _ _)) ?_); intro a hA
    refine L1 (stv hA (by decide) (run_move (hA.ev rfl)) ?_); intro a hA
    refine bsplit (b := (decide (n_0 ≥ low_1))) (fun hb5 => ?_) (fun hb5 => ?_)
    · replace H3 := ite_t hb5 H3
      have hA := hA.re (t := 10) rfl (congrArg Value.bool hb5)
      refine L1 (gate_on rfl rfl hA (by decide) rfl (stv hA (by decide) (run_move (hA.ev rfl)) ?_)); intro a hA
      refine L1 (gate_on rfl rfl hA (by decide) rfl (stv hA (by decide) (run_move (hA.ev rfl)) ?_)); intro a hA
      refine L1 (gate_on rfl rfl hA (by decide) rfl (stv hA (by decide) (run_bin (hA.ev rfl) (hA.ev rfl) (bin_leq _ _ _ _)) ?_)); intro a hA
      refine L1 (stv hA (by decide) (run_pick (hA.ev rfl) (fun _ => hA.ev rfl) (fun h => Bool.noConfusion h)) ?_); intro a hA
      refine L1 (stv hA (by decide) (run_assign (hA.ev rfl)) ?_); intro a hA
      refine LQ ?_
      exact ⟨(decide (n_0 ≤ high_2)), Option.some.inj H3, rfl, (hA.nil.cons (hA.get 6 _ rfl))⟩
    · replace H3 := ite_f hb5 H3
      have hA := hA.re (t := 10) rfl (congrArg Value.bool hb5)
      refine L1 (gate_off rfl (by decide) rfl hA (by decide) rfl rfl ?_); intro a hA
      refine L1 (gate_off rfl (by decide) rfl hA (by decide) rfl rfl ?_); intro a hA
      refine L1 (gate_off rfl (by decide) rfl hA (by decide) rfl rfl ?_); intro a hA
      refine L1 (stv hA (by decide) (run_pick (hA.ev rfl) (fun h => Bool.noConfusion h) (fun _ => hA.ev rfl)) ?_); intro a hA
      refine L1 (stv hA (by decide) (run_assign (hA.ev rfl)) ?_); intro a hA
      refine LQ ?_
      exact ⟨false, Option.some.inj H3, rfl, (hA.nil.cons (hA.get 6 _ rfl))⟩
  rintro a _ ⟨t2, rfl, rfl, hA⟩
  try dsimp only at H
  refine TN ?_
  refine wp_ret ?_
  cases H
  exact ret_post1 (fn := Try.f23) hA rfl rfl ⟨_, rfl, rfl, hB0⟩

def ref33_Rate.f (k : Nat) (fee_0 : Int) (weight_1 : Int) : Option Int := (Option.bind (α := Bool) (if (decide (fee_0 < 0)) = true then (some true) else (if (decide (fee_0 > 2100000000000000)) = true then (some true) else ((ref33_in.f k weight_1 1 80000).bind fun r13 => (some (!r13))))) (fun t7 => (if t7 = true then (some 0) else (if ¬ weight_1 = 0 then (some (if 1048576 < IntKind.i64.wrap ((IntKind.i64.wrap (1000 * fee_0)).tdiv weight_1) then 1048576 else IntKind.i64.wrap ((IntKind.i64.wrap (1000 * fee_0)).tdiv weight_1))) else none))))
theorem ref33_Rate.calls (k : Nat) (fee_0 : Int) (weight_1 : Int)  (r : Int) (w0 : World)  (H : ref33_Rate.f k fee_0 weight_1 = some r) :
    Calls Try.prog 9 #[(.int .i64 fee_0), (.int .i64 weight_1)] w0 fun e w' => ∃ v, e = .returned v ∧ v = (.int .i64 r) ∧ Below w0.heap.size w0 w' := by
  unfold ref33_Rate.f at H
  have hB0 := Below.refl w0.heap.size w0
  refine enterL (n := 21) [(.int .i64 fee_0), (.int .i64 weight_1)] Try.func9 rfl rfl rfl ?_
  intro a hA
  refine wp_seq ?_
  refine wp_region_lit ?_
  refine L1 (stv hA (by decide) (run_assign (hA.ev rfl)) ?_); intro a hA
  refine LQ ?_
  refine TN ?_
  refine wp_seq ?_
  refine wp_seq ?_
  obtain ⟨o9, H8, H⟩ := Option.bind_eq_some_iff.1 H
  refine cutC (fun a w => ∃ (t7 : Bool), t7 = o9 ∧ (Below w0.heap.size w0 w) ∧ Has 21 [(0, (.int .i64 fee_0)), (1, (.int .i64 weight_1)), (15, (.bool t7))] a) ?_ ?_
  · refine wp_region_lit ?_
    refine L1 (stv hA (by decide) (run_move (hA.ev rfl)) ?_); intro a hA
    refine L1 (stv hA (by decide) (run_bin (hA.ev rfl) (hA.ev rfl) (bin_lss _ _ _ _)) ?_); intro a hA
    refine L1 (stv hA (by decide) (run_move (hA.ev rfl)) ?_); intro a hA
    refine bsplit (b := (decide (fee_0 < 0))) (fun hb11 => ?_) (fun hb11 => ?_)
    · replace H8 := ite_t hb11 H8
      have hA := hA.re (t := 7) rfl (congrArg Value.bool hb11)
      refine L1 (gate_off rfl (by decide) rfl hA (by decide) rfl rfl ?_); intro a hA
      refine L1 (gate_off rfl (by decide) rfl hA (by decide) rfl rfl ?_); intro a hA
      refine L1 (stv hA (by decide) (run_pick (hA.ev rfl) (fun _ => hA.ev rfl) (fun h => Bool.noConfusion h)) ?_); intro a hA
      refine L1 (stv hA (by decide) (run_move (hA.ev rfl)) ?_); intro a hA
      refine L1 (gate_off rfl (by decide) rfl hA (by decide) rfl rfl ?_); intro a hA
      refine L1 (gate_off rfl (by decide) rfl hA (by decide) rfl rfl ?_); intro a hA
      refine L1 (gate_off rfl (by decide) rfl hA (by decide) rfl rfl ?_); intro a hA
      refine L1 (stv hA (by decide) (run_pick (hA.ev rfl) (fun _ => hA.ev rfl) (fun h => Bool.noConfusion h)) ?_); intro a hA
      refine LQ ?_
      exact ⟨true, Option.some.inj H8, hB0, (((hA.nil.cons (hA.get 15 _ rfl)).cons (hA.get 1 _ rfl)).cons (hA.get 0 _ rfl))⟩
    · replace H8 := ite_f hb11 H8
      have hA := hA.re (t := 7) rfl (congrArg Value.bool hb11)
      refine L1 (gate_on rfl rfl hA (by decide) rfl (stv hA (by decide) (run_move (hA.ev rfl)) ?_)); intro a hA
      refine L1 (gate_on rfl rfl hA (by decide) rfl (stv hA (by decide) (run_bin (hA.ev rfl) (hA.ev rfl) (bin_gtr _ _ _ _)) ?_)); intro a hA
      refine L1 (stv hA (by decide) (run_pick (hA.ev rfl) (fun h => Bool.noConfusion h) (fun _ => hA.ev rfl)) ?_); intro a hA
      refine L1 (stv hA (by decide) (run_move (hA.ev rfl)) ?_); intro a hA
      refine bsplit (b := (decide (fee_0 > 2100000000000000))) (fun hb12 => ?_) (fun hb12 => ?_)
      · replace H8 := ite_t hb12 H8
        have hA := hA.re (t := 11) rfl (congrArg Value.bool hb12)
        refine L1 (gate_off rfl (by decide) rfl hA (by decide) rfl rfl ?_); intro a hA
        refine L1 (gate_off rfl (by decide) rfl hA (by decide) rfl rfl ?_); intro a hA
        refine L1 (gate_off rfl (by decide) rfl hA (by decide) rfl rfl ?_); intro a hA
        refine L1 (stv hA (by decide) (run_pick (hA.ev rfl) (fun _ => hA.ev rfl) (fun h => Bool.noConfusion h)) ?_); intro a hA
        refine LQ ?_
        exact ⟨true, Option.some.inj H8, hB0, (((hA.nil.cons (hA.get 15 _ rfl)).cons (hA.get 1 _ rfl)).cons (hA.get 0 _ rfl))⟩
      · replace H8 := ite_f hb12 H8
        have hA := hA.re (t := 11) rfl (congrArg Value.bool hb12)
        refine L1 (gate_on rfl rfl hA (by decide) rfl (stv hA (by decide) (run_move (hA.ev rfl)) ?_)); intro a hA
        obtain ⟨r13, H14, H8⟩ := Option.bind_eq_some_iff.1 H8
        refine L1 (gate_on rfl rfl hA (by decide) rfl (st_call Try.call23 hA [(.int .i64 weight_1), (.int .i64 1), (.int .i64 80000)] rfl (by decide) (ref33_in.calls _ _ _ _ _ _ H14) ?_))
        rintro _ w15 ⟨rfl, hE16⟩ a hA
        refine L1 (gate_on rfl rfl hA (by decide) rfl (stv hA (by decide) (run_not (hA.ev rfl)) ?_)); intro a hA
        refine L1 (stv hA (by decide) (run_pick (hA.ev rfl) (fun h => Bool.noConfusion h) (fun _ => hA.ev rfl)) ?_); intro a hA
        refine LQ ?_
        have hB17 := hB0.trans (hE16.mono hB0.size)
        exact ⟨(!r13), Option.some.inj H8, hB17, (((hA.nil.cons (hA.get 15 _ rfl)).cons (hA.get 1 _ rfl)).cons (hA.get 0 _ rfl))⟩
  rintro a w18 ⟨t7, rfl, hB10, hA⟩
  try dsimp only at H
  refine TN ?_
  refine tcond (b := t7) hA rfl (fun hb19 => ?_) (fun hb19 => ?_)
  · replace H := ite_t hb19 H
    refine wp_seq ?_
    refine wp_region_lit ?_
    refine L1 (stv hA (by decide) (run_assign (hA.ev rfl)) ?_); intro a hA
    refine LQ ?_
    refine TN ?_
    refine wp_ret ?_
    cases H
    refine TR ?_
    exact ret_post1 (fn := Try.f9) hA rfl rfl ⟨_, rfl, rfl, hB10⟩
  · replace H := ite_f hb19 H
    refine wp_skip ?_
    refine TN ?_
    refine wp_seq ?_
    refine wp_region_lit ?_
    refine L1 (stv hA (by decide) (run_move (hA.ev rfl)) ?_); intro a hA
    refine L1 (stv hA (by decide) (run_bin (hA.ev rfl) (hA.ev rfl) (bin_mul _ _ _ _)) ?_); intro a hA
    refine L1 (stv hA (by decide) (run_move (hA.ev rfl)) ?_); intro a hA
    obtain ⟨hd20, H⟩ := ite_some H
    refine L1 (stv hA (by decide) (run_bin (hA.ev rfl) (hA.ev rfl) (bin_quo _ _ _ _ hd20)) ?_); intro a hA
    refine L1 (stv hA (by decide) (run_min (hA.ev rfl) (hA.ev rfl)) ?_); intro a hA
    refine L1 (stv hA (by decide) (run_assign (hA.ev rfl)) ?_); intro a hA
    refine LQ ?_
    refine TN ?_
    refine wp_ret ?_
    cases H
    exact ret_post1 (fn := Try.f9) hA rfl rfl ⟨_, rfl, rfl, hB10⟩

def ref33_Bound.l0 (class_0 : Int) : Nat → Int → Int → Option (Int)
  | 0, _, _ => none
  | k + 1, n17, i18 => (if (decide (i18 < class_0)) = true then (ref33_Bound.l0 class_0 k (IntKind.i64.wrap (n17 + (IntKind.i64.wrap (n17.tdiv 2)))) (IntKind.i64.wrap (i18 + 1))) else (some n17))
def ref33_Bound.f (k : Nat) (class_0 : Int) : Option Int := ((ref33_in.f k class_0 0 23).bind fun r1 => (if (!r1) = true then (some 0) else (Option.bind (α := Int) (ref33_Bound.l0 class_0 k 10 0) (fun n19 => (some n19)))))
theorem ref33_Bound.calls (k : Nat) (class_0 : Int)  (r : Int) (w0 : World)  (H : ref33_Bound.f k class_0 = some r) :
    Calls Try.prog 11 #[(.int .i64 class_0)] w0 fun e w' => ∃ v, e = .returned v ∧ v = (.int .i64 r) ∧ Below w0.heap.size w0 w' := by
  unfold ref33_Bound.f at H
  have hB0 := Below.refl w0.heap.size w0
  refine enterL (n := 18) [(.int .i64 class_0)] Try.func11 rfl rfl rfl ?_
  intro a hA
  refine wp_seq ?_
  refine wp_region_lit ?_
  refine L1 (stv hA (by decide) (run_assign (hA.ev rfl)) ?_); intro a hA
  refine LQ ?_
  refine TN ?_
  refine wp_seq ?_
  refine wp_seq ?_
  refine wp_region_lit ?_
  refine L1 (stv hA (by decide) (run_move (hA.ev rfl)) ?_); intro a hA
  obtain ⟨r1, H2, H⟩ := Option.bind_eq_some_iff.1 H
  refine L1 (st_call Try.call23 hA [(.int .i64 class_0), (.int .i64 0), (.int .i64 23)] rfl (by decide) (ref33_in.calls _ _ _ _ _ _ H2) ?_)
  rintro _ w3 ⟨rfl, hE4⟩ a hA
  refine L1 (stv hA (by decide) (run_not (hA.ev rfl)) ?_); intro a hA
  refine LQ ?_
  refine TN ?_
  refine tcond (b := (!r1)) hA rfl (fun hb5 => ?_) (fun hb5 => ?_)
  · replace H := ite_t hb5 H
    refine wp_seq ?_
    refine wp_region_lit ?_
    refine L1 (stv hA (by decide) (run_assign (hA.ev rfl)) ?_); intro a hA
    refine LQ ?_
    refine TN ?_
    refine wp_ret ?_
    have hB6 := hB0.trans (hE4.mono hB0.size)
    cases H
    refine TR ?_
    exact ret_post1 (fn := Try.f11) hA rfl rfl ⟨_, rfl, rfl, hB6⟩
  · replace H := ite_f hb5 H
    refine wp_skip ?_
    refine TN ?_
    refine wp_seq ?_
    refine wp_region_lit ?_
    refine L1 (stv hA (by decide) (run_assign (hA.ev rfl)) ?_); intro a hA
    refine LQ ?_
    refine TN ?_
    refine wp_seq ?_
    refine wp_seq ?_
    refine wp_region_lit ?_
    refine L1 (stv hA (by decide) (run_assign (hA.ev rfl)) ?_); intro a hA
    refine LQ ?_
    refine TN ?_
    obtain ⟨o21, H20, H⟩ := Option.bind_eq_some_iff.1 H
    refine cutC (fun a w => ∃ (n19 : Int), n19 = o21 ∧ w3 = w ∧ Has 18 [(3, (.int .i64 n19))] a) ?_ ?_
    · refine wp_block ?_
      refine wp_loop_ghost (fun m a w => ∃ (n17 : Int) (i18 : Int), ref33_Bound.l0 class_0 m n17 i18 = some o21 ∧ w3 = w ∧ Has 18 [(0, (.int .i64 class_0)), (3, (.int .i64 n17)), (4, (.int .i64 i18))] a) k ⟨10, 0, H20, rfl, (((hA.nil.cons (hA.get 4 _ rfl)).cons (hA.get 3 _ rfl)).cons (hA.get 0 _ rfl))⟩ ?_
      rintro m22 a _ ⟨n17, i18, H20, rfl, hA⟩
      cases m22 with
      | zero => exact absurd H20 (by simp [ref33_Bound.l0])
      | succ m22 =>
      rw [ref33_Bound.l0] at H20
      refine wp_seq ?_
      refine wp_seq ?_
      refine wp_region_lit ?_
      refine L1 (stv hA (by decide) (run_move (hA.ev rfl)) ?_); intro a hA
      refine L1 (stv hA (by decide) (run_move (hA.ev rfl)) ?_); intro a hA
      refine L1 (stv hA (by decide) (run_bin (hA.ev rfl) (hA.ev rfl) (bin_lss _ _ _ _)) ?_); intro a hA
      refine LQ ?_
      refine TN ?_
      refine tcond (b := (decide (i18 < class_0))) hA rfl (fun hb24 => ?_) (fun hb24 => ?_)
      · replace H20 := ite_t hb24 H20
        refine wp_skip ?_
        refine TN ?_
        refine wp_seq ?_
        refine wp_block ?_
        refine wp_region_lit ?_
        refine L1 (stv hA (by decide) (run_move (hA.ev rfl)) ?_); intro a hA
        refine L1 (stv hA (by decide) (run_move (hA.ev rfl)) ?_); intro a hA
        refine L1 (stv hA (by decide) (run_bin (hA.ev rfl) (hA.ev rfl) (bin_quo _ _ _ _ (by decide))) ?_); intro a hA
        refine L1 (stv hA (by decide) (run_bin (hA.ev rfl) (hA.ev rfl) (bin_add _ _ _ _)) ?_); intro a hA
        refine L1 (stv hA (by decide) (run_assign (hA.ev rfl)) ?_); intro a hA
        refine LQ ?_
        refine BN ?_
        refine TN ?_
        refine wp_region_lit ?_
        refine L1 (stv hA (by decide) (run_move (hA.ev rfl)) ?_); intro a hA
        refine L1 (stv hA (by decide) (run_bin (hA.ev rfl) (hA.ev rfl) (bin_add _ _ _ _)) ?_); intro a hA
        refine L1 (stv hA (by decide) (run_assign (hA.ev rfl)) ?_); intro a hA
        refine LQ ?_
        exact ⟨_, Nat.lt_succ_self m22, IntKind.i64.wrap (n17 + (IntKind.i64.wrap (n17.tdiv 2))), IntKind.i64.wrap (i18 + 1), H20, rfl, (((hA.nil.cons (hA.get 4 _ rfl)).cons (hA.get 3 _ rfl)).cons (hA.get 0 _ rfl))⟩
      · replace H20 := ite_f hb24 H20
        refine wp_exit ?_
        refine TX ?_
        refine TX ?_
        refine BX ?_
        exact ⟨n17, Option.some.inj H20, rfl, (hA.nil.cons (hA.get 3 _ rfl))⟩
    rintro a _ ⟨n19, rfl, rfl, hA⟩
    try dsimp only at H
    refine TN ?_
    refine wp_seq ?_
    refine wp_region_lit ?_
    refine L1 (stv hA (by decide) (run_move (hA.ev rfl)) ?_); intro a hA
    refine L1 (stv hA (by decide) (run_assign (hA.ev rfl)) ?_); intro a hA
    refine LQ ?_
    refine TN ?_
    refine wp_ret ?_
    have hB26 := hB0.trans (hE4.mono hB0.size)
    cases H
    exact ret_post1 (fn := Try.f11) hA rfl rfl ⟨_, rfl, rfl, hB26⟩

def ref33_Class.l0 (rate_0 : Int) : Nat → Int → Int → Option (Int)
  | 0, _, _ => none
  | k + 1, out41, c42 => (if (decide (c42 < 24)) = true then ((ref33_Bound.f k c42).bind fun r51 => (Option.bind (α := Int) (if (decide (r51 ≤ rate_0)) = true then (some c42) else (some out41)) (fun out56 => (ref33_Class.l0 rate_0 k out56 (IntKind.i64.wrap (c42 + 1)))))) else (some out41))
def ref33_Class.f (k : Nat) (rate_0 : Int) : Option Int := (Option.bind (α := Int) (ref33_Class.l0 rate_0 k (-1) 0) (fun out43 => (some out43)))
theorem ref33_Class.calls (k : Nat) (rate_0 : Int)  (r : Int) (w0 : World)  (H : ref33_Class.f k rate_0 = some r) :
    Calls Try.prog 13 #[(.int .i64 rate_0)] w0 fun e w' => ∃ v, e = .returned v ∧ v = (.int .i64 r) ∧ Below w0.heap.size w0 w' := by
  unfold ref33_Class.f at H
  have hB0 := Below.refl w0.heap.size w0
  refine enterL (n := 15) [(.int .i64 rate_0)] Try.func13 rfl rfl rfl ?_
  intro a hA
  refine wp_seq ?_
  refine wp_region_lit ?_
  refine L1 (stv hA (by decide) (run_assign (hA.ev rfl)) ?_); intro a hA
  refine LQ ?_
  refine TN ?_
  refine wp_seq ?_
  refine wp_region_lit ?_
  refine L1 (stv hA (by decide) (run_assign (hA.ev rfl)) ?_); intro a hA
  refine LQ ?_
  refine TN ?_
  refine wp_seq ?_
  refine wp_seq ?_
  refine wp_region_lit ?_
  refine L1 (stv hA (by decide) (run_assign (hA.ev rfl)) ?_); intro a hA
  refine LQ ?_
  refine TN ?_
  obtain ⟨o45, H44, H⟩ := Option.bind_eq_some_iff.1 H
  refine cutC (fun a w => ∃ (out43 : Int), out43 = o45 ∧ (Below w0.heap.size w0 w) ∧ Has 15 [(3, (.int .i64 out43))] a) ?_ ?_
  · refine wp_block ?_
    refine wp_loop_ghost (fun m a w => ∃ (out41 : Int) (c42 : Int), ref33_Class.l0 rate_0 m out41 c42 = some o45 ∧ (Below w0.heap.size w0 w) ∧ Has 15 [(0, (.int .i64 rate_0)), (3, (.int .i64 out41)), (4, (.int .i64 c42))] a) k ⟨(-1), 0, H44, hB0, (((hA.nil.cons (hA.get 4 _ rfl)).cons (hA.get 3 _ rfl)).cons (hA.get 0 _ rfl))⟩ ?_
    rintro m48 a w49 ⟨out41, c42, H44, hB47, hA⟩
    cases m48 with
    | zero => exact absurd H44 (by simp [ref33_Class.l0])
    | succ m48 =>
    rw [ref33_Class.l0] at H44
    refine wp_seq ?_
    refine wp_seq ?_
    refine wp_region_lit ?_
    refine L1 (stv hA (by decide) (run_move (hA.ev rfl)) ?_); intro a hA
    refine L1 (stv hA (by decide) (run_bin (hA.ev rfl) (hA.ev rfl) (bin_lss _ _ _ _)) ?_); intro a hA
    refine LQ ?_
    refine TN ?_
    refine tcond (b := (decide (c42 < 24))) hA rfl (fun hb50 => ?_) (fun hb50 => ?_)
    · replace H44 := ite_t hb50 H44
      refine wp_skip ?_
      refine TN ?_
      refine wp_seq ?_
      refine wp_block ?_
      refine wp_seq ?_
      refine wp_region_lit ?_
      refine L1 (stv hA (by decide) (run_move (hA.ev rfl)) ?_); intro a hA
      obtain ⟨r51, H52, H44⟩ := Option.bind_eq_some_iff.1 H44
      refine L1 (st_call Try.call11 hA [(.int .i64 c42)] rfl (by decide) (ref33_Bound.calls _ _ _ _ H52) ?_)
      rintro _ w53 ⟨rfl, hE54⟩ a hA
      refine L1 (stv hA (by decide) (run_move (hA.ev rfl)) ?_); intro a hA
      refine L1 (stv hA (by decide) (run_bin (hA.ev rfl) (hA.ev rfl) (bin_leq _ _ _ _)) ?_); intro a hA
      refine LQ ?_
      refine TN ?_
      obtain ⟨o58, H57, H44⟩ := Option.bind_eq_some_iff.1 H44
      refine cutC (fun a w => ∃ (out56 : Int), out56 = o58 ∧ w53 = w ∧ Has 15 [(0, (.int .i64 rate_0)), (3, (.int .i64 out56)), (4, (.int .i64 c42))] a) ?_ ?_
      · refine tcond (b := (decide (r51 ≤ rate_0))) hA rfl (fun hb59 => ?_) (fun hb59 => ?_)
        · replace H57 := ite_t hb59 H57
          refine wp_region_lit ?_
          refine L1 (stv hA (by decide) (run_move (hA.ev rfl)) ?_); intro a hA
          refine L1 (stv hA (by decide) (run_assign (hA.ev rfl)) ?_); intro a hA
          refine LQ ?_
          exact ⟨c42, Option.some.inj H57, rfl, (((hA.nil.cons (hA.get 4 _ rfl)).cons (hA.get 3 _ rfl)).cons (hA.get 0 _ rfl))⟩
        · replace H57 := ite_f hb59 H57
          refine wp_skip ?_
          exact ⟨out41, Option.some.inj H57, rfl, (((hA.nil.cons (hA.get 4 _ rfl)).cons (hA.get 3 _ rfl)).cons (hA.get 0 _ rfl))⟩
      rintro a _ ⟨out56, rfl, rfl, hA⟩
      try dsimp only at H44
      refine BN ?_
      refine TN ?_
      refine wp_region_lit ?_
      refine L1 (stv hA (by decide) (run_move (hA.ev rfl)) ?_); intro a hA
      refine L1 (stv hA (by decide) (run_bin (hA.ev rfl) (hA.ev rfl) (bin_add _ _ _ _)) ?_); intro a hA
      refine L1 (stv hA (by decide) (run_assign (hA.ev rfl)) ?_); intro a hA
      refine LQ ?_
      have hB61 := hB47.trans (hE54.mono hB47.size)
      exact ⟨_, Nat.lt_succ_self m48, out56, IntKind.i64.wrap (c42 + 1), H44, hB61, (((hA.nil.cons (hA.get 4 _ rfl)).cons (hA.get 3 _ rfl)).cons (hA.get 0 _ rfl))⟩
    · replace H44 := ite_f hb50 H44
      refine wp_exit ?_
      refine TX ?_
      refine TX ?_
      refine BX ?_
      exact ⟨out41, Option.some.inj H44, hB47, (hA.nil.cons (hA.get 3 _ rfl))⟩
  rintro a w62 ⟨out43, rfl, hB46, hA⟩
  try dsimp only at H
  refine TN ?_
  refine wp_seq ?_
  refine wp_region_lit ?_
  refine L1 (stv hA (by decide) (run_move (hA.ev rfl)) ?_); intro a hA
  refine L1 (stv hA (by decide) (run_assign (hA.ev rfl)) ?_); intro a hA
  refine LQ ?_
  refine TN ?_
  refine wp_ret ?_
  cases H
  exact ret_post1 (fn := Try.f13) hA rfl rfl ⟨_, rfl, rfl, hB46⟩

def law33_FeesClasses.l0 (rate_1 : Int) (fee_2 : Int) (weight_3 : Int) (r8 : Int) (r13 : Int) : Nat → Int → Option (Out Bool (Unit))
  | 0, _ => none
  | k + 1, t294 => (if (decide (t294 < (3 : Int))) = true then (if 0 ≤ t294 ∧ t294 < ([weight_3, r8, IntKind.i64.wrap (80000 + r13)].length : Int) then (Option.bind (α := Bool) ((fees_Rate.f k fee_2 ([weight_3, r8, IntKind.i64.wrap (80000 + r13)].getD t294.toNat (0 : Int))).bind fun r349 => ((ref33_Rate.f k fee_2 ([weight_3, r8, IntKind.i64.wrap (80000 + r13)].getD t294.toNat (0 : Int))).bind fun r355 => (if (r349 != r355) = true then (some true) else ((mill_Mod.f k rate_1 100000).bind fun r364 => ((fees_Rate.f k r364 ([weight_3, r8, IntKind.i64.wrap (80000 + r13)].getD t294.toNat (0 : Int))).bind fun r370 => ((mill_Mod.f k rate_1 100000).bind fun r376 => ((ref33_Rate.f k r376 ([weight_3, r8, IntKind.i64.wrap (80000 + r13)].getD t294.toNat (0 : Int))).bind fun r382 => (some (r370 != r382))))))))) (fun t344 => (if t344 = true then (some (.ret false)) else (law33_FeesClasses.l0 rate_1 fee_2 weight_3 r8 r13 k (IntKind.i64.wrap (t294 + 1)))))) else none) else (some (.go ())))
def law33_FeesClasses.l1 (class_0 : Int) (r391 : Int) : Nat → Int → Option (Out Bool (Unit))
  | 0, _ => none
  | k + 1, t828 => (if (decide (t828 < (2 : Int))) = true then (if 0 ≤ t828 ∧ t828 < ([class_0, IntKind.i64.wrap (r391 - 1)].length : Int) then (Option.bind (α := Bool) ((fees_Bound.f k ([class_0, IntKind.i64.wrap (r391 - 1)].getD t828.toNat (0 : Int))).bind fun r908 => ((ref33_Bound.f k ([class_0, IntKind.i64.wrap (r391 - 1)].getD t828.toNat (0 : Int))).bind fun r914 => (if (r908 != r914) = true then (some true) else ((ref33_Bound.f k ([class_0, IntKind.i64.wrap (r391 - 1)].getD t828.toNat (0 : Int))).bind fun r923 => ((fees_Class.f k r923).bind fun r929 => ((ref33_Bound.f k ([class_0, IntKind.i64.wrap (r391 - 1)].getD t828.toNat (0 : Int))).bind fun r935 => ((ref33_Class.f k r935).bind fun r941 => (if (r929 != r941) = true then (some true) else ((ref33_Bound.f k ([class_0, IntKind.i64.wrap (r391 - 1)].getD t828.toNat (0 : Int))).bind fun r950 => ((fees_Class.f k (IntKind.i64.wrap (r950 - 1))).bind fun r956 => ((ref33_Bound.f k ([class_0, IntKind.i64.wrap (r391 - 1)].getD t828.toNat (0 : Int))).bind fun r962 => ((ref33_Class.f k (IntKind.i64.wrap (r962 - 1))).bind fun r968 => (some (r956 != r968)))))))))))))) (fun t903 => (if t903 = true then (some (.ret false)) else (law33_FeesClasses.l1 class_0 r391 k (IntKind.i64.wrap (t828 + 1)))))) else none) else (some (.go ())))
def law33_FeesClasses.f (k : Nat) (class_0 : Int) (rate_1 : Int) (fee_2 : Int) (weight_3 : Int) : Option Bool := ((law33_sane.f k ).bind fun r1 => (if (!r1) = true then (some false) else ((mill_Mod.f k weight_3 5000).bind fun r8 => ((mill_Mod.f k weight_3 2).bind fun r13 => (Option.bind (α := Out Bool (Unit)) (law33_FeesClasses.l0 rate_1 fee_2 weight_3 r8 r13 k 0) (fun o => match o with | .ret r => some r | .go _ => ((mill_Mod.f k class_0 26).bind fun r391 => (Option.bind (α := Out Bool (Unit)) (law33_FeesClasses.l1 class_0 r391 k 0) (fun o => match o with | .ret r => some r | .go _ => (Option.bind (α := Bool) ((fees_Class.f k rate_1).bind fun r1011 => ((ref33_Class.f k rate_1).bind fun r1016 => (if (r1011 == r1016) = true then ((mill_Mod.f k rate_1 200000).bind fun r1022 => ((fees_Class.f k r1022).bind fun r1027 => ((mill_Mod.f k rate_1 200000).bind fun r1032 => ((ref33_Class.f k r1032).bind fun r1037 => (some (r1027 == r1037)))))) else (some false)))) (fun t1007 => (some t1007))))))))))))
theorem law33_FeesClasses.calls (k : Nat) (class_0 : Int) (rate_1 : Int) (fee_2 : Int) (weight_3 : Int)  (r : Bool) (w0 : World)  (H : law33_FeesClasses.f k class_0 rate_1 fee_2 weight_3 = some r) :
    Calls Try.prog 3 #[(.int .i64 class_0), (.int .i64 rate_1), (.int .i64 fee_2), (.int .i64 weight_3)] w0 fun e w' => ∃ v, e = .returned v ∧ v = (.bool r) ∧ Below w0.heap.size w0 w' := by
  unfold law33_FeesClasses.f at H
  have hB0 := Below.refl w0.heap.size w0
  refine enterL (n := 96) [(.int .i64 class_0), (.int .i64 rate_1), (.int .i64 fee_2), (.int .i64 weight_3)] Try.func3 rfl rfl rfl ?_
  intro a hA
  refine wp_seq ?_
  refine wp_region_lit ?_
  refine L1 (stv hA (by decide) (run_assign (hA.ev rfl)) ?_); intro a hA
  refine LQ ?_
  refine TN ?_
  refine wp_seq ?_
  refine wp_seq ?_
  refine wp_region_lit ?_
  obtain ⟨r1, H2, H⟩ := Option.bind_eq_some_iff.1 H
  refine L1 (st_call Try.call6 hA [] rfl (by decide) (law33_sane.calls _ _ _ H2) ?_)
  rintro _ w3 ⟨rfl, hE4⟩ a hA
  refine L1 (stv hA (by decide) (run_not (hA.ev rfl)) ?_); intro a hA
  refine LQ ?_
  refine TN ?_
  refine tcond (b := (!r1)) hA rfl (fun hb5 => ?_) (fun hb5 => ?_)
  · replace H := ite_t hb5 H
    refine wp_seq ?_
    refine wp_region_lit ?_
    refine L1 (stv hA (by decide) (run_assign (hA.ev rfl)) ?_); intro a hA
    refine LQ ?_
    refine TN ?_
    refine wp_ret ?_
    have hB6 := hB0.trans (hE4.mono hB0.size)
    cases H
    refine TR ?_
    exact ret_post1 (fn := Try.f3) hA rfl rfl ⟨_, rfl, rfl, hB6⟩
  · replace H := ite_f hb5 H
    refine wp_skip ?_
    refine TN ?_
    refine wp_seq ?_
    refine wp_seq ?_
    refine wp_region_lit ?_
    refine L1 (stv hA (by decide) (run_move (hA.ev rfl)) ?_); intro a hA
    refine L1 (stv hA (by decide) (run_move (hA.ev rfl)) ?_); intro a hA
    have hB7 := hB0.trans (hE4.mono hB0.size)
    obtain ⟨r8, H9, H⟩ := Option.bind_eq_some_iff.1 H
    refine L1 (st_call Try.call7 hA [(.int .i64 weight_3), (.int .i64 5000)] rfl (by decide) (mill_Mod.calls _ _ _ _ _ H9) ?_)
    rintro _ w10 ⟨rfl, hE11⟩ a hA
    refine L1 (stv hA (by decide) (run_move (hA.ev rfl)) ?_); intro a hA
    have hB12 := hB7.trans (hE11.mono hB7.size)
    obtain ⟨r13, H14, H⟩ := Option.bind_eq_some_iff.1 H
    refine L1 (st_call Try.call7 hA [(.int .i64 weight_3), (.int .i64 2)] rfl (by decide) (mill_Mod.calls _ _ _ _ _ H14) ?_)
    rintro _ w15 ⟨rfl, hE16⟩ a hA
    refine L1 (stv hA (by decide) (run_bin (hA.ev rfl) (hA.ev rfl) (bin_add _ _ _ _)) ?_); intro a hA
    have hB17 := hB12.trans (hE16.mono hB12.size)
    refine L1 (st_litN [weight_3, r8, IntKind.i64.wrap (80000 + r13)] [(.int .i64 weight_3), (.int .i64 r8), (.int .i64 (IntKind.i64.wrap (80000 + r13)))] elt24 rfl (by decide) hA rfl rfl (List.cons_ne_nil _ _) (by decide) ?_)
    intro w19 g18 hg20 hz21 hO22 hE23 a hA
    replace hO22 := hO22.base hB17.size
    refine L1 (stv hA (by decide) (run_len_slice Try.underlying24 (hA.ev rfl)) ?_); intro a hA
    refine L1 (stv hA (by decide) (run_move (hA.ev rfl)) ?_); intro a hA
    refine LQ ?_
    refine TN ?_
    obtain ⟨o296, H295, H⟩ := Option.bind_eq_some_iff.1 H
    refine cutC (fun a w => (.go ()) = o296 ∧ (Below w0.heap.size w0 w) ∧ Has 96 [(0, (.int .i64 class_0)), (1, (.int .i64 rate_1))] a) ?_ ?_
    · refine wp_block ?_
      have hB300 := hB17.trans (hE23.mono hB17.size)
      refine wp_loop_ghost (fun m a w => ∃ (t294 : Int), law33_FeesClasses.l0 rate_1 fee_2 weight_3 r8 r13 m t294 = some o296 ∧ (Below w0.heap.size w0 w) ∧ (Own (Pl.int .i64) 3 w0.heap.size w (.slice (some ⟨g18, 0, none⟩) 3 3) [weight_3, r8, IntKind.i64.wrap (80000 + r13)]) ∧ Has 96 [(0, (.int .i64 class_0)), (1, (.int .i64 rate_1)), (2, (.int .i64 fee_2)), (21, (.slice (some ⟨g18, 0, none⟩) 3 3)), (22, (.int .i64 (3 : Int))), (23, (.int .i64 t294))] a) k ⟨0, H295, hB300, hO22, ((((((hA.nil.cons (hA.get 23 _ rfl)).cons (hA.get 22 _ rfl)).cons (hA.get 21 _ rfl)).cons (hA.get 2 _ rfl)).cons (hA.get 1 _ rfl)).cons (hA.get 0 _ rfl))⟩ ?_
      rintro m301 a w302 ⟨t294, H295, hB298, hO299, hA⟩
      cases m301 with
      | zero => exact absurd H295 (by simp [law33_FeesClasses.l0])
      | succ m301 =>
      rw [law33_FeesClasses.l0] at H295
      refine wp_seq ?_
      refine wp_region_lit ?_
      refine L1 (stv hA (by decide) (run_bin (hA.ev rfl) (hA.ev rfl) (bin_lss _ _ _ _)) ?_); intro a hA
      refine LQ ?_
      refine TN ?_
      refine wp_seq ?_
      refine tcond (b := (decide (t294 < (3 : Int)))) hA rfl (fun hb303 => ?_) (fun hb303 => ?_)
      · replace H295 := ite_t hb303 H295
        refine wp_skip ?_
        refine TN ?_
        refine wp_seq ?_
        refine wp_block ?_
        refine wp_seq ?_
        refine wp_region_lit ?_
        obtain ⟨⟨hi304, hj305⟩, H295⟩ := ite_some H295
        obtain ⟨ad306, hq307, hat308⟩ := hO299.row.elem (0 : Int) t294 hi304 hj305
        refine L1 (stv hA (by decide) (run_idx Try.underlying24 Try.sizeOf3 (hA.ev rfl) hq307 (hA.ev rfl) hi304 hj305) ?_); intro a hA
        refine L1 (stv hA (by decide) (run_ld (hA.ev rfl) (run_loadS Try.isAgg3 hat308)) ?_); intro a hA
        refine L1 (stv hA (by decide) (run_assign (hA.ev rfl)) ?_); intro a hA
        refine LQ ?_
        refine TN ?_
        refine wp_seq ?_
        obtain ⟨o346, H345, H295⟩ := Option.bind_eq_some_iff.1 H295
        refine cutC (fun a w => ∃ (t344 : Bool), t344 = o346 ∧ (Below w0.heap.size w0 w) ∧ (Own (Pl.int .i64) 3 w0.heap.size w (.slice (some ⟨g18, 0, none⟩) 3 3) [weight_3, r8, IntKind.i64.wrap (80000 + r13)]) ∧ Has 96 [(0, (.int .i64 class_0)), (1, (.int .i64 rate_1)), (2, (.int .i64 fee_2)), (21, (.slice (some ⟨g18, 0, none⟩) 3 3)), (22, (.int .i64 (3 : Int))), (23, (.int .i64 t294)), (44, (.bool t344))] a) ?_ ?_
        · refine wp_region_lit ?_
          refine L1 (stv hA (by decide) (run_move (hA.ev rfl)) ?_); intro a hA
          refine L1 (stv hA (by decide) (run_move (hA.ev rfl)) ?_); intro a hA
          obtain ⟨r349, H350, H345⟩ := Option.bind_eq_some_iff.1 H345
          refine L1 (st_call Try.call8 hA [(.int .i64 fee_2), (.int .i64 ([weight_3, r8, IntKind.i64.wrap (80000 + r13)].getD t294.toNat (0 : Int)))] rfl (by decide) (fees_Rate.calls _ _ _ _ _ H350) ?_)
          rintro _ w351 ⟨rfl, hE352⟩ a hA
          refine L1 (stv hA (by decide) (run_move (hA.ev rfl)) ?_); intro a hA
          refine L1 (stv hA (by decide) (run_move (hA.ev rfl)) ?_); intro a hA
          have hB353 := hB298.trans (hE352.mono hB298.size)
          have h354 := hO299.ext hE352
          obtain ⟨r355, H356, H345⟩ := Option.bind_eq_some_iff.1 H345
          refine L1 (st_call Try.call9 hA [(.int .i64 fee_2), (.int .i64 ([weight_3, r8, IntKind.i64.wrap (80000 + r13)].getD t294.toNat (0 : Int)))] rfl (by decide) (ref33_Rate.calls _ _ _ _ _ H356) ?_)
          rintro _ w357 ⟨rfl, hE358⟩ a hA
          refine L1 (stv hA (by decide) (run_bin (hA.ev rfl) (hA.ev rfl) (bin_neq _ _ _ _)) ?_); intro a hA
          refine L1 (stv hA (by decide) (run_move (hA.ev rfl)) ?_); intro a hA
          refine bsplit (b := (r349 != r355)) (fun hb359 => ?_) (fun hb359 => ?_)
          · replace H345 := ite_t hb359 H345
            have hA := hA.re (t := 34) rfl (congrArg Value.bool hb359)
            refine L1 (gate_off rfl (by decide) rfl hA (by decide) rfl rfl ?_); intro a hA
            refine L1 (gate_off rfl (by decide) rfl hA (by decide) rfl rfl ?_); intro a hA
            refine L1 (gate_off rfl (by decide) rfl hA (by decide) rfl rfl ?_); intro a hA
            refine L1 (gate_off rfl (by decide) rfl hA (by decide) rfl rfl ?_); intro a hA
            refine L1 (gate_off rfl (by decide) rfl hA (by decide) rfl rfl ?_); intro a hA
            refine L1 (gate_off rfl (by decide) rfl hA (by decide) rfl rfl ?_); intro a hA
            refine L1 (gate_off rfl (by decide) rfl hA (by decide) rfl rfl ?_); intro a hA
            refine L1 (gate_off rfl (by decide) rfl hA (by decide) rfl rfl ?_); intro a hA
            refine L1 (gate_off rfl (by decide) rfl hA (by decide) rfl rfl ?_); intro a hA
            refine L1 (stv hA (by decide) (run_pick (hA.ev rfl) (fun _ => hA.ev rfl) (fun h => Bool.noConfusion h)) ?_); intro a hA
            refine LQ ?_
            have hB360 := hB353.trans (hE358.mono hB353.size)
            have h361 := h354.ext hE358
            exact ⟨true, Option.some.inj H345, hB360, h361, (((((((hA.nil.cons (hA.get 44 _ rfl)).cons (hA.get 23 _ rfl)).cons (hA.get 22 _ rfl)).cons (hA.get 21 _ rfl)).cons (hA.get 2 _ rfl)).cons (hA.get 1 _ rfl)).cons (hA.get 0 _ rfl))⟩
          · replace H345 := ite_f hb359 H345
            have hA := hA.re (t := 34) rfl (congrArg Value.bool hb359)
            refine L1 (gate_on rfl rfl hA (by decide) rfl (stv hA (by decide) (run_move (hA.ev rfl)) ?_)); intro a hA
            have hB362 := hB353.trans (hE358.mono hB353.size)
            have h363 := h354.ext hE358
            obtain ⟨r364, H365, H345⟩ := Option.bind_eq_some_iff.1 H345
            refine L1 (gate_on rfl rfl hA (by decide) rfl (st_call Try.call7 hA [(.int .i64 rate_1), (.int .i64 100000)] rfl (by decide) (mill_Mod.calls _ _ _ _ _ H365) ?_))
            rintro _ w366 ⟨rfl, hE367⟩ a hA
            refine L1 (gate_on rfl rfl hA (by decide) rfl (stv hA (by decide) (run_move (hA.ev rfl)) ?_)); intro a hA
            have hB368 := hB362.trans (hE367.mono hB362.size)
            have h369 := h363.ext hE367
            obtain ⟨r370, H371, H345⟩ := Option.bind_eq_some_iff.1 H345
            refine L1 (gate_on rfl rfl hA (by decide) rfl (st_call Try.call8 hA [(.int .i64 r364), (.int .i64 ([weight_3, r8, IntKind.i64.wrap (80000 + r13)].getD t294.toNat (0 : Int)))] rfl (by decide) (fees_Rate.calls _ _ _ _ _ H371) ?_))
            rintro _ w372 ⟨rfl, hE373⟩ a hA
            refine L1 (gate_on rfl rfl hA (by decide) rfl (stv hA (by decide) (run_move (hA.ev rfl)) ?_)); intro a hA
            have hB374 := hB368.trans (hE373.mono hB368.size)
            have h375 := h369.ext hE373
            obtain ⟨r376, H377, H345⟩ := Option.bind_eq_some_iff.1 H345
            refine L1 (gate_on rfl rfl hA (by decide) rfl (st_call Try.call7 hA [(.int .i64 rate_1), (.int .i64 100000)] rfl (by decide) (mill_Mod.calls _ _ _ _ _ H377) ?_))
            rintro _ w378 ⟨rfl, hE379⟩ a hA
            refine L1 (gate_on rfl rfl hA (by decide) rfl (stv hA (by decide) (run_move (hA.ev rfl)) ?_)); intro a hA
            have hB380 := hB374.trans (hE379.mono hB374.size)
            have h381 := h375.ext hE379
            obtain ⟨r382, H383, H345⟩ := Option.bind_eq_some_iff.1 H345
            refine L1 (gate_on rfl rfl hA (by decide) rfl (st_call Try.call9 hA [(.int .i64 r376), (.int .i64 ([weight_3, r8, IntKind.i64.wrap (80000 + r13)].getD t294.toNat (0 : Int)))] rfl (by decide) (ref33_Rate.calls _ _ _ _ _ H383) ?_))
            rintro _ w384 ⟨rfl, hE385⟩ a hA
            refine L1 (gate_on rfl rfl hA (by decide) rfl (stv hA (by decide) (run_bin (hA.ev rfl) (hA.ev rfl) (bin_neq _ _ _ _)) ?_)); intro a hA
            refine L1 (stv hA (by decide) (run_pick (hA.ev rfl) (fun h => Bool.noConfusion h) (fun _ => hA.ev rfl)) ?_); intro a hA
            refine LQ ?_
            have hB386 := hB380.trans (hE385.mono hB380.size)
            have h387 := h381.ext hE385
            exact ⟨(r370 != r382), Option.some.inj H345, hB386, h387, (((((((hA.nil.cons (hA.get 44 _ rfl)).cons (hA.get 23 _ rfl)).cons (hA.get 22 _ rfl)).cons (hA.get 21 _ rfl)).cons (hA.get 2 _ rfl)).cons (hA.get 1 _ rfl)).cons (hA.get 0 _ rfl))⟩
        rintro a w388 ⟨t344, rfl, hB347, hO348, hA⟩
        try dsimp only at H295
        refine TN ?_
        refine tcond (b := t344) hA rfl (fun hb389 => ?_) (fun hb389 => ?_)
        · replace H295 := ite_t hb389 H295
          refine wp_seq ?_
          refine wp_region_lit ?_
          refine L1 (stv hA (by decide) (run_assign (hA.ev rfl)) ?_); intro a hA
          refine LQ ?_
          refine TN ?_
          refine wp_ret ?_
          cases H295
          dsimp only at H
          cases H
          refine BR ?_
          refine TR ?_
          refine TR ?_
          refine BR ?_
          refine TR ?_
          refine TR ?_
          exact ret_post1 (fn := Try.f3) hA rfl rfl ⟨_, rfl, rfl, hB347⟩
        · replace H295 := ite_f hb389 H295
          refine wp_skip ?_
          refine BN ?_
          refine TN ?_
          refine wp_region_lit ?_
          refine L1 (stv hA (by decide) (run_bin (hA.ev rfl) (hA.ev rfl) (bin_add _ _ _ _)) ?_); intro a hA
          refine L1 (stv hA (by decide) (run_move (hA.ev rfl)) ?_); intro a hA
          refine LQ ?_
          exact ⟨_, Nat.lt_succ_self m301, IntKind.i64.wrap (t294 + 1), H295, hB347, hO348, ((((((hA.nil.cons (hA.get 23 _ rfl)).cons (hA.get 22 _ rfl)).cons (hA.get 21 _ rfl)).cons (hA.get 2 _ rfl)).cons (hA.get 1 _ rfl)).cons (hA.get 0 _ rfl))⟩
      · replace H295 := ite_f hb303 H295
        refine wp_exit ?_
        refine TX ?_
        refine TX ?_
        refine BX ?_
        exact ⟨Option.some.inj H295, hB298, ((hA.nil.cons (hA.get 1 _ rfl)).cons (hA.get 0 _ rfl))⟩
    rintro a w390 ⟨rfl, hB297, hA⟩
    try dsimp only at H
    refine TN ?_
    refine wp_seq ?_
    refine wp_seq ?_
    refine wp_region_lit ?_
    refine L1 (stv hA (by decide) (run_move (hA.ev rfl)) ?_); intro a hA
    refine L1 (stv hA (by decide) (run_move (hA.ev rfl)) ?_); intro a hA
    obtain ⟨r391, H392, H⟩ := Option.bind_eq_some_iff.1 H
    refine L1 (st_call Try.call7 hA [(.int .i64 class_0), (.int .i64 26)] rfl (by decide) (mill_Mod.calls _ _ _ _ _ H392) ?_)
    rintro _ w393 ⟨rfl, hE394⟩ a hA
    refine L1 (stv hA (by decide) (run_bin (hA.ev rfl) (hA.ev rfl) (bin_sub _ _ _ _)) ?_); intro a hA
    have hB395 := hB297.trans (hE394.mono hB297.size)
    refine L1 (st_litN [class_0, IntKind.i64.wrap (r391 - 1)] [(.int .i64 class_0), (.int .i64 (IntKind.i64.wrap (r391 - 1)))] elt24 rfl (by decide) hA rfl rfl (List.cons_ne_nil _ _) (by decide) ?_)
    intro w397 g396 hg398 hz399 hO400 hE401 a hA
    replace hO400 := hO400.base hB395.size
    refine L1 (stv hA (by decide) (run_len_slice Try.underlying24 (hA.ev rfl)) ?_); intro a hA
    refine L1 (stv hA (by decide) (run_move (hA.ev rfl)) ?_); intro a hA
    refine LQ ?_
    refine TN ?_
    obtain ⟨o830, H829, H⟩ := Option.bind_eq_some_iff.1 H
    refine cutC (fun a w => (.go ()) = o830 ∧ (Below w0.heap.size w0 w) ∧ Has 96 [(1, (.int .i64 rate_1))] a) ?_ ?_
    · refine wp_block ?_
      have hB834 := hB395.trans (hE401.mono hB395.size)
      refine wp_loop_ghost (fun m a w => ∃ (t828 : Int), law33_FeesClasses.l1 class_0 r391 m t828 = some o830 ∧ (Below w0.heap.size w0 w) ∧ (Own (Pl.int .i64) 3 w0.heap.size w (.slice (some ⟨g396, 0, none⟩) 2 2) [class_0, IntKind.i64.wrap (r391 - 1)]) ∧ Has 96 [(1, (.int .i64 rate_1)), (50, (.slice (some ⟨g396, 0, none⟩) 2 2)), (51, (.int .i64 (2 : Int))), (52, (.int .i64 t828))] a) k ⟨0, H829, hB834, hO400, ((((hA.nil.cons (hA.get 52 _ rfl)).cons (hA.get 51 _ rfl)).cons (hA.get 50 _ rfl)).cons (hA.get 1 _ rfl))⟩ ?_
      rintro m835 a w836 ⟨t828, H829, hB832, hO833, hA⟩
      cases m835 with
      | zero => exact absurd H829 (by simp [law33_FeesClasses.l1])
      | succ m835 =>
      rw [law33_FeesClasses.l1] at H829
      refine wp_seq ?_
      refine wp_region_lit ?_
      refine L1 (stv hA (by decide) (run_bin (hA.ev rfl) (hA.ev rfl) (bin_lss _ _ _ _)) ?_); intro a hA
      refine LQ ?_
      refine TN ?_
      refine wp_seq ?_
      refine tcond (b := (decide (t828 < (2 : Int)))) hA rfl (fun hb837 => ?_) (fun hb837 => ?_)
      · replace H829 := ite_t hb837 H829
        refine wp_skip ?_
        refine TN ?_
        refine wp_seq ?_
        refine wp_block ?_
        refine wp_seq ?_
        refine wp_region_lit ?_
        obtain ⟨⟨hi838, hj839⟩, H829⟩ := ite_some H829
        obtain ⟨ad840, hq841, hat842⟩ := hO833.row.elem (0 : Int) t828 hi838 hj839
        refine L1 (stv hA (by decide) (run_idx Try.underlying24 Try.sizeOf3 (hA.ev rfl) hq841 (hA.ev rfl) hi838 hj839) ?_); intro a hA
        refine L1 (stv hA (by decide) (run_ld (hA.ev rfl) (run_loadS Try.isAgg3 hat842)) ?_); intro a hA
        refine L1 (stv hA (by decide) (run_assign (hA.ev rfl)) ?_); intro a hA
        refine LQ ?_
        refine TN ?_
        refine wp_seq ?_
        obtain ⟨o905, H904, H829⟩ := Option.bind_eq_some_iff.1 H829
        refine cutC (fun a w => ∃ (t903 : Bool), t903 = o905 ∧ (Below w0.heap.size w0 w) ∧ (Own (Pl.int .i64) 3 w0.heap.size w (.slice (some ⟨g396, 0, none⟩) 2 2) [class_0, IntKind.i64.wrap (r391 - 1)]) ∧ Has 96 [(1, (.int .i64 rate_1)), (50, (.slice (some ⟨g396, 0, none⟩) 2 2)), (51, (.int .i64 (2 : Int))), (52, (.int .i64 t828)), (80, (.bool t903))] a) ?_ ?_
        · refine wp_region_lit ?_
          refine L1 (stv hA (by decide) (run_move (hA.ev rfl)) ?_); intro a hA
          obtain ⟨r908, H909, H904⟩ := Option.bind_eq_some_iff.1 H904
          refine L1 (st_call Try.call10 hA [(.int .i64 ([class_0, IntKind.i64.wrap (r391 - 1)].getD t828.toNat (0 : Int)))] rfl (by decide) (fees_Bound.calls _ _ _ _ H909) ?_)
          rintro _ w910 ⟨rfl, hE911⟩ a hA
          refine L1 (stv hA (by decide) (run_move (hA.ev rfl)) ?_); intro a hA
          have hB912 := hB832.trans (hE911.mono hB832.size)
          have h913 := hO833.ext hE911
          obtain ⟨r914, H915, H904⟩ := Option.bind_eq_some_iff.1 H904
          refine L1 (st_call Try.call11 hA [(.int .i64 ([class_0, IntKind.i64.wrap (r391 - 1)].getD t828.toNat (0 : Int)))] rfl (by decide) (ref33_Bound.calls _ _ _ _ H915) ?_)
          rintro _ w916 ⟨rfl, hE917⟩ a hA
          refine L1 (stv hA (by decide) (run_bin (hA.ev rfl) (hA.ev rfl) (bin_neq _ _ _ _)) ?_); intro a hA
          refine L1 (stv hA (by decide) (run_move (hA.ev rfl)) ?_); intro a hA
          refine bsplit (b := (r908 != r914)) (fun hb918 => ?_) (fun hb918 => ?_)
          · replace H904 := ite_t hb918 H904
            have hA := hA.re (t := 61) rfl (congrArg Value.bool hb918)
            refine L1 (gate_off rfl (by decide) rfl hA (by decide) rfl rfl ?_); intro a hA
            refine L1 (gate_off rfl (by decide) rfl hA (by decide) rfl rfl ?_); intro a hA
            refine L1 (gate_off rfl (by decide) rfl hA (by decide) rfl rfl ?_); intro a hA
            refine L1 (gate_off rfl (by decide) rfl hA (by decide) rfl rfl ?_); intro a hA
            refine L1 (gate_off rfl (by decide) rfl hA (by decide) rfl rfl ?_); intro a hA
            refine L1 (gate_off rfl (by decide) rfl hA (by decide) rfl rfl ?_); intro a hA
            refine L1 (gate_off rfl (by decide) rfl hA (by decide) rfl rfl ?_); intro a hA
            refine L1 (stv hA (by decide) (run_pick (hA.ev rfl) (fun _ => hA.ev rfl) (fun h => Bool.noConfusion h)) ?_); intro a hA
            refine L1 (stv hA (by decide) (run_move (hA.ev rfl)) ?_); intro a hA
            refine L1 (gate_off rfl (by decide) rfl hA (by decide) rfl rfl ?_); intro a hA
            refine L1 (gate_off rfl (by decide) rfl hA (by decide) rfl rfl ?_); intro a hA
            refine L1 (gate_off rfl (by decide) rfl hA (by decide) rfl rfl ?_); intro a hA
            refine L1 (gate_off rfl (by decide) rfl hA (by decide) rfl rfl ?_); intro a hA
            refine L1 (gate_off rfl (by decide) rfl hA (by decide) rfl rfl ?_); intro a hA
            refine L1 (gate_off rfl (by decide) rfl hA (by decide) rfl rfl ?_); intro a hA
            refine L1 (gate_off rfl (by decide) rfl hA (by decide) rfl rfl ?_); intro a hA
            refine L1 (gate_off rfl (by decide) rfl hA (by decide) rfl rfl ?_); intro a hA
            refine L1 (gate_off rfl (by decide) rfl hA (by decide) rfl rfl ?_); intro a hA
            refine L1 (stv hA (by decide) (run_pick (hA.ev rfl) (fun _ => hA.ev rfl) (fun h => Bool.noConfusion h)) ?_); intro a hA
            refine LQ ?_
            have hB919 := hB912.trans (hE917.mono hB912.size)
            have h920 := h913.ext hE917
            exact ⟨true, Option.some.inj H904, hB919, h920, (((((hA.nil.cons (hA.get 80 _ rfl)).cons (hA.get 52 _ rfl)).cons (hA.get 51 _ rfl)).cons (hA.get 50 _ rfl)).cons (hA.get 1 _ rfl))⟩
          · replace H904 := ite_f hb918 H904
            have hA := hA.re (t := 61) rfl (congrArg Value.bool hb918)
            refine L1 (gate_on rfl rfl hA (by decide) rfl (stv hA (by decide) (run_move (hA.ev rfl)) ?_)); intro a hA
            have hB921 := hB912.trans (hE917.mono hB912.size)
            have h922 := h913.ext hE917
            obtain ⟨r923, H924, H904⟩ := Option.bind_eq_some_iff.1 H904
            refine L1 (gate_on rfl rfl hA (by decide) rfl (st_call Try.call11 hA [(.int .i64 ([class_0, IntKind.i64.wrap (r391 - 1)].getD t828.toNat (0 : Int)))] rfl (by decide) (ref33_Bound.calls _ _ _ _ H924) ?_))
            rintro _ w925 ⟨rfl, hE926⟩ a hA
            have hB927 := hB921.trans (hE926.mono hB921.size)
            have h928 := h922.ext hE926
            obtain ⟨r929, H930, H904⟩ := Option.bind_eq_some_iff.1 H904
            refine L1 (gate_on rfl rfl hA (by decide) rfl (st_call Try.call12 hA [(.int .i64 r923)] rfl (by decide) (fees_Class.calls _ _ _ _ H930) ?_))
            rintro _ w931 ⟨rfl, hE932⟩ a hA
            refine L1 (gate_on rfl rfl hA (by decide) rfl (stv hA (by decide) (run_move (hA.ev rfl)) ?_)); intro a hA
            have hB933 := hB927.trans (hE932.mono hB927.size)
            have h934 := h928.ext hE932
            obtain ⟨r935, H936, H904⟩ := Option.bind_eq_some_iff.1 H904
            refine L1 (gate_on rfl rfl hA (by decide) rfl (st_call Try.call11 hA [(.int .i64 ([class_0, IntKind.i64.wrap (r391 - 1)].getD t828.toNat (0 : Int)))] rfl (by decide) (ref33_Bound.calls _ _ _ _ H936) ?_))
            rintro _ w937 ⟨rfl, hE938⟩ a hA
            have hB939 := hB933.trans (hE938.mono hB933.size)
            have h940 := h934.ext hE938
            obtain ⟨r941, H942, H904⟩ := Option.bind_eq_some_iff.1 H904
            refine L1 (gate_on rfl rfl hA (by decide) rfl (st_call Try.call13 hA [(.int .i64 r935)] rfl (by decide) (ref33_Class.calls _ _ _ _ H942) ?_))
            rintro _ w943 ⟨rfl, hE944⟩ a hA
            refine L1 (gate_on rfl rfl hA (by decide) rfl (stv hA (by decide) (run_bin (hA.ev rfl) (hA.ev rfl) (bin_neq _ _ _ _)) ?_)); intro a hA
            refine L1 (stv hA (by decide) (run_pick (hA.ev rfl) (fun h => Bool.noConfusion h) (fun _ => hA.ev rfl)) ?_); intro a hA
            refine L1 (stv hA (by decide) (run_move (hA.ev rfl)) ?_); intro a hA
            refine bsplit (b := (r929 != r941)) (fun hb945 => ?_) (fun hb945 => ?_)
            · replace H904 := ite_t hb945 H904
              have hA := hA.re (t := 70) rfl (congrArg Value.bool hb945)
              refine L1 (gate_off rfl (by decide) rfl hA (by decide) rfl rfl ?_); intro a hA
              refine L1 (gate_off rfl (by decide) rfl hA (by decide) rfl rfl ?_); intro a hA
              refine L1 (gate_off rfl (by decide) rfl hA (by decide) rfl rfl ?_); intro a hA
              refine L1 (gate_off rfl (by decide) rfl hA (by decide) rfl rfl ?_); intro a hA
              refine L1 (gate_off rfl (by decide) rfl hA (by decide) rfl rfl ?_); intro a hA
              refine L1 (gate_off rfl (by decide) rfl hA (by decide) rfl rfl ?_); intro a hA
              refine L1 (gate_off rfl (by decide) rfl hA (by decide) rfl rfl ?_); intro a hA
              refine L1 (gate_off rfl (by decide) rfl hA (by decide) rfl rfl ?_); intro a hA
              refine L1 (gate_off rfl (by decide) rfl hA (by decide) rfl rfl ?_); intro a hA
              refine L1 (stv hA (by decide) (run_pick (hA.ev rfl) (fun _ => hA.ev rfl) (fun h => Bool.noConfusion h)) ?_); intro a hA
              refine LQ ?_
              have hB946 := hB939.trans (hE944.mono hB939.size)
              have h947 := h940.ext hE944
              exact ⟨true, Option.some.inj H904, hB946, h947, (((((hA.nil.cons (hA.get 80 _ rfl)).cons (hA.get 52 _ rfl)).cons (hA.get 51 _ rfl)).cons (hA.get 50 _ rfl)).cons (hA.get 1 _ rfl))⟩
            · replace H904 := ite_f hb945 H904
              have hA := hA.re (t := 70) rfl (congrArg Value.bool hb945)
              refine L1 (gate_on rfl rfl hA (by decide) rfl (stv hA (by decide) (run_move (hA.ev rfl)) ?_)); intro a hA
              have hB948 := hB939.trans (hE944.mono hB939.size)
              have h949 := h940.ext hE944
              obtain ⟨r950, H951, H904⟩ := Option.bind_eq_some_iff.1 H904
              refine L1 (gate_on rfl rfl hA (by decide) rfl (st_call Try.call11 hA [(.int .i64 ([class_0, IntKind.i64.wrap (r391 - 1)].getD t828.toNat (0 : Int)))] rfl (by decide) (ref33_Bound.calls _ _ _ _ H951) ?_))
              rintro _ w952 ⟨rfl, hE953⟩ a hA
              refine L1 (gate_on rfl rfl hA (by decide) rfl (stv hA (by decide) (run_bin (hA.ev rfl) (hA.ev rfl) (bin_sub _ _ _ _)) ?_)); intro a hA
              have hB954 := hB948.trans (hE953.mono hB948.size)
              have h955 := h949.ext hE953
              obtain ⟨r956, H957, H904⟩ := Option.bind_eq_some_iff.1 H904
              refine L1 (gate_on rfl rfl hA (by decide) rfl (st_call Try.call12 hA [(.int .i64 (IntKind.i64.wrap (r950 - 1)))] rfl (by decide) (fees_Class.calls _ _ _ _ H957) ?_))
              rintro _ w958 ⟨rfl, hE959⟩ a hA
              refine L1 (gate_on rfl rfl hA (by decide) rfl (stv hA (by decide) (run_move (hA.ev rfl)) ?_)); intro a hA
              have hB960 := hB954.trans (hE959.mono hB954.size)
              have h961 := h955.ext hE959
              obtain ⟨r962, H963, H904⟩ := Option.bind_eq_some_iff.1 H904
              refine L1 (gate_on rfl rfl hA (by decide) rfl (st_call Try.call11 hA [(.int .i64 ([class_0, IntKind.i64.wrap (r391 - 1)].getD t828.toNat (0 : Int)))] rfl (by decide) (ref33_Bound.calls _ _ _ _ H963) ?_))
              rintro _ w964 ⟨rfl, hE965⟩ a hA
              refine L1 (gate_on rfl rfl hA (by decide) rfl (stv hA (by decide) (run_bin (hA.ev rfl) (hA.ev rfl) (bin_sub _ _ _ _)) ?_)); intro a hA
              have hB966 := hB960.trans (hE965.mono hB960.size)
              have h967 := h961.ext hE965
              obtain ⟨r968, H969, H904⟩ := Option.bind_eq_some_iff.1 H904
              refine L1 (gate_on rfl rfl hA (by decide) rfl (st_call Try.call13 hA [(.int .i64 (IntKind.i64.wrap (r962 - 1)))] rfl (by decide) (ref33_Class.calls _ _ _ _ H969) ?_))
              rintro _ w970 ⟨rfl, hE971⟩ a hA
              refine L1 (gate_on rfl rfl hA (by decide) rfl (stv hA (by decide) (run_bin (hA.ev rfl) (hA.ev rfl) (bin_neq _ _ _ _)) ?_)); intro a hA
              refine L1 (stv hA (by decide) (run_pick (hA.ev rfl) (fun h => Bool.noConfusion h) (fun _ => hA.ev rfl)) ?_); intro a hA
              refine LQ ?_
              have hB972 := hB966.trans (hE971.mono hB966.size)
              have h973 := h967.ext hE971
              exact ⟨(r956 != r968), Option.some.inj H904, hB972, h973, (((((hA.nil.cons (hA.get 80 _ rfl)).cons (hA.get 52 _ rfl)).cons (hA.get 51 _ rfl)).cons (hA.get 50 _ rfl)).cons (hA.get 1 _ rfl))⟩
        rintro a w974 ⟨t903, rfl, hB906, hO907, hA⟩
        try dsimp only at H829
        refine TN ?_
        refine tcond (b := t903) hA rfl (fun hb975 => ?_) (fun hb975 => ?_)
        · replace H829 := ite_t hb975 H829
          refine wp_seq ?_
          refine wp_region_lit ?_
          refine L1 (stv hA (by decide) (run_assign (hA.ev rfl)) ?_); intro a hA
          refine LQ ?_
          refine TN ?_
          refine wp_ret ?_
          cases H829
          dsimp only at H
          cases H
          refine BR ?_
          refine TR ?_
          refine TR ?_
          refine BR ?_
          refine TR ?_
          refine TR ?_
          exact ret_post1 (fn := Try.f3) hA rfl rfl ⟨_, rfl, rfl, hB906⟩
        · replace H829 := ite_f hb975 H829
          refine wp_skip ?_
          refine BN ?_
          refine TN ?_
          refine wp_region_lit ?_
          refine L1 (stv hA (by decide) (run_bin (hA.ev rfl) (hA.ev rfl) (bin_add _ _ _ _)) ?_); intro a hA
          refine L1 (stv hA (by decide) (run_move (hA.ev rfl)) ?_); intro a hA
          refine LQ ?_
          exact ⟨_, Nat.lt_succ_self m835, IntKind.i64.wrap (t828 + 1), H829, hB906, hO907, ((((hA.nil.cons (hA.get 52 _ rfl)).cons (hA.get 51 _ rfl)).cons (hA.get 50 _ rfl)).cons (hA.get 1 _ rfl))⟩
      · replace H829 := ite_f hb837 H829
        refine wp_exit ?_
        refine TX ?_
        refine TX ?_
        refine BX ?_
        exact ⟨Option.some.inj H829, hB832, (hA.nil.cons (hA.get 1 _ rfl))⟩
    rintro a w976 ⟨rfl, hB831, hA⟩
    try dsimp only at H
    refine TN ?_
    refine wp_seq ?_
    obtain ⟨o1009, H1008, H⟩ := Option.bind_eq_some_iff.1 H
    refine cutC (fun a w => ∃ (t1007 : Bool), t1007 = o1009 ∧ (Below w0.heap.size w0 w) ∧ Has 96 [(8, (.bool t1007))] a) ?_ ?_
    · refine wp_region_lit ?_
      refine L1 (stv hA (by decide) (run_move (hA.ev rfl)) ?_); intro a hA
      obtain ⟨r1011, H1012, H1008⟩ := Option.bind_eq_some_iff.1 H1008
      refine L1 (st_call Try.call12 hA [(.int .i64 rate_1)] rfl (by decide) (fees_Class.calls _ _ _ _ H1012) ?_)
      rintro _ w1013 ⟨rfl, hE1014⟩ a hA
      refine L1 (stv hA (by decide) (run_move (hA.ev rfl)) ?_); intro a hA
      have hB1015 := hB831.trans (hE1014.mono hB831.size)
      obtain ⟨r1016, H1017, H1008⟩ := Option.bind_eq_some_iff.1 H1008
      refine L1 (st_call Try.call13 hA [(.int .i64 rate_1)] rfl (by decide) (ref33_Class.calls _ _ _ _ H1017) ?_)
      rintro _ w1018 ⟨rfl, hE1019⟩ a hA
      refine L1 (stv hA (by decide) (run_bin (hA.ev rfl) (hA.ev rfl) (bin_eql _ _ _ _)) ?_); intro a hA
      refine L1 (stv hA (by decide) (run_move (hA.ev rfl)) ?_); intro a hA
      refine bsplit (b := (r1011 == r1016)) (fun hb1020 => ?_) (fun hb1020 => ?_)
      · replace H1008 := ite_t hb1020 H1008
        have hA := hA.re (t := 87) rfl (congrArg Value.bool hb1020)
        refine L1 (gate_on rfl rfl hA (by decide) rfl (stv hA (by decide) (run_move (hA.ev rfl)) ?_)); intro a hA
        have hB1021 := hB1015.trans (hE1019.mono hB1015.size)
        obtain ⟨r1022, H1023, H1008⟩ := Option.bind_eq_some_iff.1 H1008
        refine L1 (gate_on rfl rfl hA (by decide) rfl (st_call Try.call7 hA [(.int .i64 rate_1), (.int .i64 200000)] rfl (by decide) (mill_Mod.calls _ _ _ _ _ H1023) ?_))
        rintro _ w1024 ⟨rfl, hE1025⟩ a hA
        have hB1026 := hB1021.trans (hE1025.mono hB1021.size)
        obtain ⟨r1027, H1028, H1008⟩ := Option.bind_eq_some_iff.1 H1008
        refine L1 (gate_on rfl rfl hA (by decide) rfl (st_call Try.call12 hA [(.int .i64 r1022)] rfl (by decide) (fees_Class.calls _ _ _ _ H1028) ?_))
        rintro _ w1029 ⟨rfl, hE1030⟩ a hA
        refine L1 (gate_on rfl rfl hA (by decide) rfl (stv hA (by decide) (run_move (hA.ev rfl)) ?_)); intro a hA
        have hB1031 := hB1026.trans (hE1030.mono hB1026.size)
        obtain ⟨r1032, H1033, H1008⟩ := Option.bind_eq_some_iff.1 H1008
        refine L1 (gate_on rfl rfl hA (by decide) rfl (st_call Try.call7 hA [(.int .i64 rate_1), (.int .i64 200000)] rfl (by decide) (mill_Mod.calls _ _ _ _ _ H1033) ?_))
        rintro _ w1034 ⟨rfl, hE1035⟩ a hA
        have hB1036 := hB1031.trans (hE1035.mono hB1031.size)
        obtain ⟨r1037, H1038, H1008⟩ := Option.bind_eq_some_iff.1 H1008
        refine L1 (gate_on rfl rfl hA (by decide) rfl (st_call Try.call13 hA [(.int .i64 r1032)] rfl (by decide) (ref33_Class.calls _ _ _ _ H1038) ?_))
        rintro _ w1039 ⟨rfl, hE1040⟩ a hA
        refine L1 (gate_on rfl rfl hA (by decide) rfl (stv hA (by decide) (run_bin (hA.ev rfl) (hA.ev rfl) (bin_eql _ _ _ _)) ?_)); intro a hA
        refine L1 (stv hA (by decide) (run_pick (hA.ev rfl) (fun _ => hA.ev rfl) (fun h => Bool.noConfusion h)) ?_); intro a hA
        refine L1 (stv hA (by decide) (run_assign (hA.ev rfl)) ?_); intro a hA
        refine LQ ?_
        have hB1041 := hB1036.trans (hE1040.mono hB1036.size)
        exact ⟨(r1027 == r1037), Option.some.inj H1008, hB1041, (hA.nil.cons (hA.get 8 _ rfl))⟩
      · replace H1008 := ite_f hb1020 H1008
        have hA := hA.re (t := 87) rfl (congrArg Value.bool hb1020)
        refine L1 (gate_off rfl (by decide) rfl hA (by decide) rfl rfl ?_); intro a hA
        refine L1 (gate_off rfl (by decide) rfl hA (by decide) rfl rfl ?_); intro a hA
        refine L1 (gate_off rfl (by decide) rfl hA (by decide) rfl rfl ?_); intro a hA
        refine L1 (gate_off rfl (by decide) rfl hA (by decide) rfl rfl ?_); intro a hA
        refine L1 (gate_off rfl (by decide) rfl hA (by decide) rfl rfl ?_); intro a hA
        refine L1 (gate_off rfl (by decide) rfl hA (by decide) rfl rfl ?_); intro a hA
        refine L1 (gate_off rfl (by decide) rfl hA (by decide) rfl rfl ?_); intro a hA
        refine L1 (stv hA (by decide) (run_pick (hA.ev rfl) (fun h => Bool.noConfusion h) (fun _ => hA.ev rfl)) ?_); intro a hA
        refine L1 (stv hA (by decide) (run_assign (hA.ev rfl)) ?_); intro a hA
        refine LQ ?_
        have hB1042 := hB1015.trans (hE1019.mono hB1015.size)
        exact ⟨false, Option.some.inj H1008, hB1042, (hA.nil.cons (hA.get 8 _ rfl))⟩
    rintro a w1043 ⟨t1007, rfl, hB1010, hA⟩
    try dsimp only at H
    refine TN ?_
    refine wp_ret ?_
    cases H
    exact ret_post1 (fn := Try.f3) hA rfl rfl ⟨_, rfl, rfl, hB1010⟩

end Go.Proofs.Ytjdahineeoofiaa.G
