/- The functions that a law of this seat reaches: what each comes to, as a plain function, and that its code comes to it. Conditions: the plain function gives a value (enough fuel, no panic). -/
import Derived.Test.YtjdahineeoofiaaFFeesUndonex0
set_option linter.unusedVariables false
set_option linter.unusedSimpArgs false
namespace Go.Proofs.Ytjdahineeoofiaa.G
open Go Go.RowKit Go.Proofs
def fees_Observe.l0 (l_0 : (List Sample)) (id_1 : (Vector Int 32)) : Nat → Int → Option (Out Int (Unit))
  | 0, _ => none
  | k + 1, t756 => (if (decide (t756 < ((l_0.length : Nat) : Int))) = true then (if 0 ≤ t756 ∧ t756 < ((l_0.length : Nat) : Int) then (if (((l_0.getD t756.toNat Sample.z).ID) == id_1) = true then (some (.ret t756)) else (fees_Observe.l0 l_0 id_1 k (IntKind.i64.wrap (t756 + 1)))) else none) else (some (.go ())))
def fees_Observe.f (k : Nat) (l_0 : (List Sample)) (id_1 : (Vector Int 32)) (rate_2 : Int) (height_3 : Int) : Option ((List Sample) × Int) := ((fees_Class.f k rate_2).bind fun r444 => (Option.bind (α := Bool) (if (decide (r444 < 0)) = true then (some true) else (if (decide (height_3 < 1)) = true then (some true) else (some (decide (height_3 > 16777216))))) (fun t454 => (if t454 = true then (some (([] : List Sample), 5)) else (Option.bind (α := Int) (Option.bind (α := Out Int (Unit)) (fees_Observe.l0 l_0 id_1 k 0) (fun o => match o with | .ret r => some r | .go _ => (some (-1)))) (fun t696 => (if (decide (t696 ≥ 0)) = true then (some (([] : List Sample), 150)) else (if (decide (((l_0.length : Nat) : Int) ≥ 2048)) = true then (some (([] : List Sample), 380)) else (Option.bind (α := (List Sample)) ((slices_Clone_Sample.f k l_0).bind fun r837 => (if (r837.length + 1) * 56 ≤ 140737488355328 then (some (r837 ++ [({ { { Sample.z with ID := id_1 } with Class := r444 } with Seen := height_3 })])) else none)) (fun xs832 => (some (xs832, 0))))))))))))
set_option maxRecDepth 100000 in
theorem fees_Observe.calls (k : Nat) (l_0 : (List Sample)) (id_1 : (Vector Int 32)) (rate_2 : Int) (height_3 : Int) (F : List (Option Nat)) (v0 : Value) (r : ((List Sample) × Int)) (w0 : World) (h0 : RoV F pSample w0 v0 l_0) (hM : Mem F w0 w0 []) (H : fees_Observe.f k l_0 id_1 rate_2 height_3 = some r) :
    Calls Try.prog 21 #[v0, (.agg (pHash.enc id_1).toArray), (.int .i64 rate_2), (.int .i64 height_3)] w0 fun e w' => ∃ v, e = .returned v ∧ ∃ (ur_0 : Value), v = (.tuple #[ur_0, (.int .i64 r.2)]) ∧ Mem F w0 w' [.row 35 pSample.sz ur_0 (pSample.flat r.1)] := by
  unfold fees_Observe.f at H
  obtain ⟨A0, c0, rfl, hr0, hc0⟩ := h0
  refine enterL (n := 40) [(.slice A0 l_0.length c0), (.agg (pHash.enc id_1).toArray), (.int .i64 rate_2), (.int .i64 height_3)] Try.func21 rfl rfl rfl ?_
  intro a hA
  refine wp_seq ?_
  refine wp_region_lit ?_
  refine L1 (e_box (cs := (pHash.enc id_1)) hM hA rfl rfl (by decide) ?_)
  clear hM hA; intro w442 g441 hM hE  a hA
  refine L1 (stv hA (by decide) (run_assign (hA.ev rfl)) ?_)
  clear hA; intro a hA
  refine L1 (stv hA (by decide) (run_assign (hA.ev rfl)) ?_)
  clear hA; intro a hA
  refine LQ ?_
  refine TN ?_
  refine wp_seq ?_
  refine wp_region_lit ?_
  refine L1 (stv hA (by decide) (run_move (hA.ev rfl)) ?_)
  clear hA; intro a hA
  obtain ⟨r444, H445, H⟩ := Option.bind_eq_some_iff.1 H
  refine L1 (st_call Try.call12 hA [(.int .i64 rate_2)] rfl (by decide) (fees_Class.calls _ _ _ _ _ (hM.front (Ms := [])) H445) ?_)
  clear hA; rintro _ w446 ⟨rfl, hMc⟩ a hA
  have hE := hMc.below; have hM := hM.call (Ms := []) hMc
  clear hMc; simp only [List.cons_append, List.nil_append] at hM
  refine L1 (stv hA (by decide) (run_assign (hA.ev rfl)) ?_)
  clear hA; intro a hA
  refine LQ ?_
  refine TN ?_
  refine wp_seq ?_
  refine wp_block ?_
  refine wp_seq ?_
  obtain ⟨o456, H455, H⟩ := Option.bind_eq_some_iff.1 H
  refine cutC (fun a w => ∃ (t454 : Bool), t454 = o456 ∧ Mem F w0 w [.box g441 33 (pHash.enc id_1)] ∧ Has 40 [(0, (.slice A0 l_0.length c0)), (3, (.int .i64 height_3)), (5, (.pointer (some (⟨g441, 0, none⟩)))), (10, (.int .i64 r444)), (13, (.bool t454))] a) ?_ ?_
  · refine wp_region_lit ?_
    refine L1 (stv hA (by decide) (run_move (hA.ev rfl)) ?_)
    clear hA; intro a hA
    refine L1 (stv hA (by decide) (run_bin (hA.ev rfl) (hA.ev rfl) (bin_lss _ _ _ _)) ?_)
    clear hA; intro a hA
    refine L1 (stv hA (by decide) (run_move (hA.ev rfl)) ?_)
    clear hA; intro a hA
    refine bsplit (b := (decide (r444 < 0))) (fun hb457 => ?_) (fun hb457 => ?_)
    · replace H455 := ite_t hb457 H455
      have hA := hA.re (t := 16) rfl (congrArg Value.bool hb457)
      refine L1 (gate_off rfl (by decide) rfl hA (by decide) rfl rfl ?_); clear hA; intro a hA
      refine L1 (gate_off rfl (by decide) rfl hA (by decide) rfl rfl ?_); clear hA; intro a hA
      refine L1 (stv hA (by decide) (run_pick (hA.ev rfl) (fun _ => hA.ev rfl) (fun h => Bool.noConfusion h)) ?_)
      clear hA; intro a hA
      refine L1 (stv hA (by decide) (run_move (hA.ev rfl)) ?_)
      clear hA; intro a hA
      refine L1 (gate_off rfl (by decide) rfl hA (by decide) rfl rfl ?_); clear hA; intro a hA
      refine L1 (gate_off rfl (by decide) rfl hA (by decide) rfl rfl ?_); clear hA; intro a hA
      refine L1 (stv hA (by decide) (run_pick (hA.ev rfl) (fun _ => hA.ev rfl) (fun h => Bool.noConfusion h)) ?_)
      clear hA; intro a hA
      refine L1 (stv hA (by decide) (run_assign (hA.ev rfl)) ?_)
      clear hA; intro a hA
      refine LQ ?_
      exact ⟨true, Option.some.inj H455, hM, (((((hA.nil.cons (hA.get 13 _ rfl)).cons (hA.get 10 _ rfl)).cons (hA.get 5 _ rfl)).cons (hA.get 3 _ rfl)).cons (hA.get 0 _ rfl))⟩
    · replace H455 := ite_f hb457 H455
      have hA := hA.re (t := 16) rfl (congrArg Value.bool hb457)
      refine L1 (gate_on rfl rfl hA (by decide) rfl (stv hA (by decide) (run_move (hA.ev rfl)) ?_))
      clear hA; intro a hA
      refine L1 (gate_on rfl rfl hA (by decide) rfl (stv hA (by decide) (run_bin (hA.ev rfl) (hA.ev rfl) (bin_lss _ _ _ _)) ?_))
      clear hA; intro a hA
      refine L1 (stv hA (by decide) (run_pick (hA.ev rfl) (fun h => Bool.noConfusion h) (fun _ => hA.ev rfl)) ?_)
      clear hA; intro a hA
      refine L1 (stv hA (by decide) (run_move (hA.ev rfl)) ?_)
      clear hA; intro a hA
      refine bsplit (b := (decide (height_3 < 1))) (fun hb458 => ?_) (fun hb458 => ?_)
      · replace H455 := ite_t hb458 H455
        have hA := hA.re (t := 20) rfl (congrArg Value.bool hb458)
        refine L1 (gate_off rfl (by decide) rfl hA (by decide) rfl rfl ?_); clear hA; intro a hA
        refine L1 (gate_off rfl (by decide) rfl hA (by decide) rfl rfl ?_); clear hA; intro a hA
        refine L1 (stv hA (by decide) (run_pick (hA.ev rfl) (fun _ => hA.ev rfl) (fun h => Bool.noConfusion h)) ?_)
        clear hA; intro a hA
        refine L1 (stv hA (by decide) (run_assign (hA.ev rfl)) ?_)
        clear hA; intro a hA
        refine LQ ?_
        exact ⟨true, Option.some.inj H455, hM, (((((hA.nil.cons (hA.get 13 _ rfl)).cons (hA.get 10 _ rfl)).cons (hA.get 5 _ rfl)).cons (hA.get 3 _ rfl)).cons (hA.get 0 _ rfl))⟩
      · replace H455 := ite_f hb458 H455
        have hA := hA.re (t := 20) rfl (congrArg Value.bool hb458)
        refine L1 (gate_on rfl rfl hA (by decide) rfl (stv hA (by decide) (run_move (hA.ev rfl)) ?_))
        clear hA; intro a hA
        refine L1 (gate_on rfl rfl hA (by decide) rfl (stv hA (by decide) (run_bin (hA.ev rfl) (hA.ev rfl) (bin_gtr _ _ _ _)) ?_))
        clear hA; intro a hA
        refine L1 (stv hA (by decide) (run_pick (hA.ev rfl) (fun h => Bool.noConfusion h) (fun _ => hA.ev rfl)) ?_)
        clear hA; intro a hA
        refine L1 (stv hA (by decide) (run_assign (hA.ev rfl)) ?_)
        clear hA; intro a hA
        refine LQ ?_
        exact ⟨(decide (height_3 > 16777216)), Option.some.inj H455, hM, (((((hA.nil.cons (hA.get 13 _ rfl)).cons (hA.get 10 _ rfl)).cons (hA.get 5 _ rfl)).cons (hA.get 3 _ rfl)).cons (hA.get 0 _ rfl))⟩
  clear hM hA
  rintro a w459 ⟨t454, rfl, hM, hA⟩
  try dsimp only at H
  refine TN ?_
  refine tcond (b := t454) hA rfl (fun hb460 => ?_) (fun hb460 => ?_)
  · replace H := ite_t hb460 H
    refine wp_seq ?_
    refine wp_region_lit ?_
    refine L1 (stv hA (by decide) (run_assign (hA.ev rfl)) ?_)
    clear hA; intro a hA
    refine L1 (stv hA (by decide) (run_assign (hA.ev rfl)) ?_)
    clear hA; intro a hA
    refine LQ ?_
    refine TN ?_
    refine wp_ret ?_
    have hM := hM.addnil 35 (pSample).sz
    obtain rfl := Option.some.inj H
    refine BR ?_
    refine TR ?_
    exact ret_post2 (fn := Try.f21) hA rfl rfl rfl ⟨_, rfl, (.slice none 0 0), rfl, (hM.sel [0] rfl (by decide))⟩
  · replace H := ite_f hb460 H
    refine wp_seq ?_
    refine wp_region_lit ?_
    refine L1 (stv hA (by decide) (run_move (hA.ev rfl)) ?_)
    clear hA; intro a hA
    refine L1 (stv hA (by decide) (run_fn2 hA [(.pointer (some (⟨g441, 0, none⟩)))] rfl) ?_)
    clear hA; intro a hA
    refine L1 (inl_call Try.call33 hA [(.slice A0 l_0.length c0), (.func (.func 34) #[] #[(.pointer (some (⟨g441, 0, none⟩)))])] rfl (by decide) ?_)
    refine enterL (n := 9) [(.slice A0 l_0.length c0), (.func (.func 34) #[] #[(.pointer (some (⟨g441, 0, none⟩)))])] Try.func33 rfl rfl rfl ?_
    clear hA; intro a hA
    refine wp_seq ?_
    refine wp_region_lit ?_
    refine L1 (stv hA (by decide) (run_assign (hA.ev rfl)) ?_)
    clear hA; intro a hA
    refine LQ ?_
    refine TN ?_
    refine wp_seq ?_
    refine wp_region_lit ?_
    refine L1 (stv hA (by decide) (run_move (hA.ev rfl)) ?_)
    clear hA; intro a hA
    refine L1 (stv hA (by decide) (run_move (hA.ev rfl)) ?_)
    clear hA; intro a hA
    refine L1 (inl_call Try.call36 hA [(.slice A0 l_0.length c0), (.func (.func 34) #[] #[(.pointer (some (⟨g441, 0, none⟩)))])] rfl (by decide) ?_)
    obtain ⟨o698, H697, H⟩ := Option.bind_eq_some_iff.1 H
    refine (show Calls Try.prog 36 _ w459 (fun e w => ∃ v, e = .returned v ∧ ∃ (t696 : Int), t696 = o698 ∧ v = (.int .i64 t696) ∧ Mem F w0 w [.box g441 33 (pHash.enc id_1)]) from ?_).mono ?_
    · refine enterL (n := 19) [(.slice A0 l_0.length c0), (.func (.func 34) #[] #[(.pointer (some (⟨g441, 0, none⟩)))])] Try.func36 rfl rfl rfl ?_
      clear hA; intro a hA
      refine wp_seq ?_
      refine wp_region_lit ?_
      refine L1 (stv hA (by decide) (run_assign (hA.ev rfl)) ?_)
      clear hA; intro a hA
      refine LQ ?_
      refine TN ?_
      refine wp_seq ?_
      refine wp_seq ?_
      refine wp_region_lit ?_
      refine L1 (stv hA (by decide) (run_move (hA.ev rfl)) ?_)
      clear hA; intro a hA
      refine L1 (stv hA (by decide) (run_len_slice Try.underlying28 (hA.ev rfl)) ?_)
      clear hA; intro a hA
      refine L1 (stv hA (by decide) (run_move (hA.ev rfl)) ?_)
      clear hA; intro a hA
      refine LQ ?_
      refine TN ?_
      obtain ⟨o758, H757, H697⟩ := Option.bind_eq_some_iff.1 H697
      refine cutC (fun a w => (.go ()) = o758 ∧ Mem F w0 w [.box g441 33 (pHash.enc id_1)] ∧ Has 19 [] a) ?_ ?_
      · refine wp_block ?_
        refine wp_loop_ghost (fun m a w => ∃ (t756 : Int), fees_Observe.l0 l_0 id_1 m t756 = some o758 ∧ Mem F w0 w [.box g441 33 (pHash.enc id_1)] ∧ Has 19 [(0, (.slice A0 l_0.length c0)), (1, (.func (.func 34) #[] #[(.pointer (some (⟨g441, 0, none⟩)))])), (7, (.int .i64 ((l_0.length : Nat) : Int))), (8, (.int .i64 t756))] a) k ⟨0, H757, hM, ((((hA.nil.cons (hA.get 8 _ rfl)).cons (hA.get 7 _ rfl)).cons (hA.get 1 _ rfl)).cons (hA.get 0 _ rfl))⟩ ?_
        clear hM hA; rintro m759 a w760 ⟨t756, H757, hM, hA⟩
        cases m759 with
        | zero => exact absurd H757 (by simp [fees_Observe.l0])
        | succ m759 =>
        rw [fees_Observe.l0] at H757
        refine wp_seq ?_
        refine wp_region_lit ?_
        refine L1 (stv hA (by decide) (run_bin (hA.ev rfl) (hA.ev rfl) (bin_lss _ _ _ _)) ?_)
        clear hA; intro a hA
        refine LQ ?_
        refine TN ?_
        refine wp_seq ?_
        refine tcond (b := (decide (t756 < ((l_0.length : Nat) : Int)))) hA rfl (fun hb761 => ?_) (fun hb761 => ?_)
        · replace H757 := ite_t hb761 H757
          refine wp_skip ?_
          refine TN ?_
          refine wp_seq ?_
          refine wp_block ?_
          refine wp_seq ?_
          refine wp_region_lit ?_
          refine L1 (stv hA (by decide) (run_move (hA.ev rfl)) ?_)
          clear hA; intro a hA
          refine L1 (stv hA (by decide) (run_assign (hA.ev rfl)) ?_)
          clear hA; intro a hA
          refine LQ ?_
          refine TN ?_
          refine wp_seq ?_
          refine wp_region_lit ?_
          refine L1 (stv hA (by decide) (run_move (hA.ev rfl)) ?_)
          clear hA; intro a hA
          refine L1 (stv hA (by decide) (run_move (hA.ev rfl)) ?_)
          clear hA; intro a hA
          refine L1 (stv hA (by decide) (run_move (hA.ev rfl)) ?_)
          clear hA; intro a hA
          obtain ⟨⟨hi762, hj763⟩, H757⟩ := ite_some H757
          obtain ⟨ad764, hq765, hat766⟩ := Row.elem' (p := pSample) (hM.ro hr0) (Eq.refl l_0.length) Sample.z t756 hi762 hj763
          refine L1 (stv hA (by decide) (run_idx Try.underlying28 Try.sizeOf35 (hA.ev rfl) hq765 (hA.ev rfl) hi762 hj763) ?_)
          clear hA; intro a hA
          refine L1 (stv hA (by decide) (run_ld (hA.ev rfl) (run_loadP Try.isAgg35 Try.sizeOf35 hat766)) ?_)
          clear hA; intro a hA
          refine L1 (inl_callv (caps := [(.pointer (some (⟨g441, 0, none⟩)))]) Try.call34 hA rfl [(.agg (pSample.enc (l_0.getD t756.toNat Sample.z)).toArray)] rfl (by decide) ?_)
          refine enterL (n := 8) [(.agg (pSample.enc (l_0.getD t756.toNat Sample.z)).toArray), (.pointer (some (⟨g441, 0, none⟩)))] Try.func34 rfl rfl rfl ?_
          clear hA; intro a hA
          refine wp_seq ?_
          refine wp_region_lit ?_
          refine L1 (e_box (cs := (pSample.enc (l_0.getD t756.toNat Sample.z))) hM hA rfl rfl (by decide) ?_)
          clear hM hA; intro w771 g770 hM hE  a hA
          refine L1 (stv hA (by decide) (run_assign (hA.ev rfl)) ?_)
          clear hA; intro a hA
          refine LQ ?_
          refine TN ?_
          refine wp_seq ?_
          refine wp_region_lit ?_
          refine L1 (stv hA (by decide) (run_field' Try.underlying35 rfl rfl Try.sizeOf33 (by decide) (hA.ev rfl)) ?_)
          clear hA; intro a hA
          refine L1 (stv hA (by decide) (run_ld (hA.ev rfl) (run_loadP Try.isAgg33 Try.sizeOf33 (Sample.at_ID (hM.box .z)))) ?_)
          clear hA; intro a hA
          refine L1 (stv hA (by decide) (run_ld (hA.ev rfl) (run_loadP Try.isAgg33 Try.sizeOf33 (hM.box (.s .z)))) ?_)
          clear hA; intro a hA
          refine L1 (stv hA (by decide) (run_aggeql eq_Hash rfl (by kernel_rfl) (hA.ev rfl) (hA.ev rfl)) ?_)
          clear hA; intro a hA
          refine L1 (stv hA (by decide) (run_assign (hA.ev rfl)) ?_)
          clear hA; intro a hA
          refine LQ ?_
          refine TN ?_
          refine wp_ret ?_
          refine ret_post1 (fn := Try.f34) hA rfl rfl ⟨_, rfl, ?_⟩; clear hA; intro a hA
          refine LQ ?_
          refine TN ?_
          refine tcond (b := (((l_0.getD t756.toNat Sample.z).ID) == id_1)) hA rfl (fun hb773 => ?_) (fun hb773 => ?_)
          · replace H757 := ite_t hb773 H757
            refine wp_seq ?_
            refine wp_region_lit ?_
            refine L1 (stv hA (by decide) (run_move (hA.ev rfl)) ?_)
            clear hA; intro a hA
            refine L1 (stv hA (by decide) (run_assign (hA.ev rfl)) ?_)
            clear hA; intro a hA
            refine LQ ?_
            refine TN ?_
            refine wp_ret ?_
            obtain rfl := Option.some.inj H757
            dsimp only at H697
            obtain rfl := Option.some.inj H697
            refine BR ?_
            refine TR ?_
            refine TR ?_
            refine BR ?_
            refine TR ?_
            refine TR ?_
            exact ret_post1 (fn := Try.f36) hA rfl rfl ⟨_, rfl, t756, rfl, rfl, (hM.sel [1] rfl (by decide))⟩
          · replace H757 := ite_f hb773 H757
            refine wp_skip ?_
            refine BN ?_
            refine TN ?_
            refine wp_region_lit ?_
            refine L1 (stv hA (by decide) (run_bin (hA.ev rfl) (hA.ev rfl) (bin_add _ _ _ _)) ?_)
            clear hA; intro a hA
            refine L1 (stv hA (by decide) (run_move (hA.ev rfl)) ?_)
            clear hA; intro a hA
            refine LQ ?_
            exact ⟨_, Nat.lt_succ_self m759, IntKind.i64.wrap (t756 + 1), H757, (hM.sel [1] rfl (by decide)), ((((hA.nil.cons (hA.get 8 _ rfl)).cons (hA.get 7 _ rfl)).cons (hA.get 1 _ rfl)).cons (hA.get 0 _ rfl))⟩
        · replace H757 := ite_f hb761 H757
          refine wp_exit ?_
          refine TX ?_
          refine TX ?_
          refine BX ?_
          exact ⟨Option.some.inj H757, hM, hA.nil⟩
      clear hM hA
      rintro a w774 ⟨rfl, hM, hA⟩
      try dsimp only at H697
      refine TN ?_
      refine wp_seq ?_
      refine wp_region_lit ?_
      refine L1 (stv hA (by decide) (run_assign (hA.ev rfl)) ?_)
      clear hA; intro a hA
      refine LQ ?_
      refine TN ?_
      refine wp_ret ?_
      obtain rfl := Option.some.inj H697
      exact ret_post1 (fn := Try.f36) hA rfl rfl ⟨_, rfl, (-1), rfl, rfl, hM⟩
    rintro e w775 ⟨_, rfl, ⟨t696, rfl, rfl, hM⟩⟩
    refine ⟨_, rfl, ?_⟩; clear hA; intro a hA; try dsimp only at H
    refine L1 (stv hA (by decide) (run_bin (hA.ev rfl) (hA.ev rfl) (bin_geq _ _ _ _)) ?_)
    clear hA; intro a hA
    refine L1 (stv hA (by decide) (run_assign (hA.ev rfl)) ?_)
    clear hA; intro a hA
    refine LQ ?_
    refine TN ?_
    refine wp_ret ?_
    refine ret_post1 (fn := Try.f33) hA rfl rfl ⟨_, rfl, ?_⟩; clear hA; intro a hA
    refine L1 (stv hA (by decide) (run_assign (hA.ev rfl)) ?_)
    clear hA; intro a hA
    refine LQ ?_
    refine TN ?_
    refine tcond (b := (decide (t696 ≥ 0))) hA rfl (fun hb776 => ?_) (fun hb776 => ?_)
    · replace H := ite_t hb776 H
      refine wp_seq ?_
      refine wp_region_lit ?_
      refine L1 (stv hA (by decide) (run_assign (hA.ev rfl)) ?_)
      clear hA; intro a hA
      refine L1 (stv hA (by decide) (run_assign (hA.ev rfl)) ?_)
      clear hA; intro a hA
      refine LQ ?_
      refine TN ?_
      refine wp_ret ?_
      have hM := hM.addnil 35 (pSample).sz
      obtain rfl := Option.some.inj H
      refine BR ?_
      refine TR ?_
      exact ret_post2 (fn := Try.f21) hA rfl rfl rfl ⟨_, rfl, (.slice none 0 0), rfl, (hM.sel [0] rfl (by decide))⟩
    · replace H := ite_f hb776 H
      refine wp_seq ?_
      refine wp_region_lit ?_
      refine L1 (stv hA (by decide) (run_move (hA.ev rfl)) ?_)
      clear hA; intro a hA
      refine L1 (stv hA (by decide) (run_len_slice Try.underlying28 (hA.ev rfl)) ?_)
      clear hA; intro a hA
      refine L1 (stv hA (by decide) (run_bin (hA.ev rfl) (hA.ev rfl) (bin_geq _ _ _ _)) ?_)
      clear hA; intro a hA
      refine L1 (stv hA (by decide) (run_assign (hA.ev rfl)) ?_)
      clear hA; intro a hA
      refine LQ ?_
      refine TN ?_
      refine tcond (b := (decide (((l_0.length : Nat) : Int) ≥ 2048))) hA rfl (fun hb778 => ?_) (fun hb778 => ?_)
      · replace H := ite_t hb778 H
        refine wp_seq ?_
        refine wp_region_lit ?_
        refine L1 (stv hA (by decide) (run_assign (hA.ev rfl)) ?_)
        clear hA; intro a hA
        refine L1 (stv hA (by decide) (run_assign (hA.ev rfl)) ?_)
        clear hA; intro a hA
        refine LQ ?_
        refine TN ?_
        refine wp_ret ?_
        have hM := hM.addnil 35 (pSample).sz
        obtain rfl := Option.some.inj H
        refine BR ?_
        refine TR ?_
        exact ret_post2 (fn := Try.f21) hA rfl rfl rfl ⟨_, rfl, (.slice none 0 0), rfl, (hM.sel [0] rfl (by decide))⟩
      · replace H := ite_f hb778 H
        refine wp_skip ?_
        refine BN ?_
        refine TN ?_
        refine wp_seq ?_
        obtain ⟨o835, H834, H⟩ := Option.bind_eq_some_iff.1 H
        refine cutC (fun a w => ∃ (xs832 : (List Sample)) (v829 : Value), xs832 = o835 ∧ Mem F w0 w [.row 35 pSample.sz v829 (pSample.flat xs832)] ∧ Has 40 [(8, v829), (9, (.int .i64 0))] a) ?_ ?_
        · obtain ⟨r837, H838, H834⟩ := Option.bind_eq_some_iff.1 H834
          obtain ⟨hl850, H834⟩ := ite_some H834
          refine draw (fun w' => Below w775.heap.size w775 w') [] rfl ?_
          intro w854 hw hS; replace hM := hM.ext hS; clear hw
          refine d_takef (i := 0) (L' := #[true, false, false, false, false, false, false, false, false, false]) rfl (by kernel_rfl) rfl (fun _ _ _ h => h) hA (by decide) (fun _ => hS) (fun a w' hA => run_move (hA.ev rfl)) ?_; clear hA; intro a hA
          refine rebase hS ?_; clear hS; intro hS
          refine d_take (i := 2) (L' := #[true, false, true, false, false, false, false, false, false, false]) rfl (by kernel_rfl) rfl (fun _ _ _ h => h) hA (by decide) rfl hS (fun a w' hA hS' => run_ld (hA.ev rfl) (run_loadP Try.isAgg33 Try.sizeOf33 ((hM.box .z).extB hS'))) ?_; clear hA; intro a hA
          refine d_takef (i := 3) (L' := #[true, false, true, true, false, false, false, false, false, false]) rfl (by kernel_rfl) rfl (fun _ _ _ h => h) hA (by decide) (fun _ => hS) (fun a w' hA => run_move (hA.ev rfl)) ?_; clear hA; intro a hA
          refine d_takef (i := 4) (L' := #[true, false, true, true, true, false, false, false, false, false]) rfl (by kernel_rfl) rfl (fun _ _ _ h => h) hA (by decide) (fun _ => hS) (fun a w' hA => run_move (hA.ev rfl)) ?_; clear hA; intro a hA
          refine d_takef (i := 5) (L' := #[true, false, true, true, true, true, false, false, false, false]) rfl (by kernel_rfl) rfl (fun _ _ _ h => h) hA (by decide) (fun _ => hS) (fun a w' hA => run_build [(0, (.agg (pHash.enc id_1).toArray)), (1, (.int .i64 r444)), (2, (.int .i64 height_3))] zero35 Try.underlying35 (ss := [32, 1, 1, 1]) ⟨Try.sizeOf33, Try.sizeOf3, Try.sizeOf3, Try.sizeOf3, trivial⟩ hA rfl (fill_step rfl (by simp [Value.cells, Pl.len]; try rfl) (enc_fit _ _ rfl) (arr_eq (Sample.spl_ID _ _)) (fill_step rfl rfl (enc_fit _ _ rfl) (arr_eq (Sample.spl_Class _ _)) (fill_step rfl rfl (enc_fit _ _ rfl) (arr_eq (Sample.spl_Seen _ _)) (fill_nil))))) ?_; clear hA; intro a hA
          refine d_many (is := [1, 6]) (by kernel_rfl) (by decide) ⟨?_, ?_, trivial⟩
          · refine d_op (i := 1) (L' := #[true, true, true, true, true, true, false, false, false, false]) rfl rfl (st_call Try.call30 hA [(.slice A0 l_0.length c0)] rfl (by decide) (slices_Clone_Sample.calls _ _ _ _ _ _ ((RoV.mk (hM.roC (Ms := []) hr0) (Eq.refl l_0.length) hc0)) (hM.front (Ms := [])) H838) ?_)
            clear hA; rintro _ w855 ⟨v856, rfl, hMc⟩ a hA
            have hE := hMc.below; have hM := hM.call (Ms := []) hMc
            have hlw857 : ∀ k, _ → w854.heap.size ≤ k := fun k hk => Nat.le_trans hS.size ((hMc.low _ (List.Mem.head _) k hk).resolve_right (by simp))
            clear hMc; simp only [List.cons_append, List.nil_append] at hM
            obtain ⟨A858, c859, rfl⟩ := RowOk.form (hM.row (p := pSample) .z)
            replace hS := hS.trans (hE.mono hS.size)
            refine ⟨fun _ => hS, ?_⟩
            refine d_one (i := 6) (L' := #[true, true, true, true, true, true, true, false, false, false]) (by kernel_rfl) rfl rfl (e_litNL [({ { { Sample.z with ID := id_1 } with Class := r444 } with Seen := height_3 })] [(.agg (pSample.enc ({ { { Sample.z with ID := id_1 } with Class := r444 } with Seen := height_3 })).toArray)] elt28 hM rfl (by decide) hA rfl rfl (List.cons_ne_nil _ _) (by decide) ?_)
            clear hM hA; intro w861 g860 hM hE hlo862 a hA
            have hlw863 : ∀ k, Value.ownBlock (.slice (some ⟨g860, 0, none⟩) 1 1) = some k → w854.heap.size ≤ k := fun k hk => by cases hk; exact Nat.le_trans hS.size hlo862
            replace hS := hS.trans (hE.mono hS.size)
            refine ⟨fun _ => hS, ?_⟩
            refine d_one (i := 7) (L' := #[true, true, true, true, true, true, true, true, false, false]) (by kernel_rfl) rfl rfl (e_appendL elt28 hM (fun _ => (.s .z)) (Src.row Try.underlying28 (RowOk.row (hM.row (p := pSample) .z)) (RowOk.len (hM.row (p := pSample) .z))) hl850 hA rfl rfl (by decide) ?_)
            clear hM hA; intro w866 A864 c865 hM hE hlo867 a hA
            have hlw868 : ∀ k, Value.ownBlock (.slice A864 (r837.length + 1) c865) = some k → w854.heap.size ≤ k := hlo867 _ hS.size hlw857
            replace hS := hS.grown hE hS.size hlw857
            refine ⟨fun _ => hS, ?_⟩
            refine d_takef (i := 8) (L' := #[true, true, true, true, true, true, true, true, true, false]) rfl (by kernel_rfl) rfl (fun _ _ _ h => h) hA (by decide) (fun _ => hS) (fun a w' hA => run_assign (hA.ev rfl)) ?_; clear hA; intro a hA
            refine d_takef (i := 9) (L' := #[true, true, true, true, true, true, true, true, true, true]) rfl (by kernel_rfl) rfl (fun _ _ _ h => h) hA (by decide) (fun _ => hS) (fun a w' hA => run_assign (hA.ev rfl)) ?_; clear hA; intro a hA
            refine d_done (by kernel_rfl) ?_
            exact ⟨(r837 ++ [({ { { Sample.z with ID := id_1 } with Class := r444 } with Seen := height_3 })]), (.slice A864 (r837.length + 1) c865), Option.some.inj H834, (hM.sel [1] rfl (by decide)), ((hA.nil.cons (hA.get 9 _ rfl)).cons (hA.get 8 _ rfl))⟩
          · refine d_op (i := 6) (L' := #[true, false, true, true, true, true, true, false, false, false]) rfl rfl (e_litNL [({ { { Sample.z with ID := id_1 } with Class := r444 } with Seen := height_3 })] [(.agg (pSample.enc ({ { { Sample.z with ID := id_1 } with Class := r444 } with Seen := height_3 })).toArray)] elt28 hM rfl (by decide) hA rfl rfl (List.cons_ne_nil _ _) (by decide) ?_)
            clear hM hA; intro w870 g869 hM hE hlo871 a hA
            have hlw872 : ∀ k, Value.ownBlock (.slice (some ⟨g869, 0, none⟩) 1 1) = some k → w854.heap.size ≤ k := fun k hk => by cases hk; exact Nat.le_trans hS.size hlo871
            replace hS := hS.trans (hE.mono hS.size)
            refine ⟨fun _ => hS, ?_⟩
            refine d_one (i := 1) (L' := #[true, true, true, true, true, true, true, false, false, false]) (by kernel_rfl) rfl rfl (st_call Try.call30 hA [(.slice A0 l_0.length c0)] rfl (by decide) (slices_Clone_Sample.calls _ _ _ _ _ _ ((RoV.mk (hM.roC (Ms := []) hr0) (Eq.refl l_0.length) hc0)) (hM.front (Ms := [])) H838) ?_)
            clear hA; rintro _ w873 ⟨v874, rfl, hMc⟩ a hA
            have hE := hMc.below; have hM := hM.call (Ms := []) hMc
            have hlw875 : ∀ k, _ → w854.heap.size ≤ k := fun k hk => Nat.le_trans hS.size ((hMc.low _ (List.Mem.head _) k hk).resolve_right (by simp))
            clear hMc; simp only [List.cons_append, List.nil_append] at hM
            obtain ⟨A876, c877, rfl⟩ := RowOk.form (hM.row (p := pSample) .z)
            replace hS := hS.trans (hE.mono hS.size)
            refine ⟨fun _ => hS, ?_⟩
            refine d_one (i := 7) (L' := #[true, true, true, true, true, true, true, true, false, false]) (by kernel_rfl) rfl rfl (e_appendL elt28 hM (fun _ => .z) (Src.row Try.underlying28 (RowOk.row (hM.row (p := pSample) (.s .z))) (RowOk.len (hM.row (p := pSample) (.s .z)))) hl850 hA rfl rfl (by decide) ?_)
            clear hM hA; intro w880 A878 c879 hM hE hlo881 a hA
            have hlw882 : ∀ k, Value.ownBlock (.slice A878 (r837.length + 1) c879) = some k → w854.heap.size ≤ k := hlo881 _ hS.size hlw875
            replace hS := hS.grown hE hS.size hlw875
            refine ⟨fun _ => hS, ?_⟩
            refine d_takef (i := 8) (L' := #[true, true, true, true, true, true, true, true, true, false]) rfl (by kernel_rfl) rfl (fun _ _ _ h => h) hA (by decide) (fun _ => hS) (fun a w' hA => run_assign (hA.ev rfl)) ?_; clear hA; intro a hA
            refine d_takef (i := 9) (L' := #[true, true, true, true, true, true, true, true, true, true]) rfl (by kernel_rfl) rfl (fun _ _ _ h => h) hA (by decide) (fun _ => hS) (fun a w' hA => run_assign (hA.ev rfl)) ?_; clear hA; intro a hA
            refine d_done (by kernel_rfl) ?_
            exact ⟨(r837 ++ [({ { { Sample.z with ID := id_1 } with Class := r444 } with Seen := height_3 })]), (.slice A878 (r837.length + 1) c879), Option.some.inj H834, (hM.sel [0] rfl (by decide)), ((hA.nil.cons (hA.get 9 _ rfl)).cons (hA.get 8 _ rfl))⟩
        clear hM hA
        rintro a w883 ⟨xs832, v829, rfl, hM, hA⟩
        try dsimp only at H
        obtain ⟨A830, c831, rfl⟩ := RowOk.form (hM.row (p := pSample) .z)
        refine TN ?_
        refine wp_ret ?_
        obtain rfl := Option.some.inj H
        exact ret_post2 (fn := Try.f21) hA rfl rfl rfl ⟨_, rfl, (.slice A830 xs832.length c831), rfl, hM⟩

def ref33_Same.l0 (a_0 : (List Sample)) (b_1 : (List Sample)) : Nat → Int → Option (Out Bool (Unit))
  | 0, _ => none
  | k + 1, i135 => (if (decide (i135 < ((a_0.length : Nat) : Int))) = true then (if 0 ≤ i135 ∧ i135 < ((a_0.length : Nat) : Int) then (if 0 ≤ i135 ∧ i135 < ((b_1.length : Nat) : Int) then (if (!((a_0.getD i135.toNat Sample.z) == (b_1.getD i135.toNat Sample.z))) = true then (some (.ret false)) else (ref33_Same.l0 a_0 b_1 k (IntKind.i64.wrap (i135 + 1)))) else none) else none) else (some (.go ())))
def ref33_Same.f (k : Nat) (a_0 : (List Sample)) (b_1 : (List Sample)) : Option Bool := (if (((a_0.length : Nat) : Int) != ((b_1.length : Nat) : Int)) = true then (some false) else (Option.bind (α := Out Bool (Unit)) (ref33_Same.l0 a_0 b_1 k 0) (fun o => match o with | .ret r => some r | .go _ => (some true))))
set_option maxRecDepth 100000 in
theorem ref33_Same.calls (k : Nat) (a_0 : (List Sample)) (b_1 : (List Sample)) (F : List (Option Nat)) (v0 : Value) (v1 : Value) (r : Bool) (w0 : World) (h0 : RoV F pSample w0 v0 a_0) (h1 : RoV F pSample w0 v1 b_1) (hM : Mem F w0 w0 []) (H : ref33_Same.f k a_0 b_1 = some r) :
    Calls Try.prog 22 #[v0, v1] w0 fun e w' => ∃ v, e = .returned v ∧ v = (.bool r) ∧ Mem F w0 w' [] := by
  unfold ref33_Same.f at H
  obtain ⟨A0, c0, rfl, hr0, hc0⟩ := h0
  obtain ⟨A1, c1, rfl, hr1, hc1⟩ := h1
  refine enterL (n := 26) [(.slice A0 a_0.length c0), (.slice A1 b_1.length c1)] Try.func22 rfl rfl rfl ?_
  intro a hA
  refine wp_seq ?_
  refine wp_region_lit ?_
  refine L1 (stv hA (by decide) (run_assign (hA.ev rfl)) ?_)
  clear hA; intro a hA
  refine LQ ?_
  refine TN ?_
  refine wp_seq ?_
  refine wp_seq ?_
  refine wp_region_lit ?_
  refine L1 (stv hA (by decide) (run_move (hA.ev rfl)) ?_)
  clear hA; intro a hA
  refine L1 (stv hA (by decide) (run_len_slice Try.underlying28 (hA.ev rfl)) ?_)
  clear hA; intro a hA
  refine L1 (stv hA (by decide) (run_move (hA.ev rfl)) ?_)
  clear hA; intro a hA
  refine L1 (stv hA (by decide) (run_len_slice Try.underlying28 (hA.ev rfl)) ?_)
  clear hA; intro a hA
  refine L1 (stv hA (by decide) (run_bin (hA.ev rfl) (hA.ev rfl) (bin_neq _ _ _ _)) ?_)
  clear hA; intro a hA
  refine LQ ?_
  refine TN ?_
  refine tcond (b := (((a_0.length : Nat) : Int) != ((b_1.length : Nat) : Int))) hA rfl (fun hb78 => ?_) (fun hb78 => ?_)
  · replace H := ite_t hb78 H
    refine wp_seq ?_
    refine wp_region_lit ?_
    refine L1 (stv hA (by decide) (run_assign (hA.ev rfl)) ?_)
    clear hA; intro a hA
    refine LQ ?_
    refine TN ?_
    refine wp_ret ?_
    obtain rfl := Option.some.inj H
    refine TR ?_
    exact ret_post1 (fn := Try.f22) hA rfl rfl ⟨_, rfl, rfl, hM⟩
  · replace H := ite_f hb78 H
    refine wp_skip ?_
    refine TN ?_
    refine wp_seq ?_
    refine wp_seq ?_
    refine wp_region_lit ?_
    refine L1 (stv hA (by decide) (run_assign (hA.ev rfl)) ?_)
    clear hA; intro a hA
    refine LQ ?_
    refine TN ?_
    obtain ⟨o137, H136, H⟩ := Option.bind_eq_some_iff.1 H
    refine cutC (fun a w => (.go ()) = o137 ∧ Mem F w0 w [] ∧ Has 26 [] a) ?_ ?_
    · refine wp_block ?_
      refine wp_loop_ghost (fun m a w => ∃ (i135 : Int), ref33_Same.l0 a_0 b_1 m i135 = some o137 ∧ Mem F w0 w [] ∧ Has 26 [(0, (.slice A0 a_0.length c0)), (1, (.slice A1 b_1.length c1)), (5, (.int .i64 i135))] a) k ⟨0, H136, hM, (((hA.nil.cons (hA.get 5 _ rfl)).cons (hA.get 1 _ rfl)).cons (hA.get 0 _ rfl))⟩ ?_
      clear hM hA; rintro m138 a w139 ⟨i135, H136, hM, hA⟩
      cases m138 with
      | zero => exact absurd H136 (by simp [ref33_Same.l0])
      | succ m138 =>
      rw [ref33_Same.l0] at H136
      refine wp_seq ?_
      refine wp_seq ?_
      refine wp_region_lit ?_
      refine L1 (stv hA (by decide) (run_move (hA.ev rfl)) ?_)
      clear hA; intro a hA
      refine L1 (stv hA (by decide) (run_move (hA.ev rfl)) ?_)
      clear hA; intro a hA
      refine L1 (stv hA (by decide) (run_len_slice Try.underlying28 (hA.ev rfl)) ?_)
      clear hA; intro a hA
      refine L1 (stv hA (by decide) (run_bin (hA.ev rfl) (hA.ev rfl) (bin_lss _ _ _ _)) ?_)
      clear hA; intro a hA
      refine LQ ?_
      refine TN ?_
      refine tcond (b := (decide (i135 < ((a_0.length : Nat) : Int)))) hA rfl (fun hb140 => ?_) (fun hb140 => ?_)
      · replace H136 := ite_t hb140 H136
        refine wp_skip ?_
        refine TN ?_
        refine wp_seq ?_
        refine wp_block ?_
        refine wp_seq ?_
        refine draw (fun w' => Below w139.heap.size w139 w') [] rfl ?_
        intro w141 hw hS; replace hM := hM.ext hS; clear hw
        refine d_takef (i := 0) (L' := #[true, false, false, false, false, false, false, false, false]) rfl (by kernel_rfl) rfl (fun _ _ _ h => h) hA (by decide) (fun _ => hS) (fun a w' hA => run_move (hA.ev rfl)) ?_; clear hA; intro a hA
        refine d_takef (i := 1) (L' := #[true, true, false, false, false, false, false, false, false]) rfl (by kernel_rfl) rfl (fun _ _ _ h => h) hA (by decide) (fun _ => hS) (fun a w' hA => run_move (hA.ev rfl)) ?_; clear hA; intro a hA
        obtain ⟨⟨hi143, hj144⟩, H136⟩ := ite_some H136
        obtain ⟨ad145, hq146, hat147⟩ := Row.elem' (p := pSample) (hM.ro hr0) (Eq.refl a_0.length) Sample.z i135 hi143 hj144
        refine d_takef (i := 2) (L' := #[true, true, true, false, false, false, false, false, false]) rfl (by kernel_rfl) rfl (fun _ _ _ h => h) hA (by decide) (fun _ => hS) (fun a w' hA => run_idx Try.underlying28 Try.sizeOf35 (hA.ev rfl) hq146 (hA.ev rfl) hi143 hj144) ?_; clear hA; intro a hA
        refine rebase hS ?_; clear hS; intro hS
        refine d_take (i := 3) (L' := #[true, true, true, true, false, false, false, false, false]) rfl (by kernel_rfl) rfl (fun _ _ _ h => h) hA (by decide) rfl hS (fun a w' hA hS' => run_ld (hA.ev rfl) (run_loadP Try.isAgg35 Try.sizeOf35 ((hat147).extB hS'))) ?_; clear hA; intro a hA
        refine d_takef (i := 4) (L' := #[true, true, true, true, true, false, false, false, false]) rfl (by kernel_rfl) rfl (fun _ _ _ h => h) hA (by decide) (fun _ => hS) (fun a w' hA => run_move (hA.ev rfl)) ?_; clear hA; intro a hA
        refine d_takef (i := 5) (L' := #[true, true, true, true, true, true, false, false, false]) rfl (by kernel_rfl) rfl (fun _ _ _ h => h) hA (by decide) (fun _ => hS) (fun a w' hA => run_move (hA.ev rfl)) ?_; clear hA; intro a hA
        obtain ⟨⟨hi148, hj149⟩, H136⟩ := ite_some H136
        obtain ⟨ad150, hq151, hat152⟩ := Row.elem' (p := pSample) (hM.ro hr1) (Eq.refl b_1.length) Sample.z i135 hi148 hj149
        refine d_takef (i := 6) (L' := #[true, true, true, true, true, true, true, false, false]) rfl (by kernel_rfl) rfl (fun _ _ _ h => h) hA (by decide) (fun _ => hS) (fun a w' hA => run_idx Try.underlying28 Try.sizeOf35 (hA.ev rfl) hq151 (hA.ev rfl) hi148 hj149) ?_; clear hA; intro a hA
        refine d_take (i := 7) (L' := #[true, true, true, true, true, true, true, true, false]) rfl (by kernel_rfl) rfl (fun _ _ _ h => h) hA (by decide) rfl hS (fun a w' hA hS' => run_ld (hA.ev rfl) (run_loadP Try.isAgg35 Try.sizeOf35 ((hat152).extB hS'))) ?_; clear hA; intro a hA
        refine d_takef (i := 8) (L' := #[true, true, true, true, true, true, true, true, true]) rfl (by kernel_rfl) rfl (fun _ _ _ h => h) hA (by decide) (fun _ => hS) (fun a w' hA => run_aggneq eq_Sample rfl (by kernel_rfl) (hA.ev rfl) (hA.ev rfl)) ?_; clear hA; intro a hA
        refine d_done (by kernel_rfl) ?_
        refine TN ?_
        refine tcond (b := (!((a_0.getD i135.toNat Sample.z) == (b_1.getD i135.toNat Sample.z)))) hA rfl (fun hb153 => ?_) (fun hb153 => ?_)
        · replace H136 := ite_t hb153 H136
          refine wp_seq ?_
          refine wp_region_lit ?_
          refine L1 (stv hA (by decide) (run_assign (hA.ev rfl)) ?_)
          clear hA; intro a hA
          refine LQ ?_
          refine TN ?_
          refine wp_ret ?_
          obtain rfl := Option.some.inj H136
          dsimp only at H
          obtain rfl := Option.some.inj H
          refine BR ?_
          refine TR ?_
          refine TR ?_
          refine BR ?_
          refine TR ?_
          refine TR ?_
          exact ret_post1 (fn := Try.f22) hA rfl rfl ⟨_, rfl, rfl, hM⟩
        · replace H136 := ite_f hb153 H136
          refine wp_skip ?_
          refine BN ?_
          refine TN ?_
          refine wp_region_lit ?_
          refine L1 (stv hA (by decide) (run_move (hA.ev rfl)) ?_)
          clear hA; intro a hA
          refine L1 (stv hA (by decide) (run_bin (hA.ev rfl) (hA.ev rfl) (bin_add _ _ _ _)) ?_)
          clear hA; intro a hA
          refine L1 (stv hA (by decide) (run_assign (hA.ev rfl)) ?_)
          clear hA; intro a hA
          refine LQ ?_
          exact ⟨_, Nat.lt_succ_self m138, IntKind.i64.wrap (i135 + 1), H136, hM, (((hA.nil.cons (hA.get 5 _ rfl)).cons (hA.get 1 _ rfl)).cons (hA.get 0 _ rfl))⟩
      · replace H136 := ite_f hb140 H136
        refine wp_exit ?_
        refine TX ?_
        refine TX ?_
        refine BX ?_
        exact ⟨Option.some.inj H136, hM, hA.nil⟩
    clear hM hA
    rintro a w154 ⟨rfl, hM, hA⟩
    try dsimp only at H
    refine TN ?_
    refine wp_seq ?_
    refine wp_region_lit ?_
    refine L1 (stv hA (by decide) (run_assign (hA.ev rfl)) ?_)
    clear hA; intro a hA
    refine LQ ?_
    refine TN ?_
    refine wp_ret ?_
    obtain rfl := Option.some.inj H
    exact ret_post1 (fn := Try.f22) hA rfl rfl ⟨_, rfl, rfl, hM⟩

def law33_FeesUndone.l0 (l_0 : (List Int)) (r317 : Int) : Nat → Int → (List Sample) → Int → Option ((List Sample))
  | 0, _, _, _ => none
  | k + 1, x527, xs535, t537 => (if (decide (t537 > 0)) = true then ((mill_Deck_Next.f k (lightclientmill_Deck.mk l_0 x527) 2).bind fun r552 => (if (r552.1 == 0) = true then ((mill_Hashes.f k (lightclientmill_Deck.mk l_0 r552.2.At_) 4).bind fun r556 => ((mill_Deck_Next.f k (lightclientmill_Deck.mk l_0 r556.2.At_) 4).bind fun r563 => ((fees_Confirm.f k xs535 r556.1 (IntKind.i64.wrap ((IntKind.i64.wrap ((IntKind.i64.wrap (16 + r317)) + 1)) + r563.1))).bind fun r566 => (law33_FeesUndone.l0 l_0 r317 k r563.2.At_ r566 (IntKind.i64.wrap (t537 - 1)))))) else ((mill_Deck_Next.f k (lightclientmill_Deck.mk l_0 r552.2.At_) 9).bind fun r573 => ((mill_Deck_Next.f k (lightclientmill_Deck.mk l_0 r573.2.At_) 50).bind fun r576 => ((mill_Deck_Next.f k (lightclientmill_Deck.mk l_0 r576.2.At_) 4).bind fun r579 => ((fees_Observe.f k xs535 ((((Vector.replicate 32 0 : Vector Int 32).setIfInBounds 0 9).setIfInBounds 1 (IntKind.u8.wrap r573.1))) (IntKind.i64.wrap (10 + r576.1)) (IntKind.i64.wrap ((IntKind.i64.wrap ((IntKind.i64.wrap (16 + r317)) + 1)) + r579.1))).bind fun r582 => (Option.bind (α := (List Sample)) (if (r582.2 == 0) = true then (some r582.1) else (some xs535)) (fun xs598 => (law33_FeesUndone.l0 l_0 r317 k r579.2.At_ xs598 (IntKind.i64.wrap (t537 - 1))))))))))) else (some xs535))
def law33_FeesUndone.f (k : Nat) (l_0 : (List Int)) (height_1 : Int) : Option Bool := ((law33_sane.f k ).bind fun r308 => (if (!r308) = true then (some false) else ((mill_New.f k l_0).bind fun r312 => ((mill_Mod.f k height_1 5).bind fun r317 => ((law33_samples.f k (lightclientmill_Deck.mk l_0 r312.At_)).bind fun r320 => ((fees_Rewind.f k r320.1 (IntKind.i64.wrap (16 + r317))).bind fun r327 => ((mill_Deck_Next.f k (lightclientmill_Deck.mk l_0 r320.2.At_) 8).bind fun r334 => (Option.bind (α := (List Sample)) (law33_FeesUndone.l0 l_0 r317 k r334.2.At_ r327 r334.1) (fun xs545 => ((fees_Rewind.f k xs545 (IntKind.i64.wrap (16 + r317))).bind fun r605 => ((ref33_Same.f k r605 r327).bind fun r612 => (some r612))))))))))))
set_option maxRecDepth 100000 in
theorem law33_FeesUndone.calls (k : Nat) (l_0 : (List Int)) (height_1 : Int) (F : List (Option Nat)) (v0 : Value) (r : Bool) (w0 : World) (h0 : RoV F (Pl.int .i64) w0 v0 l_0) (hM : Mem F w0 w0 []) (H : law33_FeesUndone.f k l_0 height_1 = some r) :
    Calls Try.prog 5 #[v0, (.int .i64 height_1)] w0 fun e w' => ∃ v, e = .returned v ∧ v = (.bool r) ∧ Mem F w0 w' [] := by
  unfold law33_FeesUndone.f at H
  obtain ⟨A0, c0, rfl, hr0, hc0⟩ := h0
  refine enterL (n := 67) [(.slice A0 l_0.length c0), (.int .i64 height_1)] Try.func5 rfl rfl rfl ?_
  intro a hA
  refine wp_seq ?_
  refine wp_region_lit ?_
  refine L1 (stv hA (by decide) (run_assign (hA.ev rfl)) ?_)
  clear hA; intro a hA
  refine LQ ?_
  refine TN ?_
  refine wp_seq ?_
  refine wp_seq ?_
  refine wp_region_lit ?_
  obtain ⟨r308, H309, H⟩ := Option.bind_eq_some_iff.1 H
  refine L1 (st_call Try.call6 hA [] rfl (by decide) (law33_sane.calls _ _ _ _ (hM.front (Ms := [])) H309) ?_)
  clear hA; rintro _ w310 ⟨rfl, hMc⟩ a hA
  have hE := hMc.below; have hM := hM.call (Ms := []) hMc
  clear hMc; simp only [List.cons_append, List.nil_append] at hM
  refine L1 (stv hA (by decide) (run_not (hA.ev rfl)) ?_)
  clear hA; intro a hA
  refine LQ ?_
  refine TN ?_
  refine tcond (b := (!r308)) hA rfl (fun hb311 => ?_) (fun hb311 => ?_)
  · replace H := ite_t hb311 H
    refine wp_seq ?_
    refine wp_region_lit ?_
    refine L1 (stv hA (by decide) (run_assign (hA.ev rfl)) ?_)
    clear hA; intro a hA
    refine LQ ?_
    refine TN ?_
    refine wp_ret ?_
    obtain rfl := Option.some.inj H
    refine TR ?_
    exact ret_post1 (fn := Try.f5) hA rfl rfl ⟨_, rfl, rfl, hM⟩
  · replace H := ite_f hb311 H
    refine wp_skip ?_
    refine TN ?_
    refine wp_seq ?_
    refine wp_region_lit ?_
    refine L1 (stv hA (by decide) (run_move (hA.ev rfl)) ?_)
    clear hA; intro a hA
    obtain ⟨r312, H313, H⟩ := Option.bind_eq_some_iff.1 H
    refine L1 (st_call Try.call15 hA [(.slice A0 l_0.length c0)] rfl (by decide) (mill_New.calls _ _ _ _ _ _ ((RoV.mk (hM.roC (Ms := []) hr0) (Eq.refl l_0.length) hc0)) (hM.front (Ms := [])) H313) ?_)
    clear hA; rintro _ w314 ⟨g315, rfl, hMc⟩ a hA
    have hE := hMc.below; have hM := hM.call (Ms := []) hMc
    clear hMc; simp only [List.cons_append, List.nil_append] at hM
    refine L1 (stv hA (by decide) (run_assign (hA.ev rfl)) ?_)
    clear hA; intro a hA
    refine LQ ?_
    refine TN ?_
    refine wp_seq ?_
    refine wp_region_lit ?_
    refine L1 (stv hA (by decide) (run_move (hA.ev rfl)) ?_)
    clear hA; intro a hA
    obtain ⟨r317, H318, H⟩ := Option.bind_eq_some_iff.1 H
    refine L1 (st_call Try.call7 hA [(.int .i64 height_1), (.int .i64 5)] rfl (by decide) (mill_Mod.calls _ _ _ _ _ _ (hM.front (Ms := [])) H318) ?_)
    clear hA; rintro _ w319 ⟨rfl, hMc⟩ a hA
    have hE := hMc.below; have hM := hM.call (Ms := []) hMc
    clear hMc; simp only [List.cons_append, List.nil_append] at hM
    refine L1 (stv hA (by decide) (run_bin (hA.ev rfl) (hA.ev rfl) (bin_add _ _ _ _)) ?_)
    clear hA; intro a hA
    refine L1 (stv hA (by decide) (run_assign (hA.ev rfl)) ?_)
    clear hA; intro a hA
    refine LQ ?_
    refine TN ?_
    refine wp_seq ?_
    refine wp_region_lit ?_
    refine L1 (stv hA (by decide) (run_move (hA.ev rfl)) ?_)
    clear hA; intro a hA
    obtain ⟨r320, H321, H⟩ := Option.bind_eq_some_iff.1 H
    refine L1 (st_call Try.call14 hA [(.pointer (some (⟨g315, 0, none⟩)))] rfl (by decide) (law33_samples.calls _ (lightclientmill_Deck.mk l_0 r312.At_) _ _ _ _ _ ((RoV.mk (hM.roC (Ms := [_]) hr0) (Eq.refl l_0.length) hc0)) (hM.front (Ms := [_])) H321) ?_)
    clear hA; rintro _ w322 ⟨v323, rfl, hMc⟩ a hA
    have hM := hM.call (Ms := [_]) hMc
    clear hMc; simp only [List.cons_append, List.nil_append] at hM
    obtain ⟨A325, c326, rfl⟩ := RowOk.form (hM.row (p := pSample) (.s .z))
    refine L1 (stv hA (by decide) (run_move (hA.ev rfl)) ?_)
    clear hA; intro a hA
    obtain ⟨r327, H328, H⟩ := Option.bind_eq_some_iff.1 H
    refine L1 (st_call Try.call17 hA [(.slice A325 r320.1.length c326), (.int .i64 (IntKind.i64.wrap (16 + r317)))] rfl (by decide) (fees_Rewind.calls _ _ _ _ _ _ _ ((RoV.mk (hM.rowC (p := pSample) (Ms := []) (.s .z)) (RowOk.len (hM.row (p := pSample) (.s .z))) (RowOk.cap (hM.row (p := pSample) (.s .z))))) (hM.front (Ms := [])) H328) ?_)
    clear hA; rintro _ w329 ⟨v330, rfl, hMc⟩ a hA
    have hE := hMc.below; have hM := hM.call (Ms := []) hMc
    clear hMc; simp only [List.cons_append, List.nil_append] at hM
    obtain ⟨A332, c333, rfl⟩ := RowOk.form (hM.row (p := pSample) .z)
    refine L1 (stv hA (by decide) (run_assign (hA.ev rfl)) ?_)
    clear hA; intro a hA
    refine LQ ?_
    refine TN ?_
    refine wp_seq ?_
    refine wp_region_lit ?_
    refine L1 (stv hA (by decide) (run_move (hA.ev rfl)) ?_)
    clear hA; intro a hA
    refine L1 (stv hA (by decide) (run_assign (hA.ev rfl)) ?_)
    clear hA; intro a hA
    refine LQ ?_
    refine TN ?_
    refine wp_seq ?_
    refine wp_seq ?_
    refine wp_region_lit ?_
    refine L1 (stv hA (by decide) (run_move (hA.ev rfl)) ?_)
    clear hA; intro a hA
    have hM := hM.sel [1, 0, 2] rfl (by decide)
    obtain ⟨r334, H335, H⟩ := Option.bind_eq_some_iff.1 H
    refine L1 (st_call Try.call18 hA [(.pointer (some (⟨g315, 0, none⟩))), (.int .i64 8)] rfl (by decide) (mill_Deck_Next.calls _ (lightclientmill_Deck.mk l_0 r320.2.At_) _ _ _ _ _ _ ((RoV.mk (hM.roC (Ms := [_]) hr0) (Eq.refl l_0.length) hc0)) (hM.front (Ms := [_])) H335) ?_)
    clear hA; rintro _ w336 ⟨rfl, hMc⟩ a hA
    have hM := hM.call (Ms := [_]) hMc
    clear hMc; simp only [List.cons_append, List.nil_append] at hM
    refine L1 (stv hA (by decide) (run_assign (hA.ev rfl)) ?_)
    clear hA; intro a hA
    refine LQ ?_
    refine TN ?_
    obtain ⟨o547, H546, H⟩ := Option.bind_eq_some_iff.1 H
    refine cutC (fun a w => ∃ (xs545 : (List Sample)) (v542 : Value), xs545 = o547 ∧ Mem F w0 w [.fro 35 pSample.sz (.slice A332 r327.length c333) (pSample.flat r327), .fro 35 pSample.sz v542 (pSample.flat xs545)] ∧ Has 67 [(6, (.int .i64 (IntKind.i64.wrap (16 + r317)))), (7, (.slice A332 r327.length c333)), (8, v542)] a) ?_ ?_
    · refine wp_block ?_
      have hM := hM.freeze (.s .z)
      have hM := hM.dup (.s .z)
      refine wp_loop_ghost (fun m a w => ∃ (x527 : Int) (xs535 : (List Sample)) (t537 : Int) (v532 : Value), law33_FeesUndone.l0 l_0 r317 m x527 xs535 t537 = some o547 ∧ Mem F w0 w [.box g315 53 [(.slice A0 l_0.length c0), (.int .i64 x527)], .fro 35 pSample.sz (.slice A332 r327.length c333) (pSample.flat r327), .fro 35 pSample.sz v532 (pSample.flat xs535)] ∧ Has 67 [(5, (.pointer (some (⟨g315, 0, none⟩)))), (6, (.int .i64 (IntKind.i64.wrap (16 + r317)))), (7, (.slice A332 r327.length c333)), (8, v532), (9, (.int .i64 t537))] a) k ⟨r334.2.At_, r327, r334.1, (.slice A332 r327.length c333), H546, (hM.sel [1, 2, 0] rfl (by decide)), (((((hA.nil.cons (hA.get 9 _ rfl)).cons (hA.get 8 _ rfl)).cons (hA.get 7 _ rfl)).cons (hA.get 6 _ rfl)).cons (hA.get 5 _ rfl))⟩ ?_
      clear hM hA; rintro m549 a w550 ⟨x527, xs535, t537, v532, H546, hM, hA⟩
      cases m549 with
      | zero => exact absurd H546 (by simp [law33_FeesUndone.l0])
      | succ m549 =>
      rw [law33_FeesUndone.l0] at H546
      obtain ⟨A533, c534, rfl⟩ := RowOk.form (hM.frow (p := pSample) (.s (.s .z)))
      refine wp_seq ?_
      refine wp_seq ?_
      refine wp_region_lit ?_
      refine L1 (stv hA (by decide) (run_move (hA.ev rfl)) ?_)
      clear hA; intro a hA
      refine L1 (stv hA (by decide) (run_bin (hA.ev rfl) (hA.ev rfl) (bin_gtr _ _ _ _)) ?_)
      clear hA; intro a hA
      refine LQ ?_
      refine TN ?_
      refine tcond (b := (decide (t537 > 0))) hA rfl (fun hb551 => ?_) (fun hb551 => ?_)
      · replace H546 := ite_t hb551 H546
        refine wp_skip ?_
        refine TN ?_
        refine wp_seq ?_
        refine wp_block ?_
        refine wp_seq ?_
        refine wp_seq ?_
        refine wp_region_lit ?_
        refine L1 (stv hA (by decide) (run_move (hA.ev rfl)) ?_)
        clear hA; intro a hA
        obtain ⟨r552, H553, H546⟩ := Option.bind_eq_some_iff.1 H546
        refine L1 (st_call Try.call18 hA [(.pointer (some (⟨g315, 0, none⟩))), (.int .i64 2)] rfl (by decide) (mill_Deck_Next.calls _ (lightclientmill_Deck.mk l_0 x527) _ _ _ _ _ _ ((RoV.mk (hM.roC (Ms := [_]) hr0) (Eq.refl l_0.length) hc0)) (hM.front (Ms := [_])) H553) ?_)
        clear hA; rintro _ w554 ⟨rfl, hMc⟩ a hA
        have hM := hM.call (Ms := [_]) hMc
        clear hMc; simp only [List.cons_append, List.nil_append] at hM
        refine L1 (stv hA (by decide) (run_bin (hA.ev rfl) (hA.ev rfl) (bin_eql _ _ _ _)) ?_)
        clear hA; intro a hA
        refine LQ ?_
        refine TN ?_
        refine tcond (b := (r552.1 == 0)) hA rfl (fun hb555 => ?_) (fun hb555 => ?_)
        · replace H546 := ite_t hb555 H546
          refine wp_seq ?_
          refine wp_region_lit ?_
          refine L1 (stv hA (by decide) (run_move (hA.ev rfl)) ?_)
          clear hA; intro a hA
          refine L1 (stv hA (by decide) (run_move (hA.ev rfl)) ?_)
          clear hA; intro a hA
          obtain ⟨r556, H557, H546⟩ := Option.bind_eq_some_iff.1 H546
          refine L1 (st_call Try.call20 hA [(.pointer (some (⟨g315, 0, none⟩))), (.int .i64 4)] rfl (by decide) (mill_Hashes.calls _ (lightclientmill_Deck.mk l_0 r552.2.At_) _ _ _ _ _ _ ((RoV.mk (hM.roC (Ms := [_]) hr0) (Eq.refl l_0.length) hc0)) (hM.front (Ms := [_])) H557) ?_)
          clear hA; rintro _ w558 ⟨v559, rfl, hMc⟩ a hA
          have hM := hM.call (Ms := [_]) hMc
          clear hMc; simp only [List.cons_append, List.nil_append] at hM
          obtain ⟨A561, c562, rfl⟩ := RowOk.form (hM.row (p := pHash) (.s .z))
          refine L1 (stv hA (by decide) (run_move (hA.ev rfl)) ?_)
          clear hA; intro a hA
          refine L1 (stv hA (by decide) (run_bin (hA.ev rfl) (hA.ev rfl) (bin_add _ _ _ _)) ?_)
          clear hA; intro a hA
          refine L1 (stv hA (by decide) (run_move (hA.ev rfl)) ?_)
          clear hA; intro a hA
          obtain ⟨r563, H564, H546⟩ := Option.bind_eq_some_iff.1 H546
          refine L1 (st_call Try.call18 hA [(.pointer (some (⟨g315, 0, none⟩))), (.int .i64 4)] rfl (by decide) (mill_Deck_Next.calls _ (lightclientmill_Deck.mk l_0 r556.2.At_) _ _ _ _ _ _ ((RoV.mk (hM.roC (Ms := [_]) hr0) (Eq.refl l_0.length) hc0)) (hM.front (Ms := [_])) H564) ?_)
          clear hA; rintro _ w565 ⟨rfl, hMc⟩ a hA
          have hM := hM.call (Ms := [_]) hMc
          clear hMc; simp only [List.cons_append, List.nil_append] at hM
          refine L1 (stv hA (by decide) (run_bin (hA.ev rfl) (hA.ev rfl) (bin_add _ _ _ _)) ?_)
          clear hA; intro a hA
          obtain ⟨r566, H567, H546⟩ := Option.bind_eq_some_iff.1 H546
          refine L1 (st_call Try.call19 hA [(.slice A533 xs535.length c534), (.slice A561 r556.1.length c562), (.int .i64 (IntKind.i64.wrap ((IntKind.i64.wrap ((IntKind.i64.wrap (16 + r317)) + 1)) + r563.1)))] rfl (by decide) (fees_Confirm.calls _ _ _ _ _ _ _ _ _ ((RoV.mk (hM.froC (p := pSample) (Ms := []) (.s (.s (.s .z)))) (RowOk.len (hM.frow (p := pSample) (.s (.s (.s .z))))) (RowOk.cap (hM.frow (p := pSample) (.s (.s (.s .z))))))) ((RoV.mk (hM.rowC (p := pHash) (Ms := []) (.s .z)) (RowOk.len (hM.row (p := pHash) (.s .z))) (RowOk.cap (hM.row (p := pHash) (.s .z))))) (hM.front (Ms := [])) H567) ?_)
          clear hA; rintro _ w568 ⟨v569, rfl, hMc⟩ a hA
          have hE := hMc.below; have hM := hM.call (Ms := []) hMc
          clear hMc; simp only [List.cons_append, List.nil_append] at hM
          obtain ⟨A571, c572, rfl⟩ := RowOk.form (hM.row (p := pSample) .z)
          refine L1 (stv hA (by decide) (run_assign (hA.ev rfl)) ?_)
          clear hA; intro a hA
          refine LQ ?_
          refine TN ?_
          refine wp_exit ?_
          refine TX ?_
          refine BX ?_
          refine TN ?_
          refine wp_region_lit ?_
          refine L1 (stv hA (by decide) (run_move (hA.ev rfl)) ?_)
          clear hA; intro a hA
          refine L1 (stv hA (by decide) (run_bin (hA.ev rfl) (hA.ev rfl) (bin_sub _ _ _ _)) ?_)
          clear hA; intro a hA
          refine L1 (stv hA (by decide) (run_assign (hA.ev rfl)) ?_)
          clear hA; intro a hA
          refine LQ ?_
          have hM := hM.freeze .z
          exact ⟨_, Nat.lt_succ_self m549, r563.2.At_, r566, IntKind.i64.wrap (t537 - 1), (.slice A571 r566.length c572), H546, (hM.sel [1, 3, 0] rfl (by decide)), (((((hA.nil.cons (hA.get 9 _ rfl)).cons (hA.get 8 _ rfl)).cons (hA.get 7 _ rfl)).cons (hA.get 6 _ rfl)).cons (hA.get 5 _ rfl))⟩
        · replace H546 := ite_f hb555 H546
          refine wp_skip ?_
          refine TN ?_
          refine wp_seq ?_
          refine wp_region_lit ?_
          refine L1 (stv hA (by decide) (run_move (hA.ev rfl)) ?_)
          clear hA; intro a hA
          refine L1 (stv hA (by decide) (run_move (hA.ev rfl)) ?_)
          clear hA; intro a hA
          obtain ⟨r573, H574, H546⟩ := Option.bind_eq_some_iff.1 H546
          refine L1 (st_call Try.call18 hA [(.pointer (some (⟨g315, 0, none⟩))), (.int .i64 9)] rfl (by decide) (mill_Deck_Next.calls _ (lightclientmill_Deck.mk l_0 r552.2.At_) _ _ _ _ _ _ ((RoV.mk (hM.roC (Ms := [_]) hr0) (Eq.refl l_0.length) hc0)) (hM.front (Ms := [_])) H574) ?_)
          clear hA; rintro _ w575 ⟨rfl, hMc⟩ a hA
          have hM := hM.call (Ms := [_]) hMc
          clear hMc; simp only [List.cons_append, List.nil_append] at hM
          refine L1 (stv hA (by decide) (run_conv Try.underlying3 Try.underlying5 (hA.ev rfl)) ?_)
          clear hA; intro a hA
          refine L1 (stv hA (by decide) (run_build_arr [(0, (.int .u8 9)), (1, (.int .u8 (IntKind.u8.wrap r573.1)))] zero33 Try.underlying33 Try.sizeOf5 hA rfl (fill_step rfl rfl (enc_fit _ _ rfl) (arr_eq (vec_spl' _ _ _ (by decide))) (fill_step rfl rfl (enc_fit _ _ rfl) (arr_eq (vec_spl' _ _ _ (by decide))) (fill_nil)))) ?_)
          clear hA; intro a hA
          refine L1 (stv hA (by decide) (run_move (hA.ev rfl)) ?_)
          clear hA; intro a hA
          obtain ⟨r576, H577, H546⟩ := Option.bind_eq_some_iff.1 H546
          refine L1 (st_call Try.call18 hA [(.pointer (some (⟨g315, 0, none⟩))), (.int .i64 50)] rfl (by decide) (mill_Deck_Next.calls _ (lightclientmill_Deck.mk l_0 r573.2.At_) _ _ _ _ _ _ ((RoV.mk (hM.roC (Ms := [_]) hr0) (Eq.refl l_0.length) hc0)) (hM.front (Ms := [_])) H577) ?_)
          clear hA; rintro _ w578 ⟨rfl, hMc⟩ a hA
          have hM := hM.call (Ms := [_]) hMc
          clear hMc; simp only [List.cons_append, List.nil_append] at hM
          refine L1 (stv hA (by decide) (run_bin (hA.ev rfl) (hA.ev rfl) (bin_add _ _ _ _)) ?_)
          clear hA; intro a hA
          refine L1 (stv hA (by decide) (run_move (hA.ev rfl)) ?_)
          clear hA; intro a hA
          refine L1 (stv hA (by decide) (run_bin (hA.ev rfl) (hA.ev rfl) (bin_add _ _ _ _)) ?_)
          clear hA; intro a hA
          refine L1 (stv hA (by decide) (run_move (hA.ev rfl)) ?_)
          clear hA; intro a hA
          obtain ⟨r579, H580, H546⟩ := Option.bind_eq_some_iff.1 H546
          refine L1 (st_call Try.call18 hA [(.pointer (some (⟨g315, 0, none⟩))), (.int .i64 4)] rfl (by decide) (mill_Deck_Next.calls _ (lightclientmill_Deck.mk l_0 r576.2.At_) _ _ _ _ _ _ ((RoV.mk (hM.roC (Ms := [_]) hr0) (Eq.refl l_0.length) hc0)) (hM.front (Ms := [_])) H580) ?_)
          clear hA; rintro _ w581 ⟨rfl, hMc⟩ a hA
          have hM := hM.call (Ms := [_]) hMc
          clear hMc; simp only [List.cons_append, List.nil_append] at hM
          refine L1 (stv hA (by decide) (run_bin (hA.ev rfl) (hA.ev rfl) (bin_add _ _ _ _)) ?_)
          clear hA; intro a hA
          obtain ⟨r582, H583, H546⟩ := Option.bind_eq_some_iff.1 H546
          refine L1 (st_call Try.call21 hA [(.slice A533 xs535.length c534), (.agg (pHash.enc ((((Vector.replicate 32 0 : Vector Int 32).setIfInBounds 0 9).setIfInBounds 1 (IntKind.u8.wrap r573.1)))).toArray), (.int .i64 (IntKind.i64.wrap (10 + r576.1))), (.int .i64 (IntKind.i64.wrap ((IntKind.i64.wrap ((IntKind.i64.wrap (16 + r317)) + 1)) + r579.1)))] rfl (by decide) (fees_Observe.calls _ _ _ _ _ _ _ _ _ ((RoV.mk (hM.froC (p := pSample) (Ms := []) (.s (.s .z))) (RowOk.len (hM.frow (p := pSample) (.s (.s .z)))) (RowOk.cap (hM.frow (p := pSample) (.s (.s .z)))))) (hM.front (Ms := [])) H583) ?_)
          clear hA; rintro _ w584 ⟨v585, rfl, hMc⟩ a hA
          have hE := hMc.below; have hM := hM.call (Ms := []) hMc
          clear hMc; simp only [List.cons_append, List.nil_append] at hM
          obtain ⟨A587, c588, rfl⟩ := RowOk.form (hM.row (p := pSample) .z)
          refine L1 (stv hA (by decide) (run_move (hA.ev rfl)) ?_)
          clear hA; intro a hA
          refine L1 (stv hA (by decide) (run_ext (hA.ev rfl) rfl) ?_)
          clear hA; intro a hA
          refine L1 (stv hA (by decide) (run_ext (hA.ev rfl) rfl) ?_)
          clear hA; intro a hA
          refine L1 (stv hA (by decide) (run_assign (hA.ev rfl)) ?_)
          clear hA; intro a hA
          refine L1 (stv hA (by decide) (run_assign (hA.ev rfl)) ?_)
          clear hA; intro a hA
          refine LQ ?_
          refine TN ?_
          refine wp_seq ?_
          refine wp_region_lit ?_
          refine L1 (stv hA (by decide) (run_move (hA.ev rfl)) ?_)
          clear hA; intro a hA
          refine L1 (stv hA (by decide) (run_bin (hA.ev rfl) (hA.ev rfl) (bin_eql _ _ _ _)) ?_)
          clear hA; intro a hA
          refine LQ ?_
          refine TN ?_
          obtain ⟨o601, H600, H546⟩ := Option.bind_eq_some_iff.1 H546
          refine cutC (fun a w => ∃ (xs598 : (List Sample)) (v595 : Value), xs598 = o601 ∧ Mem F w0 w [.box g315 53 [(.slice A0 l_0.length c0), (.int .i64 r579.2.At_)], .fro 35 pSample.sz (.slice A332 r327.length c333) (pSample.flat r327), .fro 35 pSample.sz v595 (pSample.flat xs598)] ∧ Has 67 [(5, (.pointer (some (⟨g315, 0, none⟩)))), (6, (.int .i64 (IntKind.i64.wrap (16 + r317)))), (7, (.slice A332 r327.length c333)), (8, v595), (9, (.int .i64 t537))] a) ?_ ?_
          · refine tcond (b := (r582.2 == 0)) hA rfl (fun hb602 => ?_) (fun hb602 => ?_)
            · replace H600 := ite_t hb602 H600
              refine wp_region_lit ?_
              refine L1 (stv hA (by decide) (run_move (hA.ev rfl)) ?_)
              clear hA; intro a hA
              refine L1 (stv hA (by decide) (run_assign (hA.ev rfl)) ?_)
              clear hA; intro a hA
              refine LQ ?_
              have hM := hM.freeze .z
              exact ⟨r582.1, (.slice A587 r582.1.length c588), Option.some.inj H600, (hM.sel [1, 2, 0] rfl (by decide)), (((((hA.nil.cons (hA.get 9 _ rfl)).cons (hA.get 8 _ rfl)).cons (hA.get 7 _ rfl)).cons (hA.get 6 _ rfl)).cons (hA.get 5 _ rfl))⟩
            · replace H600 := ite_f hb602 H600
              refine wp_skip ?_
              exact ⟨xs535, (.slice A533 xs535.length c534), Option.some.inj H600, (hM.sel [1, 2, 3] rfl (by decide)), (((((hA.nil.cons (hA.get 9 _ rfl)).cons (hA.get 8 _ rfl)).cons (hA.get 7 _ rfl)).cons (hA.get 6 _ rfl)).cons (hA.get 5 _ rfl))⟩
          clear hM hA
          rintro a w603 ⟨xs598, v595, rfl, hM, hA⟩
          try dsimp only at H546
          obtain ⟨A596, c597, rfl⟩ := RowOk.form (hM.frow (p := pSample) (.s (.s .z)))
          refine BN ?_
          refine TN ?_
          refine wp_region_lit ?_
          refine L1 (stv hA (by decide) (run_move (hA.ev rfl)) ?_)
          clear hA; intro a hA
          refine L1 (stv hA (by decide) (run_bin (hA.ev rfl) (hA.ev rfl) (bin_sub _ _ _ _)) ?_)
          clear hA; intro a hA
          refine L1 (stv hA (by decide) (run_assign (hA.ev rfl)) ?_)
          clear hA; intro a hA
          refine LQ ?_
          exact ⟨_, Nat.lt_succ_self m549, r579.2.At_, xs598, IntKind.i64.wrap (t537 - 1), (.slice A596 xs598.length c597), H546, hM, (((((hA.nil.cons (hA.get 9 _ rfl)).cons (hA.get 8 _ rfl)).cons (hA.get 7 _ rfl)).cons (hA.get 6 _ rfl)).cons (hA.get 5 _ rfl))⟩
      · replace H546 := ite_f hb551 H546
        refine wp_exit ?_
        refine TX ?_
        refine TX ?_
        refine BX ?_
        exact ⟨xs535, (.slice A533 xs535.length c534), Option.some.inj H546, (hM.sel [1, 2] rfl (by decide)), (((hA.nil.cons (hA.get 8 _ rfl)).cons (hA.get 7 _ rfl)).cons (hA.get 6 _ rfl))⟩
    clear hM hA
    rintro a w604 ⟨xs545, v542, rfl, hM, hA⟩
    try dsimp only at H
    obtain ⟨A543, c544, rfl⟩ := RowOk.form (hM.frow (p := pSample) (.s .z))
    refine TN ?_
    refine wp_seq ?_
    refine wp_region_lit ?_
    refine L1 (stv hA (by decide) (run_move (hA.ev rfl)) ?_)
    clear hA; intro a hA
    refine L1 (stv hA (by decide) (run_move (hA.ev rfl)) ?_)
    clear hA; intro a hA
    obtain ⟨r605, H606, H⟩ := Option.bind_eq_some_iff.1 H
    refine L1 (st_call Try.call17 hA [(.slice A543 xs545.length c544), (.int .i64 (IntKind.i64.wrap (16 + r317)))] rfl (by decide) (fees_Rewind.calls _ _ _ _ _ _ _ ((RoV.mk (hM.froC (p := pSample) (Ms := []) (.s .z)) (RowOk.len (hM.frow (p := pSample) (.s .z))) (RowOk.cap (hM.frow (p := pSample) (.s .z))))) (hM.front (Ms := [])) H606) ?_)
    clear hA; rintro _ w607 ⟨v608, rfl, hMc⟩ a hA
    have hE := hMc.below; have hM := hM.call (Ms := []) hMc
    clear hMc; simp only [List.cons_append, List.nil_append] at hM
    obtain ⟨A610, c611, rfl⟩ := RowOk.form (hM.row (p := pSample) .z)
    refine L1 (stv hA (by decide) (run_move (hA.ev rfl)) ?_)
    clear hA; intro a hA
    obtain ⟨r612, H613, H⟩ := Option.bind_eq_some_iff.1 H
    refine L1 (st_call Try.call22 hA [(.slice A610 r605.length c611), (.slice A332 r327.length c333)] rfl (by decide) (ref33_Same.calls _ _ _ _ _ _ _ _ ((RoV.mk (hM.rowC (p := pSample) (Ms := []) .z) (RowOk.len (hM.row (p := pSample) .z)) (RowOk.cap (hM.row (p := pSample) .z)))) ((RoV.mk (hM.froC (p := pSample) (Ms := []) (.s .z)) (RowOk.len (hM.frow (p := pSample) (.s .z))) (RowOk.cap (hM.frow (p := pSample) (.s .z))))) (hM.front (Ms := [])) H613) ?_)
    clear hA; rintro _ w614 ⟨rfl, hMc⟩ a hA
    have hE := hMc.below; have hM := hM.call (Ms := []) hMc
    clear hMc; simp only [List.cons_append, List.nil_append] at hM
    refine L1 (stv hA (by decide) (run_assign (hA.ev rfl)) ?_)
    clear hA; intro a hA
    refine LQ ?_
    refine TN ?_
    refine wp_ret ?_
    obtain rfl := Option.some.inj H
    exact ret_post1 (fn := Try.f5) hA rfl rfl ⟨_, rfl, rfl, (hM.sel [] rfl (by decide))⟩

end Go.Proofs.Ytjdahineeoofiaa.G
