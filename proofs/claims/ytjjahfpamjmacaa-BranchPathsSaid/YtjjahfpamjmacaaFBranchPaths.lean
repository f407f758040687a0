/- The functions that a law of this seat reaches: what each comes to, as a plain function, and that its code comes to it. Conditions: the plain function gives a value (enough fuel, no panic). -/
import Derived.Test.YtjjahfpamjmacaaFBranchPathsx1
set_option linter.unusedVariables false
set_option linter.unusedSimpArgs false
namespace Go.Proofs.Ytjjahfpamjmacaa.G
open Go Go.RowKit Go.Proofs
def ref16_Path.l0 (t_0 : Tree) (r202 : Int) (r212 : (List Int)) : Nat → (List Int) → Int → Option ((List Int))
  | 0, _, _ => none
  | k + 1, xs299, i305 => (if (decide (i305 > ((t_0.Nodes.getD r202.toNat Node.z).Height))) = true then (if 0 ≤ i305 ∧ i305 < ((r212.length : Nat) : Int) then (if (xs299.length + 1) * 8 ≤ 140737488355328 then (ref16_Path.l0 t_0 r202 r212 k (xs299 ++ [(r212.getD i305.toNat (0 : Int))]) (IntKind.i64.wrap (i305 - 1))) else none) else none) else (some xs299))
def ref16_Path.f (k : Nat) (t_0 : Tree) (from_1 : Int) (to_2 : Int) : Option ((List Int) × (List Int)) := (Option.bind (α := Bool) ((ref16_node.f k (Tree.mk t_0.Nodes t_0.Best) from_1).bind fun r189 => (if (!r189) = true then (some true) else ((ref16_node.f k (Tree.mk t_0.Nodes t_0.Best) to_2).bind fun r193 => (some (!r193))))) (fun t186 => (if t186 = true then (some (([] : List Int), ([] : List Int))) else ((ref16_Fork.f k (Tree.mk t_0.Nodes t_0.Best) from_1 to_2).bind fun r202 => (if 0 ≤ r202 ∧ r202 < ((t_0.Nodes.length : Nat) : Int) then ((ref16_line.f k (Tree.mk t_0.Nodes t_0.Best) from_1).bind fun r212 => ((ref16_line.f k (Tree.mk t_0.Nodes t_0.Best) to_2).bind fun r218 => (Option.bind (α := (List Int)) (ref16_Path.l0 t_0 r202 r212 k ([] : List Int) (IntKind.i64.wrap (((r212.length : Nat) : Int) - 1))) (fun xs311 => (if 0 ≤ (IntKind.i64.wrap (((t_0.Nodes.getD r202.toNat Node.z).Height) + 1)) ∧ (IntKind.i64.wrap (((t_0.Nodes.getD r202.toNat Node.z).Height) + 1)) ≤ ((r218.length : Nat) : Int) then (if (r218.length - (IntKind.i64.wrap (((t_0.Nodes.getD r202.toNat Node.z).Height) + 1)).toNat) * 8 ≤ 140737488355328 then (some (xs311, (r218.drop ((IntKind.i64.wrap (((t_0.Nodes.getD r202.toNat Node.z).Height) + 1)).toNat)))) else none) else none))))) else none)))))
set_option maxRecDepth 100000 in
theorem ref16_Path.calls (k : Nat) (t_0 : Tree) (from_1 : Int) (to_2 : Int) (F : List (Option Nat)) (v0_0 : Value) (r : ((List Int) × (List Int))) (w0 : World) (h0_0 : RoV F pNode w0 v0_0 t_0.Nodes) (hM : Mem F w0 w0 []) (H : ref16_Path.f k t_0 from_1 to_2 = some r) :
    Calls Try.prog 20 #[(.agg #[v0_0, (.int .i64 t_0.Best)]), (.int .i64 from_1), (.int .i64 to_2)] w0 fun e w' => ∃ v, e = .returned v ∧ ∃ (ur_0 : Value) (ur_1 : Value), v = (.tuple #[ur_0, ur_1]) ∧ Mem F w0 w' [.row 3 (Pl.int .i64).sz ur_0 ((Pl.int .i64).flat r.1), .row 3 (Pl.int .i64).sz ur_1 ((Pl.int .i64).flat r.2)] := by
  unfold ref16_Path.f at H
  obtain ⟨A0_0, c0_0, rfl, hr0_0, hc0_0⟩ := h0_0
  refine enterL (n := 59) [(.agg #[(.slice A0_0 t_0.Nodes.length c0_0), (.int .i64 t_0.Best)]), (.int .i64 from_1), (.int .i64 to_2)] Try.func20 rfl rfl rfl ?_
  intro a hA
  refine wp_seq ?_
  refine wp_region_lit ?_
  refine L1 (e_box (cs := [(.slice A0_0 t_0.Nodes.length c0_0), (.int .i64 t_0.Best)]) hM hA rfl rfl (by decide) ?_)
  clear hM hA; intro w171 g170 hM hE a hA
  refine L1 (stv hA (by decide) (run_assign (hA.ev rfl)) ?_)
  clear hA; intro a hA
  refine L1 (stv hA (by decide) (run_assign (hA.ev rfl)) ?_)
  clear hA; intro a hA
  refine LQ ?_
  refine TN ?_
  refine wp_seq ?_
  refine wp_seq ?_
  obtain ⟨o188, H187, H⟩ := Option.bind_eq_some_iff.1 H
  refine cutC (fun a w => ∃ (t186 : Bool), t186 = o188 ∧ Mem F w0 w [.box g170 24 [(.slice A0_0 t_0.Nodes.length c0_0), (.int .i64 t_0.Best)]] ∧ Has 59 [(1, (.int .i64 from_1)), (2, (.int .i64 to_2)), (3, (.pointer (some (⟨g170, 0, none⟩)))), (6, (.slice none 0 0)), (7, (.slice none 0 0)), (21, (.bool t186))] a) ?_ ?_
  · refine wp_region_lit ?_
    refine L1 (stv hA (by decide) (run_ld (hA.ev rfl) (run_loadW Try.isAgg24 Try.sizeOf24 (by simp [Pl.len]; try rfl) (hM.box .z))) ?_)
    clear hA; intro a hA
    refine L1 (stv hA (by decide) (run_move (hA.ev rfl)) ?_)
    clear hA; intro a hA
    obtain ⟨r189, H190, H187⟩ := Option.bind_eq_some_iff.1 H187
    refine L1 (st_call Try.call28 hA [(.agg #[(.slice A0_0 t_0.Nodes.length c0_0), (.int .i64 t_0.Best)]), (.int .i64 from_1)] rfl (by decide) (ref16_node.calls _ _ _ _ _ _ _ ((RoV.mk (hM.roC (Ms := []) hr0_0) (Eq.refl t_0.Nodes.length) hc0_0)) (hM.front (Ms := [])) H190) ?_)
    clear hA; rintro _ w191 ⟨rfl, hMc⟩ a hA
    have hE := hMc.below; have hM := hM.call (Ms := []) hMc
    clear hMc; simp only [List.cons_append, List.nil_append] at hM
    refine L1 (stv hA (by decide) (run_not (hA.ev rfl)) ?_)
    clear hA; intro a hA
    refine L1 (stv hA (by decide) (run_move (hA.ev rfl)) ?_)
    clear hA; intro a hA
    refine bsplit (b := (!r189)) (fun hb192 => ?_) (fun hb192 => ?_)
    · replace H187 := ite_t hb192 H187
      have hA := hA.re (t := 16) rfl (congrArg Value.bool hb192)
      refine L1 (gate_off rfl (by decide) rfl hA (by decide) rfl rfl ?_); clear hA; intro a hA
      refine L1 (gate_off rfl (by decide) rfl hA (by decide) rfl rfl ?_); clear hA; intro a hA
      refine L1 (gate_off rfl (by decide) rfl hA (by decide) rfl rfl ?_); clear hA; intro a hA
      refine L1 (gate_off rfl (by decide) rfl hA (by decide) rfl rfl ?_); clear hA; intro a hA
      refine L1 (stv hA (by decide) (run_pick (hA.ev rfl) (fun _ => hA.ev rfl) (fun h => Bool.noConfusion h)) ?_)
      clear hA; intro a hA
      refine LQ ?_
      exact ⟨true, Option.some.inj H187, hM, ((((((hA.nil.cons (hA.get 21 _ rfl)).cons (hA.get 7 _ rfl)).cons (hA.get 6 _ rfl)).cons (hA.get 3 _ rfl)).cons (hA.get 2 _ rfl)).cons (hA.get 1 _ rfl))⟩
    · replace H187 := ite_f hb192 H187
      have hA := hA.re (t := 16) rfl (congrArg Value.bool hb192)
      refine L1 (gate_on rfl rfl hA (by decide) rfl (stv hA (by decide) (run_ld (hA.ev rfl) (run_loadW Try.isAgg24 Try.sizeOf24 (by simp [Pl.len]; try rfl) (hM.box .z))) ?_))
      clear hA; intro a hA
      refine L1 (gate_on rfl rfl hA (by decide) rfl (stv hA (by decide) (run_move (hA.ev rfl)) ?_))
      clear hA; intro a hA
      obtain ⟨r193, H194, H187⟩ := Option.bind_eq_some_iff.1 H187
      refine L1 (gate_on rfl rfl hA (by decide) rfl (st_call Try.call28 hA [(.agg #[(.slice A0_0 t_0.Nodes.length c0_0), (.int .i64 t_0.Best)]), (.int .i64 to_2)] rfl (by decide) (ref16_node.calls _ _ _ _ _ _ _ ((RoV.mk (hM.roC (Ms := []) hr0_0) (Eq.refl t_0.Nodes.length) hc0_0)) (hM.front (Ms := [])) H194) ?_))
      clear hA; rintro _ w195 ⟨rfl, hMc⟩ a hA
      have hE := hMc.below; have hM := hM.call (Ms := []) hMc
      clear hMc; simp only [List.cons_append, List.nil_append] at hM
      refine L1 (gate_on rfl rfl hA (by decide) rfl (stv hA (by decide) (run_not (hA.ev rfl)) ?_))
      clear hA; intro a hA
      refine L1 (stv hA (by decide) (run_pick (hA.ev rfl) (fun h => Bool.noConfusion h) (fun _ => hA.ev rfl)) ?_)
      clear hA; intro a hA
      refine LQ ?_
      exact ⟨(!r193), Option.some.inj H187, hM, ((((((hA.nil.cons (hA.get 21 _ rfl)).cons (hA.get 7 _ rfl)).cons (hA.get 6 _ rfl)).cons (hA.get 3 _ rfl)).cons (hA.get 2 _ rfl)).cons (hA.get 1 _ rfl))⟩
  clear hM hA
  rintro a w196 ⟨t186, rfl, hM, hA⟩
  try dsimp only at H
  refine TN ?_
  refine tcond (b := t186) hA rfl (fun hb197 => ?_) (fun hb197 => ?_)
  · replace H := ite_t hb197 H
    refine wp_seq ?_
    refine wp_region_lit ?_
    refine L1 (stv hA (by decide) (run_assign (hA.ev rfl)) ?_)
    clear hA; intro a hA
    refine L1 (stv hA (by decide) (run_assign (hA.ev rfl)) ?_)
    clear hA; intro a hA
    refine LQ ?_
    refine TN ?_
    refine wp_ret ?_
    have hM := hM.addnil 3 ((Pl.int .i64)).sz
    have hM := hM.addnil 3 ((Pl.int .i64)).sz
    obtain rfl := Option.some.inj H
    refine TR ?_
    exact ret_post2 (fn := Try.f20) hA rfl rfl rfl ⟨_, rfl, (.slice none 0 0), (.slice none 0 0), rfl, (hM.sel [1, 0] rfl (by decide))⟩
  · replace H := ite_f hb197 H
    refine wp_skip ?_
    refine TN ?_
    refine wp_seq ?_
    refine draw (fun w' => Below w196.heap.size w196 w') [] rfl ?_
    intro w200 hw hS; replace hM := hM.ext hS; clear hw
    refine d_takef (i := 0) (L' := #[true, false, false, false, false, false, false, false, false, false]) rfl (by kernel_rfl) rfl (fun _ _ _ h => h) hA (by decide) (fun _ => hS) (fun a w' hA => run_field' Try.underlying24 rfl rfl Try.sizeOf22 (by decide) (hA.ev rfl)) ?_; clear hA; intro a hA
    refine rebase hS ?_; clear hS; intro hS
    refine d_take (i := 1) (L' := #[true, true, false, false, false, false, false, false, false, false]) rfl (by kernel_rfl) rfl (fun _ _ _ h => h) hA (by decide) rfl hS (fun a w' hA hS' => run_ld (hA.ev rfl) (run_loadS Try.isAgg22 ((At.seg1 (hM.box .z) 0 rfl).extB hS'))) ?_; clear hA; intro a hA
    refine d_take (i := 2) (L' := #[true, true, true, false, false, false, false, false, false, false]) rfl (by kernel_rfl) rfl (fun _ _ _ h => h) hA (by decide) rfl hS (fun a w' hA hS' => run_ld (hA.ev rfl) (run_loadW Try.isAgg24 Try.sizeOf24 (by simp [Pl.len]; try rfl) ((hM.box .z).extB hS'))) ?_; clear hA; intro a hA
    refine d_takef (i := 3) (L' := #[true, true, true, true, false, false, false, false, false, false]) rfl (by kernel_rfl) rfl (fun _ _ _ h => h) hA (by decide) (fun _ => hS) (fun a w' hA => run_move (hA.ev rfl)) ?_; clear hA; intro a hA
    refine d_takef (i := 4) (L' := #[true, true, true, true, true, false, false, false, false, false]) rfl (by kernel_rfl) rfl (fun _ _ _ h => h) hA (by decide) (fun _ => hS) (fun a w' hA => run_move (hA.ev rfl)) ?_; clear hA; intro a hA
    obtain ⟨r202, H203, H⟩ := Option.bind_eq_some_iff.1 H
    refine d_one (i := 5) (L' := #[true, true, true, true, true, true, false, false, false, false]) (by kernel_rfl) rfl rfl (st_call Try.call17 hA [(.agg #[(.slice A0_0 t_0.Nodes.length c0_0), (.int .i64 t_0.Best)]), (.int .i64 from_1), (.int .i64 to_2)] rfl (by decide) (ref16_Fork.calls _ _ _ _ _ _ _ _ ((RoV.mk (hM.roC (Ms := []) hr0_0) (Eq.refl t_0.Nodes.length) hc0_0)) (hM.front (Ms := [])) H203) ?_)
    clear hA; rintro _ w204 ⟨rfl, hMc⟩ a hA
    have hE := hMc.below; have hM := hM.call (Ms := []) hMc
    clear hMc; simp only [List.cons_append, List.nil_append] at hM
    replace hS := hS.trans (hE.mono hS.size)
    refine ⟨fun _ => hS, ?_⟩
    obtain ⟨⟨hi205, hj206⟩, H⟩ := ite_some H
    obtain ⟨ad207, hq208, hat209⟩ := Row.elem' (p := pNode) (hM.ro hr0_0) (Eq.refl t_0.Nodes.length) Node.z r202 hi205 hj206
    refine d_takef (i := 6) (L' := #[true, true, true, true, true, true, true, false, false, false]) rfl (by kernel_rfl) rfl (fun _ _ _ h => h) hA (by decide) (fun _ => hS) (fun a w' hA => run_idx Try.underlying22 Try.sizeOf46 (hA.ev rfl) hq208 (hA.ev rfl) hi205 hj206) ?_; clear hA; intro a hA
    refine d_takef (i := 7) (L' := #[true, true, true, true, true, true, true, true, false, false]) rfl (by kernel_rfl) rfl (fun _ _ _ h => h) hA (by decide) (fun _ => hS) (fun a w' hA => run_field' Try.underlying46 rfl rfl Try.sizeOf3 (by decide) (hA.ev rfl)) ?_; clear hA; intro a hA
    refine rebase hS ?_; clear hS; intro hS
    refine d_take (i := 8) (L' := #[true, true, true, true, true, true, true, true, true, false]) rfl (by kernel_rfl) rfl (fun _ _ _ h => h) hA (by decide) rfl hS (fun a w' hA hS' => run_ld (hA.ev rfl) (run_loadS Try.isAgg3 ((Node.at_Height (hat209)).extB hS'))) ?_; clear hA; intro a hA
    refine d_takef (i := 9) (L' := #[true, true, true, true, true, true, true, true, true, true]) rfl (by kernel_rfl) rfl (fun _ _ _ h => h) hA (by decide) (fun _ => hS) (fun a w' hA => run_assign (hA.ev rfl)) ?_; clear hA; intro a hA
    refine d_done (by kernel_rfl) ?_
    refine TN ?_
    refine wp_seq ?_
    refine draw (fun w' => Below w204.heap.size w204 w') [] rfl ?_
    intro w210 hw hS; replace hM := hM.ext hS; clear hw
    refine rebase hS ?_; clear hS; intro hS
    refine d_take (i := 0) (L' := #[true, false, false, false, false, false, false, false]) rfl (by kernel_rfl) rfl (fun _ _ _ h => h) hA (by decide) rfl hS (fun a w' hA hS' => run_ld (hA.ev rfl) (run_loadW Try.isAgg24 Try.sizeOf24 (by simp [Pl.len]; try rfl) ((hM.box .z).extB hS'))) ?_; clear hA; intro a hA
    refine d_takef (i := 1) (L' := #[true, true, false, false, false, false, false, false]) rfl (by kernel_rfl) rfl (fun _ _ _ h => h) hA (by decide) (fun _ => hS) (fun a w' hA => run_move (hA.ev rfl)) ?_; clear hA; intro a hA
    refine d_take (i := 3) (L' := #[true, true, false, true, false, false, false, false]) rfl (by kernel_rfl) rfl (fun _ _ _ h => h) hA (by decide) rfl hS (fun a w' hA hS' => run_ld (hA.ev rfl) (run_loadW Try.isAgg24 Try.sizeOf24 (by simp [Pl.len]; try rfl) ((hM.box .z).extB hS'))) ?_; clear hA; intro a hA
    refine d_takef (i := 4) (L' := #[true, true, false, true, true, false, false, false]) rfl (by kernel_rfl) rfl (fun _ _ _ h => h) hA (by decide) (fun _ => hS) (fun a w' hA => run_move (hA.ev rfl)) ?_; clear hA; intro a hA
    obtain ⟨r212, H213, H⟩ := Option.bind_eq_some_iff.1 H
    refine d_one (i := 2) (L' := #[true, true, true, true, true, false, false, false]) (by kernel_rfl) rfl rfl (st_call Try.call26 hA [(.agg #[(.slice A0_0 t_0.Nodes.length c0_0), (.int .i64 t_0.Best)]), (.int .i64 from_1)] rfl (by decide) (ref16_line.calls _ _ _ _ _ _ _ ((RoV.mk (hM.roC (Ms := []) hr0_0) (Eq.refl t_0.Nodes.length) hc0_0)) (hM.front (Ms := [])) H213) ?_)
    clear hA; rintro _ w214 ⟨v215, rfl, hMc⟩ a hA
    have hE := hMc.below; have hM := hM.call (Ms := []) hMc
    clear hMc; simp only [List.cons_append, List.nil_append] at hM
    obtain ⟨A216, c217, rfl⟩ := RowOk.form (hM.row (p := (Pl.int .i64)) .z)
    replace hS := hS.trans (hE.mono hS.size)
    refine ⟨fun _ => hS, ?_⟩
    obtain ⟨r218, H219, H⟩ := Option.bind_eq_some_iff.1 H
    refine d_one (i := 5) (L' := #[true, true, true, true, true, true, false, false]) (by kernel_rfl) rfl rfl (st_call Try.call26 hA [(.agg #[(.slice A0_0 t_0.Nodes.length c0_0), (.int .i64 t_0.Best)]), (.int .i64 to_2)] rfl (by decide) (ref16_line.calls _ _ _ _ _ _ _ ((RoV.mk (hM.roC (Ms := []) hr0_0) (Eq.refl t_0.Nodes.length) hc0_0)) (hM.front (Ms := [])) H219) ?_)
    clear hA; rintro _ w220 ⟨v221, rfl, hMc⟩ a hA
    have hE := hMc.below; have hM := hM.call (Ms := []) hMc
    clear hMc; simp only [List.cons_append, List.nil_append] at hM
    obtain ⟨A222, c223, rfl⟩ := RowOk.form (hM.row (p := (Pl.int .i64)) .z)
    replace hS := hS.trans (hE.mono hS.size)
    refine ⟨fun _ => hS, ?_⟩
    refine d_takef (i := 6) (L' := #[true, true, true, true, true, true, true, false]) rfl (by kernel_rfl) rfl (fun _ _ _ h => h) hA (by decide) (fun _ => hS) (fun a w' hA => run_assign (hA.ev rfl)) ?_; clear hA; intro a hA
    refine d_takef (i := 7) (L' := #[true, true, true, true, true, true, true, true]) rfl (by kernel_rfl) rfl (fun _ _ _ h => h) hA (by decide) (fun _ => hS) (fun a w' hA => run_assign (hA.ev rfl)) ?_; clear hA; intro a hA
    refine d_done (by kernel_rfl) ?_
    refine TN ?_
    refine wp_seq ?_
    refine wp_seq ?_
    refine wp_region_lit ?_
    refine L1 (stv hA (by decide) (run_move (hA.ev rfl)) ?_)
    clear hA; intro a hA
    refine L1 (stv hA (by decide) (run_len_slice Try.underlying31 (hA.ev rfl)) ?_)
    clear hA; intro a hA
    refine L1 (stv hA (by decide) (run_bin (hA.ev rfl) (hA.ev rfl) (bin_sub _ _ _ _)) ?_)
    clear hA; intro a hA
    refine L1 (stv hA (by decide) (run_assign (hA.ev rfl)) ?_)
    clear hA; intro a hA
    refine LQ ?_
    refine TN ?_
    obtain ⟨o316, H315, H⟩ := Option.bind_eq_some_iff.1 H
    refine cutC (fun a w => ∃ (xs311 : (List Int)) (v308 : Value), xs311 = o316 ∧ Mem F w0 w [.row 3 (Pl.int .i64).sz v308 ((Pl.int .i64).flat xs311), .row 3 (Pl.int .i64).sz (.slice A222 r218.length c223) ((Pl.int .i64).flat r218)] ∧ Has 59 [(6, v308), (7, (.slice none 0 0)), (8, (.int .i64 ((t_0.Nodes.getD r202.toNat Node.z).Height))), (10, (.slice A222 r218.length c223))] a) ?_ ?_
    · refine wp_block ?_
      have hM := hM.addnil 3 ((Pl.int .i64)).sz
      refine wp_loop_ghost (fun m a w => ∃ (xs299 : (List Int)) (i305 : Int) (v296 : Value), ref16_Path.l0 t_0 r202 r212 m xs299 i305 = some o316 ∧ Mem F w0 w [.row 3 (Pl.int .i64).sz v296 ((Pl.int .i64).flat xs299), .row 3 (Pl.int .i64).sz (.slice A216 r212.length c217) ((Pl.int .i64).flat r212), .row 3 (Pl.int .i64).sz (.slice A222 r218.length c223) ((Pl.int .i64).flat r218)] ∧ Has 59 [(6, v296), (7, (.slice none 0 0)), (8, (.int .i64 ((t_0.Nodes.getD r202.toNat Node.z).Height))), (9, (.slice A216 r212.length c217)), (10, (.slice A222 r218.length c223)), (11, (.int .i64 i305))] a) k ⟨([] : List Int), IntKind.i64.wrap (((r212.length : Nat) : Int) - 1), (.slice none 0 0), H315, (hM.sel [0, 2, 1] rfl (by decide)), ((((((hA.nil.cons (hA.get 11 _ rfl)).cons (hA.get 10 _ rfl)).cons (hA.get 9 _ rfl)).cons (hA.get 8 _ rfl)).cons (hA.get 7 _ rfl)).cons (hA.get 6 _ rfl))⟩ ?_
      clear hM hA; rintro m318 a w319 ⟨xs299, i305, v296, H315, hM, hA⟩
      cases m318 with
      | zero => exact absurd H315 (by simp [ref16_Path.l0])
      | succ m318 =>
      rw [ref16_Path.l0] at H315
      obtain ⟨A297, c298, rfl⟩ := RowOk.form (hM.row (p := (Pl.int .i64)) .z)
      refine wp_seq ?_
      refine wp_seq ?_
      refine wp_region_lit ?_
      refine L1 (stv hA (by decide) (run_move (hA.ev rfl)) ?_)
      clear hA; intro a hA
      refine L1 (stv hA (by decide) (run_move (hA.ev rfl)) ?_)
      clear hA; intro a hA
      refine L1 (stv hA (by decide) (run_bin (hA.ev rfl) (hA.ev rfl) (bin_gtr _ _ _ _)) ?_)
      clear hA; intro a hA
      refine LQ ?_
      refine TN ?_
      refine tcond (b := (decide (i305 > ((t_0.Nodes.getD r202.toNat Node.z).Height)))) hA rfl (fun hb320 => ?_) (fun hb320 => ?_)
      · replace H315 := ite_t hb320 H315
        refine wp_skip ?_
        refine TN ?_
        refine wp_seq ?_
        refine wp_block ?_
        refine wp_region_lit ?_
        refine L1 (stv hA (by decide) (run_move (hA.ev rfl)) ?_)
        clear hA; intro a hA
        refine L1 (stv hA (by decide) (run_move (hA.ev rfl)) ?_)
        clear hA; intro a hA
        refine L1 (stv hA (by decide) (run_move (hA.ev rfl)) ?_)
        clear hA; intro a hA
        obtain ⟨⟨hi321, hj322⟩, H315⟩ := ite_some H315
        obtain ⟨ad323, hq324, hat325⟩ := Row.elem' (p := (Pl.int .i64)) (RowOk.row (hM.row (p := (Pl.int .i64)) (.s .z))) (RowOk.len (hM.row (p := (Pl.int .i64)) (.s .z))) (0 : Int) i305 hi321 hj322
        refine L1 (stv hA (by decide) (run_idx Try.underlying31 Try.sizeOf3 (hA.ev rfl) hq324 (hA.ev rfl) hi321 hj322) ?_)
        clear hA; intro a hA
        refine L1 (stv hA (by decide) (run_ld (hA.ev rfl) (run_loadS Try.isAgg3 hat325)) ?_)
        clear hA; intro a hA
        refine L1 (e_litN [(r212.getD i305.toNat (0 : Int))] [(.int .i64 (r212.getD i305.toNat (0 : Int)))] elt31 hM rfl (by decide) hA rfl rfl (List.cons_ne_nil _ _) (by decide) ?_)
        clear hM hA; intro w327 g326 hM hE a hA
        obtain ⟨hl331, H315⟩ := ite_some H315
        refine L1 (e_append elt31 hM (fun _ => (.s .z)) (Src.row Try.underlying31 (RowOk.row (hM.row (p := (Pl.int .i64)) .z)) (RowOk.len (hM.row (p := (Pl.int .i64)) .z))) hl331 hA rfl rfl (by decide) ?_)
        clear hM hA; intro w332 A329 c330 hM hE a hA
        refine L1 (stv hA (by decide) (run_assign (hA.ev rfl)) ?_)
        clear hA; intro a hA
        refine LQ ?_
        refine BN ?_
        refine TN ?_
        refine wp_region_lit ?_
        refine L1 (stv hA (by decide) (run_move (hA.ev rfl)) ?_)
        clear hA; intro a hA
        refine L1 (stv hA (by decide) (run_bin (hA.ev rfl) (hA.ev rfl) (bin_sub _ _ _ _)) ?_)
        clear hA; intro a hA
        refine L1 (stv hA (by decide) (run_assign (hA.ev rfl)) ?_)
        clear hA; intro a hA
        refine LQ ?_
        exact ⟨_, Nat.lt_succ_self m318, (xs299 ++ [(r212.getD i305.toNat (0 : Int))]), IntKind.i64.wrap (i305 - 1), (.slice A329 (xs299.length + 1) c330), H315, (hM.sel [1, 2, 3] rfl (by decide)), ((((((hA.nil.cons (hA.get 11 _ rfl)).cons (hA.get 10 _ rfl)).cons (hA.get 9 _ rfl)).cons (hA.get 8 _ rfl)).cons (hA.get 7 _ rfl)).cons (hA.get 6 _ rfl))⟩
      · replace H315 := ite_f hb320 H315
        refine wp_exit ?_
        refine TX ?_
        refine TX ?_
        refine BX ?_
        exact ⟨xs299, (.slice A297 xs299.length c298), Option.some.inj H315, (hM.sel [0, 2] rfl (by decide)), ((((hA.nil.cons (hA.get 10 _ rfl)).cons (hA.get 8 _ rfl)).cons (hA.get 7 _ rfl)).cons (hA.get 6 _ rfl))⟩
    clear hM hA
    rintro a w333 ⟨xs311, v308, rfl, hM, hA⟩
    try dsimp only at H
    obtain ⟨A309, c310, rfl⟩ := RowOk.form (hM.row (p := (Pl.int .i64)) .z)
    refine TN ?_
    refine wp_seq ?_
    refine wp_region_lit ?_
    refine L1 (stv hA (by decide) (run_move (hA.ev rfl)) ?_)
    clear hA; intro a hA
    refine L1 (stv hA (by decide) (run_move (hA.ev rfl)) ?_)
    clear hA; intro a hA
    refine L1 (stv hA (by decide) (run_move (hA.ev rfl)) ?_)
    clear hA; intro a hA
    refine L1 (stv hA (by decide) (run_move (hA.ev rfl)) ?_)
    clear hA; intro a hA
    refine L1 (stv hA (by decide) (run_bin (hA.ev rfl) (hA.ev rfl) (bin_add _ _ _ _)) ?_)
    clear hA; intro a hA
    obtain ⟨⟨hi334, hj335⟩, H⟩ := ite_some H
    refine L1 (stv hA (by decide) (run_lo Try.underlying31 Try.sizeOf3 (RowOk.cap (hM.row (p := (Pl.int .i64)) (.s .z))) hi334 hj335 (hA.ev rfl) (hA.ev rfl)) ?_)
    clear hA; intro a hA
    obtain ⟨hl338, H⟩ := ite_some H
    refine L1 (e_append0 elt31 hM (Src.row Try.underlying31 (Row.drop' (c := c223) (RowOk.row (hM.row (p := (Pl.int .i64)) (.s .z))) (by have hh1 := (RowOk.len (hM.row (p := (Pl.int .i64)) (.s .z))); omega) (by have hh1 := (RowOk.len (hM.row (p := (Pl.int .i64)) (.s .z))); have hh2 := (RowOk.cap (hM.row (p := (Pl.int .i64)) (.s .z))); omega)) (len_drop (RowOk.len (hM.row (p := (Pl.int .i64)) (.s .z))))) hl338 hA rfl rfl (by decide) ?_)
    clear hM hA; intro w339 A336 c337 hM hE a hA
    refine L1 (stv hA (by decide) (run_assign (hA.ev rfl)) ?_)
    clear hA; intro a hA
    refine L1 (stv hA (by decide) (run_assign (hA.ev rfl)) ?_)
    clear hA; intro a hA
    refine LQ ?_
    refine TN ?_
    refine wp_ret ?_
    obtain rfl := Option.some.inj H
    exact ret_post2 (fn := Try.f20) hA rfl rfl rfl ⟨_, rfl, (.slice A309 xs311.length c310), (.slice A336 (r218.length - (IntKind.i64.wrap (((t_0.Nodes.getD r202.toNat Node.z).Height) + 1)).toNat) c337), rfl, (hM.sel [1, 0] rfl (by decide))⟩

def law16_BranchPaths.f (k : Nat) (t_0 : Tree) (l_1 : (List Int)) (a_2 : Int) (b_3 : Int) : Option Bool := ((law16_sane.f k ).bind fun r194 => (if (!r194) = true then (some false) else ((keep_Tree.f k (Tree.mk t_0.Nodes t_0.Best) 30).bind fun r198 => (if (!r198) = true then (some true) else ((law16_line.f k l_1).bind fun r204 => ((branch_Path.f k (Tree.mk t_0.Nodes t_0.Best) a_2 b_3).bind fun r217 => ((ref16_Path.f k (Tree.mk t_0.Nodes t_0.Best) a_2 b_3).bind fun r228 => (Option.bind (α := Bool) ((ref16_SameInts.f k r217.1 r228.1).bind fun r255 => (if (!r255) = true then (some true) else ((ref16_SameInts.f k r217.2 r228.2).bind fun r259 => (some (!r259))))) (fun t252 => (if t252 = true then (some false) else ((branch_Path.f k (Tree.mk r204.Nodes r204.Best) a_2 b_3).bind fun r269 => ((ref16_Path.f k (Tree.mk r204.Nodes r204.Best) a_2 b_3).bind fun r280 => (Option.bind (α := Bool) ((ref16_SameInts.f k r269.1 r280.1).bind fun r307 => (if (!r307) = true then (some true) else ((ref16_SameInts.f k r269.2 r280.2).bind fun r311 => (some (!r311))))) (fun t304 => (if t304 = true then (some false) else (some true))))))))))))))))
set_option maxRecDepth 100000 in
theorem law16_BranchPaths.calls (k : Nat) (t_0 : Tree) (l_1 : (List Int)) (a_2 : Int) (b_3 : Int) (F : List (Option Nat)) (v0_0 : Value) (v1 : Value) (r : Bool) (w0 : World) (h0_0 : RoV F pNode w0 v0_0 t_0.Nodes) (h1 : RoV F (Pl.int .u8) w0 v1 l_1) (hM : Mem F w0 w0 []) (H : law16_BranchPaths.f k t_0 l_1 a_2 b_3 = some r) :
    Calls Try.prog 5 #[(.agg #[v0_0, (.int .i64 t_0.Best)]), v1, (.int .i64 a_2), (.int .i64 b_3)] w0 fun e w' => ∃ v, e = .returned v ∧ v = (.bool r) ∧ Mem F w0 w' [] := by
  unfold law16_BranchPaths.f at H
  obtain ⟨A0_0, c0_0, rfl, hr0_0, hc0_0⟩ := h0_0
  obtain ⟨A1, c1, rfl, hr1, hc1⟩ := h1
  refine enterL (n := 54) [(.agg #[(.slice A0_0 t_0.Nodes.length c0_0), (.int .i64 t_0.Best)]), (.slice A1 l_1.length c1), (.int .i64 a_2), (.int .i64 b_3)] Try.func5 rfl rfl rfl ?_
  intro a hA
  refine wp_seq ?_
  refine wp_region_lit ?_
  refine L1 (e_box (cs := [(.slice A0_0 t_0.Nodes.length c0_0), (.int .i64 t_0.Best)]) hM hA rfl rfl (by decide) ?_)
  clear hM hA; intro w192 g191 hM hE a hA
  refine L1 (stv hA (by decide) (run_assign (hA.ev rfl)) ?_)
  clear hA; intro a hA
  refine LQ ?_
  refine TN ?_
  refine wp_seq ?_
  refine wp_seq ?_
  refine wp_region_lit ?_
  obtain ⟨r194, H195, H⟩ := Option.bind_eq_some_iff.1 H
  refine L1 (st_call Try.call8 hA [] rfl (by decide) (law16_sane.calls _ _ _ _ (hM.front (Ms := [])) H195) ?_)
  clear hA; rintro _ w196 ⟨rfl, hMc⟩ a hA
  have hE := hMc.below; have hM := hM.call (Ms := []) hMc
  clear hMc; simp only [List.cons_append, List.nil_append] at hM
  refine L1 (stv hA (by decide) (run_not (hA.ev rfl)) ?_)
  clear hA; intro a hA
  refine LQ ?_
  refine TN ?_
  refine tcond (b := (!r194)) hA rfl (fun hb197 => ?_) (fun hb197 => ?_)
  · replace H := ite_t hb197 H
    refine wp_seq ?_
    refine wp_region_lit ?_
    refine L1 (stv hA (by decide) (run_assign (hA.ev rfl)) ?_)
    clear hA; intro a hA
    refine LQ ?_
    refine TN ?_
    refine wp_ret ?_
    obtain rfl := Option.some.inj H
    refine TR ?_
    exact ret_post1 (fn := Try.f5) hA rfl rfl ⟨_, rfl, rfl, (hM.sel [] rfl (by decide))⟩
  · replace H := ite_f hb197 H
    refine wp_skip ?_
    refine TN ?_
    refine wp_seq ?_
    refine wp_seq ?_
    refine wp_region_lit ?_
    refine L1 (stv hA (by decide) (run_ld (hA.ev rfl) (run_loadW Try.isAgg24 Try.sizeOf24 (by simp [Pl.len]; try rfl) (hM.box .z))) ?_)
    clear hA; intro a hA
    obtain ⟨r198, H199, H⟩ := Option.bind_eq_some_iff.1 H
    refine L1 (st_call Try.call9 hA [(.agg #[(.slice A0_0 t_0.Nodes.length c0_0), (.int .i64 t_0.Best)]), (.int .i64 30)] rfl (by decide) (keep_Tree.calls _ _ _ _ _ _ _ ((RoV.mk (hM.roC (Ms := []) hr0_0) (Eq.refl t_0.Nodes.length) hc0_0)) (hM.front (Ms := [])) H199) ?_)
    clear hA; rintro _ w200 ⟨rfl, hMc⟩ a hA
    have hE := hMc.below; have hM := hM.call (Ms := []) hMc
    clear hMc; simp only [List.cons_append, List.nil_append] at hM
    refine L1 (stv hA (by decide) (run_not (hA.ev rfl)) ?_)
    clear hA; intro a hA
    refine LQ ?_
    refine TN ?_
    refine tcond (b := (!r198)) hA rfl (fun hb201 => ?_) (fun hb201 => ?_)
    · replace H := ite_t hb201 H
      refine wp_seq ?_
      refine wp_region_lit ?_
      refine L1 (stv hA (by decide) (run_assign (hA.ev rfl)) ?_)
      clear hA; intro a hA
      refine LQ ?_
      refine TN ?_
      refine wp_ret ?_
      obtain rfl := Option.some.inj H
      refine TR ?_
      exact ret_post1 (fn := Try.f5) hA rfl rfl ⟨_, rfl, rfl, (hM.sel [] rfl (by decide))⟩
    · replace H := ite_f hb201 H
      refine wp_skip ?_
      refine TN ?_
      refine wp_seq ?_
      refine wp_seq ?_
      refine draw (fun w' => Below w200.heap.size w200 w') [] rfl ?_
      intro w202 hw hS; replace hM := hM.ext hS; clear hw
      refine rebase hS ?_; clear hS; intro hS
      refine d_take (i := 0) (L' := #[true, false, false, false, false, false]) rfl (by kernel_rfl) rfl (fun _ _ _ h => h) hA (by decide) rfl hS (fun a w' hA hS' => run_ld (hA.ev rfl) (run_loadW Try.isAgg24 Try.sizeOf24 (by simp [Pl.len]; try rfl) ((hM.box .z).extB hS'))) ?_; clear hA; intro a hA
      refine d_takef (i := 1) (L' := #[true, true, false, false, false, false]) rfl (by kernel_rfl) rfl (fun _ _ _ h => h) hA (by decide) (fun _ => hS) (fun a w' hA => run_move (hA.ev rfl)) ?_; clear hA; intro a hA
      refine d_takef (i := 5) (L' := #[true, true, false, false, false, true]) rfl (by kernel_rfl) rfl (fun _ _ _ h => h) hA (by decide) (fun _ => hS) (fun a w' hA => run_move (hA.ev rfl)) ?_; clear hA; intro a hA
      obtain ⟨r204, H205, H⟩ := Option.bind_eq_some_iff.1 H
      refine d_one (i := 2) (L' := #[true, true, true, false, false, true]) (by kernel_rfl) rfl rfl (st_call Try.call10 hA [(.slice A1 l_1.length c1)] rfl (by decide) (law16_line.calls _ _ _ _ _ _ ((RoV.mk (hM.roC (Ms := []) hr1) (Eq.refl l_1.length) hc1)) (hM.front (Ms := [])) H205) ?_)
      clear hA; rintro _ w206 ⟨v207, rfl, hMc⟩ a hA
      have hE := hMc.below; have hM := hM.call (Ms := []) hMc
      clear hMc; simp only [List.cons_append, List.nil_append] at hM
      obtain ⟨A208, c209, rfl⟩ := RowOk.form (hM.row (p := pNode) .z)
      replace hS := hS.trans (hE.mono hS.size)
      refine ⟨fun _ => hS, ?_⟩
      refine d_one (i := 3) (L' := #[true, true, true, true, false, true]) (by kernel_rfl) rfl rfl (e_litW (cs := (List.flatten [[(.slice A0_0 t_0.Nodes.length c0_0), (.int .i64 t_0.Best)], [(.slice A208 r204.Nodes.length c209), (.int .i64 r204.Best)]])) [(.agg #[(.slice A0_0 t_0.Nodes.length c0_0), (.int .i64 t_0.Best)]), (.agg #[(.slice A208 r204.Nodes.length c209), (.int .i64 r204.Best)])] Try.underlying29 zero24 Try.sizeOf24 hM rfl rfl rfl hA rfl (by simp [Value.cells, Pl.len]) (by simp [Value.cells]) (by decide) ?_)
      clear hM hA; intro w211 g210 hM hE a hA
      replace hS := hS.trans (hE.mono hS.size)
      refine ⟨fun _ => hS, ?_⟩
      refine d_takef (i := 4) (L' := #[true, true, true, true, true, true]) rfl (by kernel_rfl) rfl (fun _ _ _ h => h) hA (by decide) (fun _ => hS) (fun a w' hA => run_len_slice Try.underlying29 (hA.ev rfl)) ?_; clear hA; intro a hA
      refine d_done (by kernel_rfl) ?_
      refine TN ?_
      refine wp_block ?_; refine wp_loop_rounds 40 ?_; refine rounds_s ?_
      refine wp_seq ?_
      refine wp_region_lit ?_
      refine L1 (stv hA (by decide) (run_bin (hA.ev rfl) (hA.ev rfl) (bin_lss _ _ _ _)) ?_)
      clear hA; intro a hA
      refine LQ ?_
      refine TN ?_
      refine wp_seq ?_
      refine tcond_t hA rfl ?_
      refine wp_skip ?_
      refine TN ?_
      refine wp_seq ?_
      refine wp_block ?_
      refine wp_seq ?_
      refine wp_region_lit ?_
      refine L1 (stv hA (by decide) (run_idx Try.underlying29 Try.sizeOf24 (hA.ev rfl) rfl (hA.ev rfl) (by decide) (by decide)) ?_)
      clear hA; intro a hA
      refine L1 (stv hA (by decide) (run_ld (hA.ev rfl) (run_loadW Try.isAgg24 Try.sizeOf24 (by simp [Pl.len]; try rfl) (At.seg (segs := [[(.slice A0_0 t_0.Nodes.length c0_0), (.int .i64 t_0.Best)], [(.slice A208 r204.Nodes.length c209), (.int .i64 r204.Best)]]) (hM.box .z) 0 rfl rfl))) ?_)
      clear hA; intro a hA
      refine L1 (e_alloc (cs := [(.slice none 0 0), (.int .i64 0)]) hM zero24 rfl hA (by decide) ?_)
      clear hM hA; intro w214 g213 hM hE a hA
      refine L1 (e_store (g := g213) (off := 0) (cur := [(.slice none 0 0), (.int .i64 0)]) (cs' := [(.slice A0_0 t_0.Nodes.length c0_0), (.int .i64 t_0.Best)]) hM .z Try.sizeOf24 hA rfl (by simp [add_mk]) rfl (by first | rfl | simp [Value.cells, Pl.len]) (by simp [Value.cells, Value.oneCell']) (by first | exact Nat.le_of_ble_eq_true rfl | (simp [Pl.len]; done)) (spl_all (by first | rfl | simp [Value.cells, Pl.len])) ?_)
      clear hM hA; intro w216 hM hE a hA
      refine LQ ?_
      refine TN ?_
      refine wp_seq ?_
      refine wp_region_lit ?_
      refine L1 (stv hA (by decide) (run_ld (hA.ev rfl) (run_loadW Try.isAgg24 Try.sizeOf24 (by simp [Pl.len]; try rfl) (hM.box .z))) ?_)
      clear hA; intro a hA
      refine L1 (stv hA (by decide) (run_move (hA.ev rfl)) ?_)
      clear hA; intro a hA
      refine L1 (stv hA (by decide) (run_move (hA.ev rfl)) ?_)
      clear hA; intro a hA
      obtain ⟨r217, H218, H⟩ := Option.bind_eq_some_iff.1 H
      refine L1 (st_call Try.call19 hA [(.agg #[(.slice A0_0 t_0.Nodes.length c0_0), (.int .i64 t_0.Best)]), (.int .i64 a_2), (.int .i64 b_3)] rfl (by decide) (branch_Path.calls _ _ _ _ _ _ _ _ ((RoV.mk (hM.roC (Ms := []) hr0_0) (Eq.refl t_0.Nodes.length) hc0_0)) (hM.front (Ms := [])) H218) ?_)
      clear hA; rintro _ w219 ⟨v220, v221, rfl, hMc⟩ a hA
      have hE := hMc.below; have hM := hM.call (Ms := []) hMc
      clear hMc; simp only [List.cons_append, List.nil_append] at hM
      obtain ⟨A223, c224, rfl⟩ := RowOk.form (hM.row (p := (Pl.int .i64)) .z)
      obtain ⟨A226, c227, rfl⟩ := RowOk.form (hM.row (p := (Pl.int .i64)) (.s .z))
      refine L1 (stv hA (by decide) (run_move (hA.ev rfl)) ?_)
      clear hA; intro a hA
      refine L1 (stv hA (by decide) (run_ext (hA.ev rfl) rfl) ?_)
      clear hA; intro a hA
      refine L1 (stv hA (by decide) (run_ext (hA.ev rfl) rfl) ?_)
      clear hA; intro a hA
      refine L1 (stv hA (by decide) (run_assign (hA.ev rfl)) ?_)
      clear hA; intro a hA
      refine L1 (stv hA (by decide) (run_assign (hA.ev rfl)) ?_)
      clear hA; intro a hA
      refine LQ ?_
      refine TN ?_
      refine wp_seq ?_
      refine wp_region_lit ?_
      refine L1 (stv hA (by decide) (run_ld (hA.ev rfl) (run_loadW Try.isAgg24 Try.sizeOf24 (by simp [Pl.len]; try rfl) (hM.box (.s (.s .z))))) ?_)
      clear hA; intro a hA
      refine L1 (stv hA (by decide) (run_move (hA.ev rfl)) ?_)
      clear hA; intro a hA
      refine L1 (stv hA (by decide) (run_move (hA.ev rfl)) ?_)
      clear hA; intro a hA
      obtain ⟨r228, H229, H⟩ := Option.bind_eq_some_iff.1 H
      refine L1 (st_call Try.call20 hA [(.agg #[(.slice A0_0 t_0.Nodes.length c0_0), (.int .i64 t_0.Best)]), (.int .i64 a_2), (.int .i64 b_3)] rfl (by decide) (ref16_Path.calls _ _ _ _ _ _ _ _ ((RoV.mk (hM.roC (Ms := []) hr0_0) (Eq.refl t_0.Nodes.length) hc0_0)) (hM.front (Ms := [])) H229) ?_)
      clear hA; rintro _ w230 ⟨v231, v232, rfl, hMc⟩ a hA
      have hE := hMc.below; have hM := hM.call (Ms := []) hMc
      clear hMc; simp only [List.cons_append, List.nil_append] at hM
      obtain ⟨A234, c235, rfl⟩ := RowOk.form (hM.row (p := (Pl.int .i64)) .z)
      obtain ⟨A237, c238, rfl⟩ := RowOk.form (hM.row (p := (Pl.int .i64)) (.s .z))
      refine L1 (stv hA (by decide) (run_move (hA.ev rfl)) ?_)
      clear hA; intro a hA
      refine L1 (stv hA (by decide) (run_ext (hA.ev rfl) rfl) ?_)
      clear hA; intro a hA
      refine L1 (stv hA (by decide) (run_ext (hA.ev rfl) rfl) ?_)
      clear hA; intro a hA
      refine L1 (stv hA (by decide) (run_assign (hA.ev rfl)) ?_)
      clear hA; intro a hA
      refine L1 (stv hA (by decide) (run_assign (hA.ev rfl)) ?_)
      clear hA; intro a hA
      refine LQ ?_
      refine TN ?_
      refine wp_seq ?_
      obtain ⟨o254, H253, H⟩ := Option.bind_eq_some_iff.1 H
      refine cutC (fun a w => ∃ (t252 : Bool), t252 = o254 ∧ Mem F w0 w [.box g210 24 (List.flatten [[(.slice A0_0 t_0.Nodes.length c0_0), (.int .i64 t_0.Best)], [(.slice A208 r204.Nodes.length c209), (.int .i64 r204.Best)]]), .row 46 pNode.sz (.slice A208 r204.Nodes.length c209) (pNode.flat r204.Nodes)] ∧ Has 54 [(2, (.int .i64 a_2)), (3, (.int .i64 b_3)), (23, (.slice (some ⟨g210, 0, none⟩) 2 2)), (24, (.int .i64 2)), (25, (.int .i64 0)), (52, (.bool t252))] a) ?_ ?_
      · refine wp_region_lit ?_
        refine L1 (stv hA (by decide) (run_move (hA.ev rfl)) ?_)
        clear hA; intro a hA
        refine L1 (stv hA (by decide) (run_move (hA.ev rfl)) ?_)
        clear hA; intro a hA
        obtain ⟨r255, H256, H253⟩ := Option.bind_eq_some_iff.1 H253
        refine L1 (st_call Try.call11 hA [(.slice A223 r217.1.length c224), (.slice A234 r228.1.length c235)] rfl (by decide) (ref16_SameInts.calls _ _ _ _ _ _ _ _ ((RoV.mk (hM.rowC (p := (Pl.int .i64)) (Ms := []) (.s (.s .z))) (RowOk.len (hM.row (p := (Pl.int .i64)) (.s (.s .z)))) (RowOk.cap (hM.row (p := (Pl.int .i64)) (.s (.s .z)))))) ((RoV.mk (hM.rowC (p := (Pl.int .i64)) (Ms := []) .z) (RowOk.len (hM.row (p := (Pl.int .i64)) .z)) (RowOk.cap (hM.row (p := (Pl.int .i64)) .z)))) (hM.front (Ms := [])) H256) ?_)
        clear hA; rintro _ w257 ⟨rfl, hMc⟩ a hA
        have hE := hMc.below; have hM := hM.call (Ms := []) hMc
        clear hMc; simp only [List.cons_append, List.nil_append] at hM
        refine L1 (stv hA (by decide) (run_not (hA.ev rfl)) ?_)
        clear hA; intro a hA
        refine L1 (stv hA (by decide) (run_move (hA.ev rfl)) ?_)
        clear hA; intro a hA
        refine bsplit (b := (!r255)) (fun hb258 => ?_) (fun hb258 => ?_)
        · replace H253 := ite_t hb258 H253
          have hA := hA.re (t := 47) rfl (congrArg Value.bool hb258)
          refine L1 (gate_off rfl (by decide) rfl hA (by decide) rfl rfl ?_); clear hA; intro a hA
          refine L1 (gate_off rfl (by decide) rfl hA (by decide) rfl rfl ?_); clear hA; intro a hA
          refine L1 (gate_off rfl (by decide) rfl hA (by decide) rfl rfl ?_); clear hA; intro a hA
          refine L1 (gate_off rfl (by decide) rfl hA (by decide) rfl rfl ?_); clear hA; intro a hA
          refine L1 (stv hA (by decide) (run_pick (hA.ev rfl) (fun _ => hA.ev rfl) (fun h => Bool.noConfusion h)) ?_)
          clear hA; intro a hA
          refine LQ ?_
          exact ⟨true, Option.some.inj H253, (hM.sel [5, 6] rfl (by decide)), ((((((hA.nil.cons (hA.get 52 _ rfl)).cons (hA.get 25 _ rfl)).cons (hA.get 24 _ rfl)).cons (hA.get 23 _ rfl)).cons (hA.get 3 _ rfl)).cons (hA.get 2 _ rfl))⟩
        · replace H253 := ite_f hb258 H253
          have hA := hA.re (t := 47) rfl (congrArg Value.bool hb258)
          refine L1 (gate_on rfl rfl hA (by decide) rfl (stv hA (by decide) (run_move (hA.ev rfl)) ?_))
          clear hA; intro a hA
          refine L1 (gate_on rfl rfl hA (by decide) rfl (stv hA (by decide) (run_move (hA.ev rfl)) ?_))
          clear hA; intro a hA
          obtain ⟨r259, H260, H253⟩ := Option.bind_eq_some_iff.1 H253
          refine L1 (gate_on rfl rfl hA (by decide) rfl (st_call Try.call11 hA [(.slice A226 r217.2.length c227), (.slice A237 r228.2.length c238)] rfl (by decide) (ref16_SameInts.calls _ _ _ _ _ _ _ _ ((RoV.mk (hM.rowC (p := (Pl.int .i64)) (Ms := []) (.s (.s (.s .z)))) (RowOk.len (hM.row (p := (Pl.int .i64)) (.s (.s (.s .z))))) (RowOk.cap (hM.row (p := (Pl.int .i64)) (.s (.s (.s .z))))))) ((RoV.mk (hM.rowC (p := (Pl.int .i64)) (Ms := []) (.s .z)) (RowOk.len (hM.row (p := (Pl.int .i64)) (.s .z))) (RowOk.cap (hM.row (p := (Pl.int .i64)) (.s .z))))) (hM.front (Ms := [])) H260) ?_))
          clear hA; rintro _ w261 ⟨rfl, hMc⟩ a hA
          have hE := hMc.below; have hM := hM.call (Ms := []) hMc
          clear hMc; simp only [List.cons_append, List.nil_append] at hM
          refine L1 (gate_on rfl rfl hA (by decide) rfl (stv hA (by decide) (run_not (hA.ev rfl)) ?_))
          clear hA; intro a hA
          refine L1 (stv hA (by decide) (run_pick (hA.ev rfl) (fun h => Bool.noConfusion h) (fun _ => hA.ev rfl)) ?_)
          clear hA; intro a hA
          refine LQ ?_
          exact ⟨(!r259), Option.some.inj H253, (hM.sel [5, 6] rfl (by decide)), ((((((hA.nil.cons (hA.get 52 _ rfl)).cons (hA.get 25 _ rfl)).cons (hA.get 24 _ rfl)).cons (hA.get 23 _ rfl)).cons (hA.get 3 _ rfl)).cons (hA.get 2 _ rfl))⟩
      clear hM hA
      rintro a w262 ⟨t252, rfl, hM, hA⟩
      try dsimp only at H
      refine TN ?_
      refine tcond (b := t252) hA rfl (fun hb263 => ?_) (fun hb263 => ?_)
      · replace H := ite_t hb263 H
        refine wp_seq ?_
        refine wp_region_lit ?_
        refine L1 (stv hA (by decide) (run_assign (hA.ev rfl)) ?_)
        clear hA; intro a hA
        refine LQ ?_
        refine TN ?_
        refine wp_ret ?_
        obtain rfl := Option.some.inj H
        refine BR ?_
        refine TR ?_
        refine TR ?_
        refine BR ?_
        refine TR ?_
        exact ret_post1 (fn := Try.f5) hA rfl rfl ⟨_, rfl, rfl, (hM.sel [] rfl (by decide))⟩
      · replace H := ite_f hb263 H
        refine wp_skip ?_
        refine BN ?_
        refine TN ?_
        refine wp_region_lit ?_
        refine L1 (stv hA (by decide) (run_bin (hA.ev rfl) (hA.ev rfl) (bin_add _ _ _ _)) ?_)
        clear hA; intro a hA
        refine L1 (stv hA (by decide) (run_move (hA.ev rfl)) ?_)
        clear hA; intro a hA
        refine LQ ?_
        refine TN ?_; refine rounds_s ?_
        refine wp_seq ?_
        refine wp_region_lit ?_
        refine L1 (stv hA (by decide) (run_bin (hA.ev rfl) (hA.ev rfl) (bin_lss _ _ _ _)) ?_)
        clear hA; intro a hA
        refine LQ ?_
        refine TN ?_
        refine wp_seq ?_
        refine tcond_t hA rfl ?_
        refine wp_skip ?_
        refine TN ?_
        refine wp_seq ?_
        refine wp_block ?_
        refine wp_seq ?_
        refine wp_region_lit ?_
        refine L1 (stv hA (by decide) (run_idx Try.underlying29 Try.sizeOf24 (hA.ev rfl) rfl (hA.ev rfl) (by decide) (by decide)) ?_)
        clear hA; intro a hA
        refine L1 (stv hA (by decide) (run_ld (hA.ev rfl) (run_loadW Try.isAgg24 Try.sizeOf24 (by simp [Pl.len]; try rfl) (At.seg (segs := [[(.slice A0_0 t_0.Nodes.length c0_0), (.int .i64 t_0.Best)], [(.slice A208 r204.Nodes.length c209), (.int .i64 r204.Best)]]) (hM.box .z) 1 rfl rfl))) ?_)
        clear hA; intro a hA
        refine L1 (e_alloc (cs := [(.slice none 0 0), (.int .i64 0)]) hM zero24 rfl hA (by decide) ?_)
        clear hM hA; intro w266 g265 hM hE a hA
        refine L1 (e_store (g := g265) (off := 0) (cur := [(.slice none 0 0), (.int .i64 0)]) (cs' := [(.slice A208 r204.Nodes.length c209), (.int .i64 r204.Best)]) hM .z Try.sizeOf24 hA rfl (by simp [add_mk]) rfl (by first | rfl | simp [Value.cells, Pl.len]) (by simp [Value.cells, Value.oneCell']) (by first | exact Nat.le_of_ble_eq_true rfl | (simp [Pl.len]; done)) (spl_all (by first | rfl | simp [Value.cells, Pl.len])) ?_)
        clear hM hA; intro w268 hM hE a hA
        refine LQ ?_
        refine TN ?_
        refine wp_seq ?_
        refine wp_region_lit ?_
        refine L1 (stv hA (by decide) (run_ld (hA.ev rfl) (run_loadW Try.isAgg24 Try.sizeOf24 (by simp [Pl.len]; try rfl) (hM.box .z))) ?_)
        clear hA; intro a hA
        refine L1 (stv hA (by decide) (run_move (hA.ev rfl)) ?_)
        clear hA; intro a hA
        refine L1 (stv hA (by decide) (run_move (hA.ev rfl)) ?_)
        clear hA; intro a hA
        obtain ⟨r269, H270, H⟩ := Option.bind_eq_some_iff.1 H
        refine L1 (st_call Try.call19 hA [(.agg #[(.slice A208 r204.Nodes.length c209), (.int .i64 r204.Best)]), (.int .i64 a_2), (.int .i64 b_3)] rfl (by decide) (branch_Path.calls _ _ _ _ _ _ _ _ ((RoV.mk (hM.rowC (p := pNode) (Ms := []) (.s (.s .z))) (RowOk.len (hM.row (p := pNode) (.s (.s .z)))) (RowOk.cap (hM.row (p := pNode) (.s (.s .z)))))) (hM.front (Ms := [])) H270) ?_)
        clear hA; rintro _ w271 ⟨v272, v273, rfl, hMc⟩ a hA
        have hE := hMc.below; have hM := hM.call (Ms := []) hMc
        clear hMc; simp only [List.cons_append, List.nil_append] at hM
        obtain ⟨A275, c276, rfl⟩ := RowOk.form (hM.row (p := (Pl.int .i64)) .z)
        obtain ⟨A278, c279, rfl⟩ := RowOk.form (hM.row (p := (Pl.int .i64)) (.s .z))
        refine L1 (stv hA (by decide) (run_move (hA.ev rfl)) ?_)
        clear hA; intro a hA
        refine L1 (stv hA (by decide) (run_ext (hA.ev rfl) rfl) ?_)
        clear hA; intro a hA
        refine L1 (stv hA (by decide) (run_ext (hA.ev rfl) rfl) ?_)
        clear hA; intro a hA
        refine L1 (stv hA (by decide) (run_assign (hA.ev rfl)) ?_)
        clear hA; intro a hA
        refine L1 (stv hA (by decide) (run_assign (hA.ev rfl)) ?_)
        clear hA; intro a hA
        refine LQ ?_
        refine TN ?_
        refine wp_seq ?_
        refine wp_region_lit ?_
        refine L1 (stv hA (by decide) (run_ld (hA.ev rfl) (run_loadW Try.isAgg24 Try.sizeOf24 (by simp [Pl.len]; try rfl) (hM.box (.s (.s .z))))) ?_)
        clear hA; intro a hA
        refine L1 (stv hA (by decide) (run_move (hA.ev rfl)) ?_)
        clear hA; intro a hA
        refine L1 (stv hA (by decide) (run_move (hA.ev rfl)) ?_)
        clear hA; intro a hA
        obtain ⟨r280, H281, H⟩ := Option.bind_eq_some_iff.1 H
        refine L1 (st_call Try.call20 hA [(.agg #[(.slice A208 r204.Nodes.length c209), (.int .i64 r204.Best)]), (.int .i64 a_2), (.int .i64 b_3)] rfl (by decide) (ref16_Path.calls _ _ _ _ _ _ _ _ ((RoV.mk (hM.rowC (p := pNode) (Ms := []) (.s (.s (.s (.s .z))))) (RowOk.len (hM.row (p := pNode) (.s (.s (.s (.s .z)))))) (RowOk.cap (hM.row (p := pNode) (.s (.s (.s (.s .z)))))))) (hM.front (Ms := [])) H281) ?_)
        clear hA; rintro _ w282 ⟨v283, v284, rfl, hMc⟩ a hA
        have hE := hMc.below; have hM := hM.call (Ms := []) hMc
        clear hMc; simp only [List.cons_append, List.nil_append] at hM
        obtain ⟨A286, c287, rfl⟩ := RowOk.form (hM.row (p := (Pl.int .i64)) .z)
        obtain ⟨A289, c290, rfl⟩ := RowOk.form (hM.row (p := (Pl.int .i64)) (.s .z))
        refine L1 (stv hA (by decide) (run_move (hA.ev rfl)) ?_)
        clear hA; intro a hA
        refine L1 (stv hA (by decide) (run_ext (hA.ev rfl) rfl) ?_)
        clear hA; intro a hA
        refine L1 (stv hA (by decide) (run_ext (hA.ev rfl) rfl) ?_)
        clear hA; intro a hA
        refine L1 (stv hA (by decide) (run_assign (hA.ev rfl)) ?_)
        clear hA; intro a hA
        refine L1 (stv hA (by decide) (run_assign (hA.ev rfl)) ?_)
        clear hA; intro a hA
        refine LQ ?_
        refine TN ?_
        refine wp_seq ?_
        obtain ⟨o306, H305, H⟩ := Option.bind_eq_some_iff.1 H
        refine cutC (fun a w => ∃ (t304 : Bool), t304 = o306 ∧ Mem F w0 w [.box g210 24 (List.flatten [[(.slice A0_0 t_0.Nodes.length c0_0), (.int .i64 t_0.Best)], [(.slice A208 r204.Nodes.length c209), (.int .i64 r204.Best)]]), .row 46 pNode.sz (.slice A208 r204.Nodes.length c209) (pNode.flat r204.Nodes)] ∧ Has 54 [(2, (.int .i64 a_2)), (3, (.int .i64 b_3)), (23, (.slice (some ⟨g210, 0, none⟩) 2 2)), (24, (.int .i64 2)), (25, (.int .i64 1)), (52, (.bool t304))] a) ?_ ?_
        · refine wp_region_lit ?_
          refine L1 (stv hA (by decide) (run_move (hA.ev rfl)) ?_)
          clear hA; intro a hA
          refine L1 (stv hA (by decide) (run_move (hA.ev rfl)) ?_)
          clear hA; intro a hA
          obtain ⟨r307, H308, H305⟩ := Option.bind_eq_some_iff.1 H305
          refine L1 (st_call Try.call11 hA [(.slice A275 r269.1.length c276), (.slice A286 r280.1.length c287)] rfl (by decide) (ref16_SameInts.calls _ _ _ _ _ _ _ _ ((RoV.mk (hM.rowC (p := (Pl.int .i64)) (Ms := []) (.s (.s .z))) (RowOk.len (hM.row (p := (Pl.int .i64)) (.s (.s .z)))) (RowOk.cap (hM.row (p := (Pl.int .i64)) (.s (.s .z)))))) ((RoV.mk (hM.rowC (p := (Pl.int .i64)) (Ms := []) .z) (RowOk.len (hM.row (p := (Pl.int .i64)) .z)) (RowOk.cap (hM.row (p := (Pl.int .i64)) .z)))) (hM.front (Ms := [])) H308) ?_)
          clear hA; rintro _ w309 ⟨rfl, hMc⟩ a hA
          have hE := hMc.below; have hM := hM.call (Ms := []) hMc
          clear hMc; simp only [List.cons_append, List.nil_append] at hM
          refine L1 (stv hA (by decide) (run_not (hA.ev rfl)) ?_)
          clear hA; intro a hA
          refine L1 (stv hA (by decide) (run_move (hA.ev rfl)) ?_)
          clear hA; intro a hA
          refine bsplit (b := (!r307)) (fun hb310 => ?_) (fun hb310 => ?_)
          · replace H305 := ite_t hb310 H305
            have hA := hA.re (t := 47) rfl (congrArg Value.bool hb310)
            refine L1 (gate_off rfl (by decide) rfl hA (by decide) rfl rfl ?_); clear hA; intro a hA
            refine L1 (gate_off rfl (by decide) rfl hA (by decide) rfl rfl ?_); clear hA; intro a hA
            refine L1 (gate_off rfl (by decide) rfl hA (by decide) rfl rfl ?_); clear hA; intro a hA
            refine L1 (gate_off rfl (by decide) rfl hA (by decide) rfl rfl ?_); clear hA; intro a hA
            refine L1 (stv hA (by decide) (run_pick (hA.ev rfl) (fun _ => hA.ev rfl) (fun h => Bool.noConfusion h)) ?_)
            clear hA; intro a hA
            refine LQ ?_
            exact ⟨true, Option.some.inj H305, (hM.sel [5, 6] rfl (by decide)), ((((((hA.nil.cons (hA.get 52 _ rfl)).cons (hA.get 25 _ rfl)).cons (hA.get 24 _ rfl)).cons (hA.get 23 _ rfl)).cons (hA.get 3 _ rfl)).cons (hA.get 2 _ rfl))⟩
          · replace H305 := ite_f hb310 H305
            have hA := hA.re (t := 47) rfl (congrArg Value.bool hb310)
            refine L1 (gate_on rfl rfl hA (by decide) rfl (stv hA (by decide) (run_move (hA.ev rfl)) ?_))
            clear hA; intro a hA
            refine L1 (gate_on rfl rfl hA (by decide) rfl (stv hA (by decide) (run_move (hA.ev rfl)) ?_))
            clear hA; intro a hA
            obtain ⟨r311, H312, H305⟩ := Option.bind_eq_some_iff.1 H305
            refine L1 (gate_on rfl rfl hA (by decide) rfl (st_call Try.call11 hA [(.slice A278 r269.2.length c279), (.slice A289 r280.2.length c290)] rfl (by decide) (ref16_SameInts.calls _ _ _ _ _ _ _ _ ((RoV.mk (hM.rowC (p := (Pl.int .i64)) (Ms := []) (.s (.s (.s .z)))) (RowOk.len (hM.row (p := (Pl.int .i64)) (.s (.s (.s .z))))) (RowOk.cap (hM.row (p := (Pl.int .i64)) (.s (.s (.s .z))))))) ((RoV.mk (hM.rowC (p := (Pl.int .i64)) (Ms := []) (.s .z)) (RowOk.len (hM.row (p := (Pl.int .i64)) (.s .z))) (RowOk.cap (hM.row (p := (Pl.int .i64)) (.s .z))))) (hM.front (Ms := [])) H312) ?_))
            clear hA; rintro _ w313 ⟨rfl, hMc⟩ a hA
            have hE := hMc.below; have hM := hM.call (Ms := []) hMc
            clear hMc; simp only [List.cons_append, List.nil_append] at hM
            refine L1 (gate_on rfl rfl hA (by decide) rfl (stv hA (by decide) (run_not (hA.ev rfl)) ?_))
            clear hA; intro a hA
            refine L1 (stv hA (by decide) (run_pick (hA.ev rfl) (fun h => Bool.noConfusion h) (fun _ => hA.ev rfl)) ?_)
            clear hA; intro a hA
            refine LQ ?_
            exact ⟨(!r311), Option.some.inj H305, (hM.sel [5, 6] rfl (by decide)), ((((((hA.nil.cons (hA.get 52 _ rfl)).cons (hA.get 25 _ rfl)).cons (hA.get 24 _ rfl)).cons (hA.get 23 _ rfl)).cons (hA.get 3 _ rfl)).cons (hA.get 2 _ rfl))⟩
        clear hM hA
        rintro a w314 ⟨t304, rfl, hM, hA⟩
        try dsimp only at H
        refine TN ?_
        refine tcond (b := t304) hA rfl (fun hb315 => ?_) (fun hb315 => ?_)
        · replace H := ite_t hb315 H
          refine wp_seq ?_
          refine wp_region_lit ?_
          refine L1 (stv hA (by decide) (run_assign (hA.ev rfl)) ?_)
          clear hA; intro a hA
          refine LQ ?_
          refine TN ?_
          refine wp_ret ?_
          obtain rfl := Option.some.inj H
          refine BR ?_
          refine TR ?_
          refine TR ?_
          refine BR ?_
          refine TR ?_
          exact ret_post1 (fn := Try.f5) hA rfl rfl ⟨_, rfl, rfl, (hM.sel [] rfl (by decide))⟩
        · replace H := ite_f hb315 H
          refine wp_skip ?_
          refine BN ?_
          refine TN ?_
          refine wp_region_lit ?_
          refine L1 (stv hA (by decide) (run_bin (hA.ev rfl) (hA.ev rfl) (bin_add _ _ _ _)) ?_)
          clear hA; intro a hA
          refine L1 (stv hA (by decide) (run_move (hA.ev rfl)) ?_)
          clear hA; intro a hA
          refine LQ ?_
          refine TN ?_; refine rounds_s ?_
          refine wp_seq ?_
          refine wp_region_lit ?_
          refine L1 (stv hA (by decide) (run_bin (hA.ev rfl) (hA.ev rfl) (bin_lss _ _ _ _)) ?_)
          clear hA; intro a hA
          refine LQ ?_
          refine TN ?_
          refine wp_seq ?_
          refine tcond_f hA rfl ?_
          refine wp_exit ?_
          refine TX ?_
          refine TX ?_
          refine BX ?_
          refine TN ?_
          refine wp_seq ?_
          refine wp_region_lit ?_
          refine L1 (stv hA (by decide) (run_assign (hA.ev rfl)) ?_)
          clear hA; intro a hA
          refine LQ ?_
          refine TN ?_
          refine wp_ret ?_
          obtain rfl := Option.some.inj H
          exact ret_post1 (fn := Try.f5) hA rfl rfl ⟨_, rfl, rfl, (hM.sel [] rfl (by decide))⟩

end Go.Proofs.Ytjjahfpamjmacaa.G
