/- The functions that a law of this seat reaches: what each comes to, as a plain function, and that its code comes to it. Conditions: the plain function gives a value (enough fuel, no panic). -/
import Derived.Test.YtmopbcfjnnchgaaChecked
import Derived.Test.YtmopbcfjnnchgaaD
set_option linter.unusedVariables false
set_option linter.unusedSimpArgs false
namespace Go.Proofs.Ytmopbcfjnnchgaa.G
open Go Go.RowKit Go.Proofs
theorem zero22 : ∀ w, (zeroValue 22).run Try.prog w = .ok (.slice none 0 0) w := run_zero (by kernel_rfl)
theorem elt22 : Elt Try.prog (Pl.int .u8) 22 5 (.int .u8 (0 : Int)) 1 := ⟨Try.underlying22, by kernel_rfl, by first | rfl | simp [Value.cells, Pl.len], by decide⟩
def address_regroup.l1 (to_2 : Int) : Nat → (List Int) → Int → Int → Option ((List Int) × Int × Int)
  | 0, _, _, _ => none
  | k + 1, xs1047, held1049, bits1051 => (if (decide (bits1051 ≥ to_2)) = true then (if 0 ≤ (IntKind.i64.wrap (bits1051 - to_2)) then (if (xs1047.length + 1) * 1 ≤ 140737488355328 then (if 0 ≤ (IntKind.i64.wrap (bits1051 - to_2)) then (address_regroup.l1 to_2 k (xs1047 ++ [IntKind.u8.wrap (ishr .i64 held1049 (IntKind.i64.wrap (bits1051 - to_2)))]) (iand .i64 held1049 (IntKind.i64.wrap ((ishl .i64 1 (IntKind.i64.wrap (bits1051 - to_2))) - 1))) (IntKind.i64.wrap (bits1051 - to_2))) else none) else none) else none) else (some (xs1047, held1049, bits1051)))
def address_regroup.l0 (b_0 : (List Int)) (from_1 : Int) (to_2 : Int) : Nat → (List Int) → Int → Int → Int → Option ((List Int) × Int × Int)
  | 0, _, _, _, _ => none
  | k + 1, xs944, held946, bits948, t952 => (if (decide (t952 < ((b_0.length : Nat) : Int))) = true then (if 0 ≤ t952 ∧ t952 < ((b_0.length : Nat) : Int) then (if 0 ≤ from_1 then (Option.bind (α := (List Int) × Int × Int) (address_regroup.l1 to_2 k xs944 (ior .i64 (ishl .i64 held946 from_1) (IntKind.i64.wrap (b_0.getD t952.toNat (0 : Int)))) (IntKind.i64.wrap (bits948 + from_1))) (fun st => match st with | (xs1061, held1063, bits1065) => (address_regroup.l0 b_0 from_1 to_2 k xs1061 held1063 bits1065 (IntKind.i64.wrap (t952 + 1))))) else none) else none) else (some (xs944, held946, bits948)))
def address_regroup.f (k : Nat) (b_0 : (List Int)) (from_1 : Int) (to_2 : Int) : Option ((List Int) × Int × Int) := (Option.bind (α := (List Int) × Int × Int) (address_regroup.l0 b_0 from_1 to_2 k ([] : List Int) 0 0 0) (fun st => match st with | (xs958, held960, bits962) => (some (xs958, held960, bits962))))
set_option maxRecDepth 100000 in
theorem address_regroup.calls (k : Nat) (b_0 : (List Int)) (from_1 : Int) (to_2 : Int) (F : List (Option Nat)) (v0 : Value) (r : ((List Int) × Int × Int)) (w0 : World) (h0 : RoV F (Pl.int .u8) w0 v0 b_0) (hM : Mem F w0 w0 []) (H : address_regroup.f k b_0 from_1 to_2 = some r) :
    Calls Try.prog 24 #[v0, (.int .i64 from_1), (.int .i64 to_2)] w0 fun e w' => ∃ v, e = .returned v ∧ ∃ (ur_0 : Value), v = (.tuple #[ur_0, (.int .i64 r.2.1), (.int .i64 r.2.2)]) ∧ Mem F w0 w' [.row 5 (Pl.int .u8).sz ur_0 ((Pl.int .u8).flat r.1)] := by
  unfold address_regroup.f at H
  obtain ⟨A0, c0, rfl, hr0, hc0⟩ := h0
  refine enterL (n := 51) [(.slice A0 b_0.length c0), (.int .i64 from_1), (.int .i64 to_2)] Try.func24 rfl rfl rfl ?_
  intro a hA
  refine wp_seq ?_
  refine wp_region_lit ?_
  refine L1 (stv hA (by decide) (run_assign (hA.ev rfl)) ?_)
  clear hA; intro a hA
  refine L1 (stv hA (by decide) (run_assign (hA.ev rfl)) ?_)
  clear hA; intro a hA
  refine L1 (stv hA (by decide) (run_assign (hA.ev rfl)) ?_)
  clear hA; intro a hA
  refine LQ ?_
  refine TN ?_
  refine wp_seq ?_
  refine wp_region_lit ?_
  refine L1 (stv hA (by decide) (run_assign (hA.ev rfl)) ?_)
  clear hA; intro a hA
  refine LQ ?_
  refine TN ?_
  refine wp_seq ?_
  refine wp_region_lit ?_
  refine L1 (stv hA (by decide) (run_assign (hA.ev rfl)) ?_)
  clear hA; intro a hA
  refine L1 (stv hA (by decide) (run_assign (hA.ev rfl)) ?_)
  clear hA; intro a hA
  refine LQ ?_
  refine TN ?_
  refine wp_seq ?_
  refine wp_seq ?_
  refine wp_region_lit ?_
  refine L1 (stv hA (by decide) (run_move (hA.ev rfl)) ?_)
  clear hA; intro a hA
  refine L1 (stv hA (by decide) (run_len_slice Try.underlying22 (hA.ev rfl)) ?_)
  clear hA; intro a hA
  refine L1 (stv hA (by decide) (run_move (hA.ev rfl)) ?_)
  clear hA; intro a hA
  refine LQ ?_
  refine TN ?_
  obtain ⟨o964, H963, H⟩ := Option.bind_eq_some_iff.1 H
  refine cutC (fun a w => ∃ (xs958 : (List Int)) (held960 : Int) (bits962 : Int) (v955 : Value), (xs958, held960, bits962) = o964 ∧ Mem F w0 w [.row 5 (Pl.int .u8).sz v955 ((Pl.int .u8).flat xs958)] ∧ Has 51 [(9, v955), (10, (.int .i64 held960)), (11, (.int .i64 bits962))] a) ?_ ?_
  · refine wp_block ?_
    have hM := hM.addnil 5 ((Pl.int .u8)).sz
    refine wp_loop_ghost (fun m a w => ∃ (xs944 : (List Int)) (held946 : Int) (bits948 : Int) (t952 : Int) (v941 : Value), address_regroup.l0 b_0 from_1 to_2 m xs944 held946 bits948 t952 = some o964 ∧ Mem F w0 w [.row 5 (Pl.int .u8).sz v941 ((Pl.int .u8).flat xs944)] ∧ Has 51 [(1, (.int .i64 from_1)), (2, (.int .i64 to_2)), (9, v941), (10, (.int .i64 held946)), (11, (.int .i64 bits948)), (14, (.slice A0 b_0.length c0)), (15, (.int .i64 ((b_0.length : Nat) : Int))), (16, (.int .i64 t952))] a) k ⟨([] : List Int), 0, 0, 0, (.slice none 0 0), H963, hM, ((((((((hA.nil.cons (hA.get 16 _ rfl)).cons (hA.get 15 _ rfl)).cons (hA.get 14 _ rfl)).cons (hA.get 11 _ rfl)).cons (hA.get 10 _ rfl)).cons (hA.get 9 _ rfl)).cons (hA.get 2 _ rfl)).cons (hA.get 1 _ rfl))⟩ ?_
    clear hM hA; rintro m966 a w967 ⟨xs944, held946, bits948, t952, v941, H963, hM, hA⟩
    cases m966 with
    | zero => exact absurd H963 (by simp [address_regroup.l0])
    | succ m966 =>
    rw [address_regroup.l0] at H963
    obtain ⟨A942, c943, rfl⟩ := RowOk.form (hM.row (p := (Pl.int .u8)) .z)
    refine wp_seq ?_
    refine wp_region_lit ?_
    refine L1 (stv hA (by decide) (run_bin (hA.ev rfl) (hA.ev rfl) (bin_lss _ _ _ _)) ?_)
    clear hA; intro a hA
    refine LQ ?_
    refine TN ?_
    refine wp_seq ?_
    refine tcond (b := (decide (t952 < ((b_0.length : Nat) : Int)))) hA rfl (fun hb968 => ?_) (fun hb968 => ?_)
    · replace H963 := ite_t hb968 H963
      refine wp_skip ?_
      refine TN ?_
      refine wp_seq ?_
      refine wp_block ?_
      refine wp_seq ?_
      refine wp_region_lit ?_
      obtain ⟨⟨hi969, hj970⟩, H963⟩ := ite_some H963
      obtain ⟨ad971, hq972, hat973⟩ := Row.elem' (p := (Pl.int .u8)) (hM.ro hr0) (Eq.refl b_0.length) (0 : Int) t952 hi969 hj970
      refine L1 (stv hA (by decide) (run_idx Try.underlying22 Try.sizeOf5 (hA.ev rfl) hq972 (hA.ev rfl) hi969 hj970) ?_)
      clear hA; intro a hA
      refine L1 (stv hA (by decide) (run_ld (hA.ev rfl) (run_loadS Try.isAgg5 hat973)) ?_)
      clear hA; intro a hA
      refine L1 (stv hA (by decide) (run_assign (hA.ev rfl)) ?_)
      clear hA; intro a hA
      refine LQ ?_
      refine TN ?_
      refine wp_seq ?_
      refine wp_region_lit ?_
      refine L1 (stv hA (by decide) (run_move (hA.ev rfl)) ?_)
      clear hA; intro a hA
      refine L1 (stv hA (by decide) (run_move (hA.ev rfl)) ?_)
      clear hA; intro a hA
      obtain ⟨hs974, H963⟩ := ite_some H963
      refine L1 (stv hA (by decide) (run_shl (hA.ev rfl) (hA.ev rfl) hs974) ?_)
      clear hA; intro a hA
      refine L1 (stv hA (by decide) (run_move (hA.ev rfl)) ?_)
      clear hA; intro a hA
      refine L1 (stv hA (by decide) (run_conv Try.underlying5 Try.underlying3 (hA.ev rfl)) ?_)
      clear hA; intro a hA
      refine L1 (stv hA (by decide) (run_bin (hA.ev rfl) (hA.ev rfl) (bin_or _ _ _ _)) ?_)
      clear hA; intro a hA
      refine L1 (stv hA (by decide) (run_assign (hA.ev rfl)) ?_)
      clear hA; intro a hA
      refine LQ ?_
      refine TN ?_
      refine wp_seq ?_
      refine wp_region_lit ?_
      refine L1 (stv hA (by decide) (run_move (hA.ev rfl)) ?_)
      clear hA; intro a hA
      refine L1 (stv hA (by decide) (run_move (hA.ev rfl)) ?_)
      clear hA; intro a hA
      refine L1 (stv hA (by decide) (run_bin (hA.ev rfl) (hA.ev rfl) (bin_add _ _ _ _)) ?_)
      clear hA; intro a hA
      refine L1 (stv hA (by decide) (run_assign (hA.ev rfl)) ?_)
      clear hA; intro a hA
      refine LQ ?_
      refine TN ?_
      obtain ⟨o1070, H1069, H963⟩ := Option.bind_eq_some_iff.1 H963
      refine cutC (fun a w => ∃ (xs1061 : (List Int)) (held1063 : Int) (bits1065 : Int) (v1058 : Value), (xs1061, held1063, bits1065) = o1070 ∧ Mem F w0 w [.row 5 (Pl.int .u8).sz v1058 ((Pl.int .u8).flat xs1061)] ∧ Has 51 [(1, (.int .i64 from_1)), (2, (.int .i64 to_2)), (9, v1058), (10, (.int .i64 held1063)), (11, (.int .i64 bits1065)), (14, (.slice A0 b_0.length c0)), (15, (.int .i64 ((b_0.length : Nat) : Int))), (16, (.int .i64 t952))] a) ?_ ?_
      · refine wp_block ?_
        refine wp_loop_ghost (fun m a w => ∃ (xs1047 : (List Int)) (held1049 : Int) (bits1051 : Int) (v1044 : Value), address_regroup.l1 to_2 m xs1047 held1049 bits1051 = some o1070 ∧ Mem F w0 w [.row 5 (Pl.int .u8).sz v1044 ((Pl.int .u8).flat xs1047)] ∧ Has 51 [(1, (.int .i64 from_1)), (2, (.int .i64 to_2)), (9, v1044), (10, (.int .i64 held1049)), (11, (.int .i64 bits1051)), (14, (.slice A0 b_0.length c0)), (15, (.int .i64 ((b_0.length : Nat) : Int))), (16, (.int .i64 t952))] a) m966 ⟨xs944, ior .i64 (ishl .i64 held946 from_1) (IntKind.i64.wrap (b_0.getD t952.toNat (0 : Int))), IntKind.i64.wrap (bits948 + from_1), (.slice A942 xs944.length c943), H1069, hM, ((((((((hA.nil.cons (hA.get 16 _ rfl)).cons (hA.get 15 _ rfl)).cons (hA.get 14 _ rfl)).cons (hA.get 11 _ rfl)).cons (hA.get 10 _ rfl)).cons (hA.get 9 _ rfl)).cons (hA.get 2 _ rfl)).cons (hA.get 1 _ rfl))⟩ ?_
        clear hM hA; rintro m1071 a w1072 ⟨xs1047, held1049, bits1051, v1044, H1069, hM, hA⟩
        cases m1071 with
        | zero => exact absurd H1069 (by simp [address_regroup.l1])
        | succ m1071 =>
        rw [address_regroup.l1] at H1069
        obtain ⟨A1045, c1046, rfl⟩ := RowOk.form (hM.row (p := (Pl.int .u8)) .z)
        refine wp_seq ?_
        refine wp_seq ?_
        refine wp_region_lit ?_
        refine L1 (stv hA (by decide) (run_move (hA.ev rfl)) ?_)
        clear hA; intro a hA
        refine L1 (stv hA (by decide) (run_move (hA.ev rfl)) ?_)
        clear hA; intro a hA
        refine L1 (stv hA (by decide) (run_bin (hA.ev rfl) (hA.ev rfl) (bin_geq _ _ _ _)) ?_)
        clear hA; intro a hA
        refine LQ ?_
        refine TN ?_
        refine tcond (b := (decide (bits1051 ≥ to_2))) hA rfl (fun hb1073 => ?_) (fun hb1073 => ?_)
        · replace H1069 := ite_t hb1073 H1069
          refine wp_skip ?_
          refine TN ?_
          refine wp_block ?_
          refine wp_seq ?_
          refine wp_region_lit ?_
          refine L1 (stv hA (by decide) (run_move (hA.ev rfl)) ?_)
          clear hA; intro a hA
          refine L1 (stv hA (by decide) (run_move (hA.ev rfl)) ?_)
          clear hA; intro a hA
          refine L1 (stv hA (by decide) (run_bin (hA.ev rfl) (hA.ev rfl) (bin_sub _ _ _ _)) ?_)
          clear hA; intro a hA
          refine L1 (stv hA (by decide) (run_assign (hA.ev rfl)) ?_)
          clear hA; intro a hA
          refine LQ ?_
          refine TN ?_
          refine wp_seq ?_
          refine wp_region_lit ?_
          refine L1 (stv hA (by decide) (run_move (hA.ev rfl)) ?_)
          clear hA; intro a hA
          refine L1 (stv hA (by decide) (run_move (hA.ev rfl)) ?_)
          clear hA; intro a hA
          refine L1 (stv hA (by decide) (run_move (hA.ev rfl)) ?_)
          clear hA; intro a hA
          obtain ⟨hs1074, H1069⟩ := ite_some H1069
          refine L1 (stv hA (by decide) (run_shr (hA.ev rfl) (hA.ev rfl) hs1074) ?_)
          clear hA; intro a hA
          refine L1 (stv hA (by decide) (run_conv Try.underlying3 Try.underlying5 (hA.ev rfl)) ?_)
          clear hA; intro a hA
          refine L1 (e_litN [IntKind.u8.wrap (ishr .i64 held1049 (IntKind.i64.wrap (bits1051 - to_2)))] [(.int .u8 (IntKind.u8.wrap (ishr .i64 held1049 (IntKind.i64.wrap (bits1051 - to_2)))))] elt22 hM rfl (by decide) hA rfl rfl (List.cons_ne_nil _ _) (by decide) ?_)
          clear hM hA; intro w1076 g1075 hM hE a hA
          obtain ⟨hl1080, H1069⟩ := ite_some H1069
          refine L1 (e_append elt22 hM (fun _ => (.s .z)) (Src.row Try.underlying22 (RowOk.row (hM.row (p := (Pl.int .u8)) .z)) (RowOk.len (hM.row (p := (Pl.int .u8)) .z))) hl1080 hA rfl rfl (by decide) ?_)
          clear hM hA; intro w1081 A1078 c1079 hM hE a hA
          refine L1 (stv hA (by decide) (run_assign (hA.ev rfl)) ?_)
          clear hA; intro a hA
          refine LQ ?_
          refine TN ?_
          refine wp_region_lit ?_
          refine L1 (stv hA (by decide) (run_move (hA.ev rfl)) ?_)
          clear hA; intro a hA
          refine L1 (stv hA (by decide) (run_move (hA.ev rfl)) ?_)
          clear hA; intro a hA
          obtain ⟨hs1082, H1069⟩ := ite_some H1069
          refine L1 (stv hA (by decide) (run_shl (hA.ev rfl) (hA.ev rfl) hs1082) ?_)
          clear hA; intro a hA
          refine L1 (stv hA (by decide) (run_bin (hA.ev rfl) (hA.ev rfl) (bin_sub _ _ _ _)) ?_)
          clear hA; intro a hA
          refine L1 (stv hA (by decide) (run_bin (hA.ev rfl) (hA.ev rfl) (bin_and _ _ _ _)) ?_)
          clear hA; intro a hA
          refine L1 (stv hA (by decide) (run_assign (hA.ev rfl)) ?_)
          clear hA; intro a hA
          refine LQ ?_
          refine BN ?_
          exact ⟨_, Nat.lt_succ_self m1071, (xs1047 ++ [IntKind.u8.wrap (ishr .i64 held1049 (IntKind.i64.wrap (bits1051 - to_2)))]), iand .i64 held1049 (IntKind.i64.wrap ((ishl .i64 1 (IntKind.i64.wrap (bits1051 - to_2))) - 1)), IntKind.i64.wrap (bits1051 - to_2), (.slice A1078 (xs1047.length + 1) c1079), H1069, (hM.sel [1] rfl (by decide)), ((((((((hA.nil.cons (hA.get 16 _ rfl)).cons (hA.get 15 _ rfl)).cons (hA.get 14 _ rfl)).cons (hA.get 11 _ rfl)).cons (hA.get 10 _ rfl)).cons (hA.get 9 _ rfl)).cons (hA.get 2 _ rfl)).cons (hA.get 1 _ rfl))⟩
        · replace H1069 := ite_f hb1073 H1069
          refine wp_exit ?_
          refine TX ?_
          refine TX ?_
          refine BX ?_
          exact ⟨xs1047, held1049, bits1051, (.slice A1045 xs1047.length c1046), Option.some.inj H1069, hM, ((((((((hA.nil.cons (hA.get 16 _ rfl)).cons (hA.get 15 _ rfl)).cons (hA.get 14 _ rfl)).cons (hA.get 11 _ rfl)).cons (hA.get 10 _ rfl)).cons (hA.get 9 _ rfl)).cons (hA.get 2 _ rfl)).cons (hA.get 1 _ rfl))⟩
      clear hM hA
      rintro a w1083 ⟨xs1061, held1063, bits1065, v1058, rfl, hM, hA⟩
      try dsimp only at H963
      obtain ⟨A1059, c1060, rfl⟩ := RowOk.form (hM.row (p := (Pl.int .u8)) .z)
      refine BN ?_
      refine TN ?_
      refine wp_region_lit ?_
      refine L1 (stv hA (by decide) (run_bin (hA.ev rfl) (hA.ev rfl) (bin_add _ _ _ _)) ?_)
      clear hA; intro a hA
      refine L1 (stv hA (by decide) (run_move (hA.ev rfl)) ?_)
      clear hA; intro a hA
      refine LQ ?_
      exact ⟨_, Nat.lt_succ_self m966, xs1061, held1063, bits1065, IntKind.i64.wrap (t952 + 1), (.slice A1059 xs1061.length c1060), H963, hM, ((((((((hA.nil.cons (hA.get 16 _ rfl)).cons (hA.get 15 _ rfl)).cons (hA.get 14 _ rfl)).cons (hA.get 11 _ rfl)).cons (hA.get 10 _ rfl)).cons (hA.get 9 _ rfl)).cons (hA.get 2 _ rfl)).cons (hA.get 1 _ rfl))⟩
    · replace H963 := ite_f hb968 H963
      refine wp_exit ?_
      refine TX ?_
      refine TX ?_
      refine BX ?_
      exact ⟨xs944, held946, bits948, (.slice A942 xs944.length c943), Option.some.inj H963, hM, (((hA.nil.cons (hA.get 11 _ rfl)).cons (hA.get 10 _ rfl)).cons (hA.get 9 _ rfl))⟩
  clear hM hA
  rintro a w1084 ⟨xs958, held960, bits962, v955, rfl, hM, hA⟩
  try dsimp only at H
  obtain ⟨A956, c957, rfl⟩ := RowOk.form (hM.row (p := (Pl.int .u8)) .z)
  refine TN ?_
  refine wp_seq ?_
  refine wp_region_lit ?_
  refine L1 (stv hA (by decide) (run_move (hA.ev rfl)) ?_)
  clear hA; intro a hA
  refine L1 (stv hA (by decide) (run_move (hA.ev rfl)) ?_)
  clear hA; intro a hA
  refine L1 (stv hA (by decide) (run_move (hA.ev rfl)) ?_)
  clear hA; intro a hA
  refine L1 (stv hA (by decide) (run_assign (hA.ev rfl)) ?_)
  clear hA; intro a hA
  refine L1 (stv hA (by decide) (run_assign (hA.ev rfl)) ?_)
  clear hA; intro a hA
  refine L1 (stv hA (by decide) (run_assign (hA.ev rfl)) ?_)
  clear hA; intro a hA
  refine LQ ?_
  refine TN ?_
  refine wp_ret ?_
  obtain rfl := Option.some.inj H
  exact ret_post3 (fn := Try.f24) hA rfl rfl rfl rfl ⟨_, rfl, (.slice A956 xs958.length c957), rfl, hM⟩

def address_Back.l0 (d_0 : (List Int)) : Nat → Int → Option (Out ((List Int) × Int) (Unit))
  | 0, _ => none
  | k + 1, t112 => (if (decide (t112 < ((d_0.length : Nat) : Int))) = true then (if 0 ≤ t112 ∧ t112 < ((d_0.length : Nat) : Int) then (if (decide ((d_0.getD t112.toNat (0 : Int)) > 31)) = true then (some (.ret (([] : List Int), 5))) else (address_Back.l0 d_0 k (IntKind.i64.wrap (t112 + 1)))) else none) else (some (.go ())))
def address_Back.f (k : Nat) (d_0 : (List Int)) : Option ((List Int) × Int) := (Option.bind (α := Out ((List Int) × Int) (Unit)) (address_Back.l0 d_0 k 0) (fun o => match o with | .ret r => some r | .go _ => ((address_regroup.f k d_0 5 8).bind fun r127 => (Option.bind (α := Bool) (if (decide (r127.2.2 ≥ 5)) = true then (some true) else (some (r127.2.1 != 0))) (fun t137 => (if t137 = true then (some (([] : List Int), 3)) else (some (r127.1, 0))))))))
set_option maxRecDepth 100000 in
theorem address_Back.calls (k : Nat) (d_0 : (List Int)) (F : List (Option Nat)) (v0 : Value) (r : ((List Int) × Int)) (w0 : World) (h0 : RoV F (Pl.int .u8) w0 v0 d_0) (hM : Mem F w0 w0 []) (H : address_Back.f k d_0 = some r) :
    Calls Try.prog 11 #[v0] w0 fun e w' => ∃ v, e = .returned v ∧ ∃ (ur_0 : Value), v = (.tuple #[ur_0, (.int .i64 r.2)]) ∧ Mem F w0 w' [.row 5 (Pl.int .u8).sz ur_0 ((Pl.int .u8).flat r.1)] := by
  unfold address_Back.f at H
  obtain ⟨A0, c0, rfl, hr0, hc0⟩ := h0
  refine enterL (n := 31) [(.slice A0 d_0.length c0)] Try.func11 rfl rfl rfl ?_
  intro a hA
  refine wp_seq ?_
  refine wp_region_lit ?_
  refine L1 (stv hA (by decide) (run_assign (hA.ev rfl)) ?_)
  clear hA; intro a hA
  refine L1 (stv hA (by decide) (run_assign (hA.ev rfl)) ?_)
  clear hA; intro a hA
  refine LQ ?_
  refine TN ?_
  refine wp_seq ?_
  refine wp_seq ?_
  refine wp_region_lit ?_
  refine L1 (stv hA (by decide) (run_move (hA.ev rfl)) ?_)
  clear hA; intro a hA
  refine L1 (stv hA (by decide) (run_len_slice Try.underlying22 (hA.ev rfl)) ?_)
  clear hA; intro a hA
  refine L1 (stv hA (by decide) (run_move (hA.ev rfl)) ?_)
  clear hA; intro a hA
  refine LQ ?_
  refine TN ?_
  obtain ⟨o115, H114, H⟩ := Option.bind_eq_some_iff.1 H
  refine cutC (fun a w => (.go ()) = o115 ∧ Mem F w0 w [] ∧ Has 31 [(0, (.slice A0 d_0.length c0))] a) ?_ ?_
  · refine wp_block ?_
    refine wp_loop_ghost (fun m a w => ∃ (t112 : Int), address_Back.l0 d_0 m t112 = some o115 ∧ Mem F w0 w [] ∧ Has 31 [(0, (.slice A0 d_0.length c0)), (9, (.slice A0 d_0.length c0)), (10, (.int .i64 ((d_0.length : Nat) : Int))), (11, (.int .i64 t112))] a) k ⟨0, H114, hM, ((((hA.nil.cons (hA.get 11 _ rfl)).cons (hA.get 10 _ rfl)).cons (hA.get 9 _ rfl)).cons (hA.get 0 _ rfl))⟩ ?_
    clear hM hA; rintro m116 a w117 ⟨t112, H114, hM, hA⟩
    cases m116 with
    | zero => exact absurd H114 (by simp [address_Back.l0])
    | succ m116 =>
    rw [address_Back.l0] at H114
    refine wp_seq ?_
    refine wp_region_lit ?_
    refine L1 (stv hA (by decide) (run_bin (hA.ev rfl) (hA.ev rfl) (bin_lss _ _ _ _)) ?_)
    clear hA; intro a hA
    refine LQ ?_
    refine TN ?_
    refine wp_seq ?_
    refine tcond (b := (decide (t112 < ((d_0.length : Nat) : Int)))) hA rfl (fun hb118 => ?_) (fun hb118 => ?_)
    · replace H114 := ite_t hb118 H114
      refine wp_skip ?_
      refine TN ?_
      refine wp_seq ?_
      refine wp_block ?_
      refine wp_seq ?_
      refine wp_region_lit ?_
      obtain ⟨⟨hi119, hj120⟩, H114⟩ := ite_some H114
      obtain ⟨ad121, hq122, hat123⟩ := Row.elem' (p := (Pl.int .u8)) (hM.ro hr0) (Eq.refl d_0.length) (0 : Int) t112 hi119 hj120
      refine L1 (stv hA (by decide) (run_idx Try.underlying22 Try.sizeOf5 (hA.ev rfl) hq122 (hA.ev rfl) hi119 hj120) ?_)
      clear hA; intro a hA
      refine L1 (stv hA (by decide) (run_ld (hA.ev rfl) (run_loadS Try.isAgg5 hat123)) ?_)
      clear hA; intro a hA
      refine L1 (stv hA (by decide) (run_assign (hA.ev rfl)) ?_)
      clear hA; intro a hA
      refine LQ ?_
      refine TN ?_
      refine wp_seq ?_
      refine wp_region_lit ?_
      refine L1 (stv hA (by decide) (run_move (hA.ev rfl)) ?_)
      clear hA; intro a hA
      refine L1 (stv hA (by decide) (run_bin (hA.ev rfl) (hA.ev rfl) (bin_gtr _ _ _ _)) ?_)
      clear hA; intro a hA
      refine LQ ?_
      refine TN ?_
      refine tcond (b := (decide ((d_0.getD t112.toNat (0 : Int)) > 31))) hA rfl (fun hb124 => ?_) (fun hb124 => ?_)
      · replace H114 := ite_t hb124 H114
        refine wp_seq ?_
        refine wp_region_lit ?_
        refine L1 (stv hA (by decide) (run_assign (hA.ev rfl)) ?_)
        clear hA; intro a hA
        refine L1 (stv hA (by decide) (run_assign (hA.ev rfl)) ?_)
        clear hA; intro a hA
        refine LQ ?_
        refine TN ?_
        refine wp_ret ?_
        have hM := hM.addnil 5 ((Pl.int .u8)).sz
        obtain rfl := Option.some.inj H114
        dsimp only at H
        obtain rfl := Option.some.inj H
        refine BR ?_
        refine TR ?_
        refine TR ?_
        refine BR ?_
        refine TR ?_
        refine TR ?_
        exact ret_post2 (fn := Try.f11) hA rfl rfl rfl ⟨_, rfl, (.slice none 0 0), rfl, hM⟩
      · replace H114 := ite_f hb124 H114
        refine wp_skip ?_
        refine BN ?_
        refine TN ?_
        refine wp_region_lit ?_
        refine L1 (stv hA (by decide) (run_bin (hA.ev rfl) (hA.ev rfl) (bin_add _ _ _ _)) ?_)
        clear hA; intro a hA
        refine L1 (stv hA (by decide) (run_move (hA.ev rfl)) ?_)
        clear hA; intro a hA
        refine LQ ?_
        exact ⟨_, Nat.lt_succ_self m116, IntKind.i64.wrap (t112 + 1), H114, hM, ((((hA.nil.cons (hA.get 11 _ rfl)).cons (hA.get 10 _ rfl)).cons (hA.get 9 _ rfl)).cons (hA.get 0 _ rfl))⟩
    · replace H114 := ite_f hb118 H114
      refine wp_exit ?_
      refine TX ?_
      refine TX ?_
      refine BX ?_
      exact ⟨Option.some.inj H114, hM, (hA.nil.cons (hA.get 0 _ rfl))⟩
  clear hM hA
  rintro a w126 ⟨rfl, hM, hA⟩
  try dsimp only at H
  refine TN ?_
  refine wp_seq ?_
  refine wp_region_lit ?_
  refine L1 (stv hA (by decide) (run_move (hA.ev rfl)) ?_)
  clear hA; intro a hA
  obtain ⟨r127, H128, H⟩ := Option.bind_eq_some_iff.1 H
  refine L1 (st_call Try.call24 hA [(.slice A0 d_0.length c0), (.int .i64 5), (.int .i64 8)] rfl (by decide) (address_regroup.calls _ _ _ _ _ _ _ _ ((RoV.mk (hM.roC (Ms := []) hr0) (Eq.refl d_0.length) hc0)) (hM.front (Ms := [])) H128) ?_)
  clear hA; rintro _ w129 ⟨v130, rfl, hMc⟩ a hA
  have hE := hMc.below; have hM := hM.call (Ms := []) hMc
  clear hMc; simp only [List.cons_append, List.nil_append] at hM
  obtain ⟨A132, c133, rfl⟩ := RowOk.form (hM.row (p := (Pl.int .u8)) .z)
  refine L1 (stv hA (by decide) (run_move (hA.ev rfl)) ?_)
  clear hA; intro a hA
  refine L1 (stv hA (by decide) (run_ext (hA.ev rfl) rfl) ?_)
  clear hA; intro a hA
  refine L1 (stv hA (by decide) (run_ext (hA.ev rfl) rfl) ?_)
  clear hA; intro a hA
  refine L1 (stv hA (by decide) (run_ext (hA.ev rfl) rfl) ?_)
  clear hA; intro a hA
  refine L1 (stv hA (by decide) (run_assign (hA.ev rfl)) ?_)
  clear hA; intro a hA
  refine L1 (stv hA (by decide) (run_assign (hA.ev rfl)) ?_)
  clear hA; intro a hA
  refine L1 (stv hA (by decide) (run_assign (hA.ev rfl)) ?_)
  clear hA; intro a hA
  refine LQ ?_
  refine TN ?_
  refine wp_seq ?_
  refine wp_seq ?_
  obtain ⟨o139, H138, H⟩ := Option.bind_eq_some_iff.1 H
  refine cutC (fun a w => ∃ (t137 : Bool), t137 = o139 ∧ Mem F w0 w [.row 5 (Pl.int .u8).sz (.slice A132 r127.1.length c133) ((Pl.int .u8).flat r127.1)] ∧ Has 31 [(6, (.slice A132 r127.1.length c133)), (29, (.bool t137))] a) ?_ ?_
  · refine wp_region_lit ?_
    refine L1 (stv hA (by decide) (run_move (hA.ev rfl)) ?_)
    clear hA; intro a hA
    refine L1 (stv hA (by decide) (run_bin (hA.ev rfl) (hA.ev rfl) (bin_geq _ _ _ _)) ?_)
    clear hA; intro a hA
    refine L1 (stv hA (by decide) (run_move (hA.ev rfl)) ?_)
    clear hA; intro a hA
    refine bsplit (b := (decide (r127.2.2 ≥ 5))) (fun hb140 => ?_) (fun hb140 => ?_)
    · replace H138 := ite_t hb140 H138
      have hA := hA.re (t := 26) rfl (congrArg Value.bool hb140)
      refine L1 (gate_off rfl (by decide) rfl hA (by decide) rfl rfl ?_); clear hA; intro a hA
      refine L1 (gate_off rfl (by decide) rfl hA (by decide) rfl rfl ?_); clear hA; intro a hA
      refine L1 (stv hA (by decide) (run_pick (hA.ev rfl) (fun _ => hA.ev rfl) (fun h => Bool.noConfusion h)) ?_)
      clear hA; intro a hA
      refine LQ ?_
      exact ⟨true, Option.some.inj H138, hM, ((hA.nil.cons (hA.get 29 _ rfl)).cons (hA.get 6 _ rfl))⟩
    · replace H138 := ite_f hb140 H138
      have hA := hA.re (t := 26) rfl (congrArg Value.bool hb140)
      refine L1 (gate_on rfl rfl hA (by decide) rfl (stv hA (by decide) (run_move (hA.ev rfl)) ?_))
      clear hA; intro a hA
      refine L1 (gate_on rfl rfl hA (by decide) rfl (stv hA (by decide) (run_bin (hA.ev rfl) (hA.ev rfl) (bin_neq _ _ _ _)) ?_))
      clear hA; intro a hA
      refine L1 (stv hA (by decide) (run_pick (hA.ev rfl) (fun h => Bool.noConfusion h) (fun _ => hA.ev rfl)) ?_)
      clear hA; intro a hA
      refine LQ ?_
      exact ⟨(r127.2.1 != 0), Option.some.inj H138, hM, ((hA.nil.cons (hA.get 29 _ rfl)).cons (hA.get 6 _ rfl))⟩
  clear hM hA
  rintro a w141 ⟨t137, rfl, hM, hA⟩
  try dsimp only at H
  refine TN ?_
  refine tcond (b := t137) hA rfl (fun hb142 => ?_) (fun hb142 => ?_)
  · replace H := ite_t hb142 H
    refine wp_seq ?_
    refine wp_region_lit ?_
    refine L1 (stv hA (by decide) (run_assign (hA.ev rfl)) ?_)
    clear hA; intro a hA
    refine L1 (stv hA (by decide) (run_assign (hA.ev rfl)) ?_)
    clear hA; intro a hA
    refine LQ ?_
    refine TN ?_
    refine wp_ret ?_
    have hM := hM.addnil 5 ((Pl.int .u8)).sz
    obtain rfl := Option.some.inj H
    refine TR ?_
    exact ret_post2 (fn := Try.f11) hA rfl rfl rfl ⟨_, rfl, (.slice none 0 0), rfl, (hM.sel [0] rfl (by decide))⟩
  · replace H := ite_f hb142 H
    refine wp_skip ?_
    refine TN ?_
    refine wp_seq ?_
    refine wp_region_lit ?_
    refine L1 (stv hA (by decide) (run_move (hA.ev rfl)) ?_)
    clear hA; intro a hA
    refine L1 (stv hA (by decide) (run_assign (hA.ev rfl)) ?_)
    clear hA; intro a hA
    refine L1 (stv hA (by decide) (run_assign (hA.ev rfl)) ?_)
    clear hA; intro a hA
    refine LQ ?_
    refine TN ?_
    refine wp_ret ?_
    obtain rfl := Option.some.inj H
    exact ret_post2 (fn := Try.f11) hA rfl rfl rfl ⟨_, rfl, (.slice A132 r127.1.length c133), rfl, hM⟩

def address_Convert.f (k : Nat) (b_0 : (List Int)) : Option (List Int) := ((address_regroup.f k b_0 8 5).bind fun r34 => (Option.bind (α := (List Int)) (if (decide (r34.2.2 > 0)) = true then (if 0 ≤ (IntKind.i64.wrap (5 - r34.2.2)) then (if (r34.1.length + 1) * 1 ≤ 140737488355328 then (some (r34.1 ++ [IntKind.u8.wrap (ishl .i64 r34.2.1 (IntKind.i64.wrap (5 - r34.2.2)))])) else none) else none) else (some r34.1)) (fun xs54 => (some xs54))))
set_option maxRecDepth 100000 in
theorem address_Convert.calls (k : Nat) (b_0 : (List Int)) (F : List (Option Nat)) (v0 : Value) (r : (List Int)) (w0 : World) (h0 : RoV F (Pl.int .u8) w0 v0 b_0) (hM : Mem F w0 w0 []) (H : address_Convert.f k b_0 = some r) :
    Calls Try.prog 14 #[v0] w0 fun e w' => ∃ v, e = .returned v ∧ ∃ (ur_0 : Value), v = ur_0 ∧ Mem F w0 w' [.row 5 (Pl.int .u8).sz ur_0 ((Pl.int .u8).flat r)] := by
  unfold address_Convert.f at H
  obtain ⟨A0, c0, rfl, hr0, hc0⟩ := h0
  refine enterL (n := 23) [(.slice A0 b_0.length c0)] Try.func14 rfl rfl rfl ?_
  intro a hA
  refine wp_seq ?_
  refine wp_region_lit ?_
  refine L1 (stv hA (by decide) (run_assign (hA.ev rfl)) ?_)
  clear hA; intro a hA
  refine LQ ?_
  refine TN ?_
  refine wp_seq ?_
  refine wp_region_lit ?_
  refine L1 (stv hA (by decide) (run_move (hA.ev rfl)) ?_)
  clear hA; intro a hA
  obtain ⟨r34, H35, H⟩ := Option.bind_eq_some_iff.1 H
  refine L1 (st_call Try.call24 hA [(.slice A0 b_0.length c0), (.int .i64 8), (.int .i64 5)] rfl (by decide) (address_regroup.calls _ _ _ _ _ _ _ _ ((RoV.mk (hM.roC (Ms := []) hr0) (Eq.refl b_0.length) hc0)) (hM.front (Ms := [])) H35) ?_)
  clear hA; rintro _ w36 ⟨v37, rfl, hMc⟩ a hA
  have hE := hMc.below; have hM := hM.call (Ms := []) hMc
  clear hMc; simp only [List.cons_append, List.nil_append] at hM
  obtain ⟨A39, c40, rfl⟩ := RowOk.form (hM.row (p := (Pl.int .u8)) .z)
  refine L1 (stv hA (by decide) (run_move (hA.ev rfl)) ?_)
  clear hA; intro a hA
  refine L1 (stv hA (by decide) (run_ext (hA.ev rfl) rfl) ?_)
  clear hA; intro a hA
  refine L1 (stv hA (by decide) (run_ext (hA.ev rfl) rfl) ?_)
  clear hA; intro a hA
  refine L1 (stv hA (by decide) (run_ext (hA.ev rfl) rfl) ?_)
  clear hA; intro a hA
  refine L1 (stv hA (by decide) (run_assign (hA.ev rfl)) ?_)
  clear hA; intro a hA
  refine L1 (stv hA (by decide) (run_assign (hA.ev rfl)) ?_)
  clear hA; intro a hA
  refine L1 (stv hA (by decide) (run_assign (hA.ev rfl)) ?_)
  clear hA; intro a hA
  refine LQ ?_
  refine TN ?_
  refine wp_seq ?_
  refine wp_seq ?_
  refine wp_region_lit ?_
  refine L1 (stv hA (by decide) (run_move (hA.ev rfl)) ?_)
  clear hA; intro a hA
  refine L1 (stv hA (by decide) (run_bin (hA.ev rfl) (hA.ev rfl) (bin_gtr _ _ _ _)) ?_)
  clear hA; intro a hA
  refine LQ ?_
  refine TN ?_
  obtain ⟨o56, H55, H⟩ := Option.bind_eq_some_iff.1 H
  refine cutC (fun a w => ∃ (xs54 : (List Int)) (v51 : Value), xs54 = o56 ∧ Mem F w0 w [.row 5 (Pl.int .u8).sz v51 ((Pl.int .u8).flat xs54)] ∧ Has 23 [(3, v51)] a) ?_ ?_
  · refine tcond (b := (decide (r34.2.2 > 0))) hA rfl (fun hb57 => ?_) (fun hb57 => ?_)
    · replace H55 := ite_t hb57 H55
      refine wp_region_lit ?_
      refine L1 (stv hA (by decide) (run_move (hA.ev rfl)) ?_)
      clear hA; intro a hA
      refine L1 (stv hA (by decide) (run_move (hA.ev rfl)) ?_)
      clear hA; intro a hA
      refine L1 (stv hA (by decide) (run_move (hA.ev rfl)) ?_)
      clear hA; intro a hA
      refine L1 (stv hA (by decide) (run_bin (hA.ev rfl) (hA.ev rfl) (bin_sub _ _ _ _)) ?_)
      clear hA; intro a hA
      obtain ⟨hs58, H55⟩ := ite_some H55
      refine L1 (stv hA (by decide) (run_shl (hA.ev rfl) (hA.ev rfl) hs58) ?_)
      clear hA; intro a hA
      refine L1 (stv hA (by decide) (run_conv Try.underlying3 Try.underlying5 (hA.ev rfl)) ?_)
      clear hA; intro a hA
      refine L1 (e_litN [IntKind.u8.wrap (ishl .i64 r34.2.1 (IntKind.i64.wrap (5 - r34.2.2)))] [(.int .u8 (IntKind.u8.wrap (ishl .i64 r34.2.1 (IntKind.i64.wrap (5 - r34.2.2)))))] elt22 hM rfl (by decide) hA rfl rfl (List.cons_ne_nil _ _) (by decide) ?_)
      clear hM hA; intro w60 g59 hM hE a hA
      obtain ⟨hl64, H55⟩ := ite_some H55
      refine L1 (e_append elt22 hM (fun _ => (.s .z)) (Src.row Try.underlying22 (RowOk.row (hM.row (p := (Pl.int .u8)) .z)) (RowOk.len (hM.row (p := (Pl.int .u8)) .z))) hl64 hA rfl rfl (by decide) ?_)
      clear hM hA; intro w65 A62 c63 hM hE a hA
      refine L1 (stv hA (by decide) (run_assign (hA.ev rfl)) ?_)
      clear hA; intro a hA
      refine LQ ?_
      exact ⟨(r34.1 ++ [IntKind.u8.wrap (ishl .i64 r34.2.1 (IntKind.i64.wrap (5 - r34.2.2)))]), (.slice A62 (r34.1.length + 1) c63), Option.some.inj H55, (hM.sel [1] rfl (by decide)), (hA.nil.cons (hA.get 3 _ rfl))⟩
    · replace H55 := ite_f hb57 H55
      refine wp_skip ?_
      exact ⟨r34.1, (.slice A39 r34.1.length c40), Option.some.inj H55, hM, (hA.nil.cons (hA.get 3 _ rfl))⟩
  clear hM hA
  rintro a w66 ⟨xs54, v51, rfl, hM, hA⟩
  try dsimp only at H
  obtain ⟨A52, c53, rfl⟩ := RowOk.form (hM.row (p := (Pl.int .u8)) .z)
  refine TN ?_
  refine wp_seq ?_
  refine wp_region_lit ?_
  refine L1 (stv hA (by decide) (run_move (hA.ev rfl)) ?_)
  clear hA; intro a hA
  refine L1 (stv hA (by decide) (run_assign (hA.ev rfl)) ?_)
  clear hA; intro a hA
  refine LQ ?_
  refine TN ?_
  refine wp_ret ?_
  obtain rfl := Option.some.inj H
  exact ret_post1 (fn := Try.f14) hA rfl rfl ⟨_, rfl, (.slice A52 xs54.length c53), rfl, hM⟩

def law27_sane.f (k : Nat)  : Option Bool := ((address_Convert.f k [(255 : Int)]).bind fun r55 => ((address_Back.f k [(31 : Int), (29 : Int)]).bind fun r65 => (Option.bind (α := Bool) (if (((r55.length : Nat) : Int) == 2) = true then (if 0 ≤ (0 : Int) ∧ (0 : Int) < ((r55.length : Nat) : Int) then (if ((r55.getD (0 : Int).toNat (0 : Int)) == 31) = true then (if 0 ≤ (1 : Int) ∧ (1 : Int) < ((r55.length : Nat) : Int) then (if ((r55.getD (1 : Int).toNat (0 : Int)) == 28) = true then (some (r65.2 == 3)) else (some false)) else none) else (some false)) else none) else (some false)) (fun t86 => (some t86)))))
set_option maxRecDepth 100000 in
theorem law27_sane.calls (k : Nat)  (F : List (Option Nat)) (r : Bool) (w0 : World) (hM : Mem F w0 w0 []) (H : law27_sane.f k  = some r) :
    Calls Try.prog 9 #[] w0 fun e w' => ∃ v, e = .returned v ∧ v = (.bool r) ∧ Mem F w0 w' [] := by
  unfold law27_sane.f at H
  refine enterL (n := 30) [] Try.func9 rfl rfl rfl ?_
  intro a hA
  refine wp_seq ?_
  refine wp_region_lit ?_
  refine L1 (stv hA (by decide) (run_assign (hA.ev rfl)) ?_)
  clear hA; intro a hA
  refine LQ ?_
  refine TN ?_
  refine wp_seq ?_
  refine wp_region_lit ?_
  refine L1 (e_litN [(255 : Int)] [(.int .u8 255)] elt22 hM rfl (by decide) hA rfl rfl (List.cons_ne_nil _ _) (by decide) ?_)
  clear hM hA; intro w53 g52 hM hE a hA
  obtain ⟨r55, H56, H⟩ := Option.bind_eq_some_iff.1 H
  refine L1 (st_call Try.call14 hA [(.slice (some ⟨g52, 0, none⟩) 1 1)] rfl (by decide) (address_Convert.calls _ _ _ _ _ _ ((RoV.mk (hM.rowC (p := (Pl.int .u8)) (Ms := []) .z) (RowOk.len (hM.row (p := (Pl.int .u8)) .z)) (RowOk.cap (hM.row (p := (Pl.int .u8)) .z)))) (hM.front (Ms := [])) H56) ?_)
  clear hA; rintro _ w57 ⟨v58, rfl, hMc⟩ a hA
  have hE := hMc.below; have hM := hM.call (Ms := []) hMc
  clear hMc; simp only [List.cons_append, List.nil_append] at hM
  obtain ⟨A60, c61, rfl⟩ := RowOk.form (hM.row (p := (Pl.int .u8)) .z)
  refine L1 (stv hA (by decide) (run_assign (hA.ev rfl)) ?_)
  clear hA; intro a hA
  refine LQ ?_
  refine TN ?_
  refine wp_seq ?_
  refine wp_region_lit ?_
  refine L1 (e_litN [(31 : Int), (29 : Int)] [(.int .u8 31), (.int .u8 29)] elt22 hM rfl (by decide) hA rfl rfl (List.cons_ne_nil _ _) (by decide) ?_)
  clear hM hA; intro w63 g62 hM hE a hA
  obtain ⟨r65, H66, H⟩ := Option.bind_eq_some_iff.1 H
  refine L1 (st_call Try.call11 hA [(.slice (some ⟨g62, 0, none⟩) 2 2)] rfl (by decide) (address_Back.calls _ _ _ _ _ _ ((RoV.mk (hM.rowC (p := (Pl.int .u8)) (Ms := []) .z) (RowOk.len (hM.row (p := (Pl.int .u8)) .z)) (RowOk.cap (hM.row (p := (Pl.int .u8)) .z)))) (hM.front (Ms := [])) H66) ?_)
  clear hA; rintro _ w67 ⟨v68, rfl, hMc⟩ a hA
  have hE := hMc.below; have hM := hM.call (Ms := []) hMc
  clear hMc; simp only [List.cons_append, List.nil_append] at hM
  obtain ⟨A70, c71, rfl⟩ := RowOk.form (hM.row (p := (Pl.int .u8)) .z)
  refine L1 (stv hA (by decide) (run_move (hA.ev rfl)) ?_)
  clear hA; intro a hA
  refine L1 (stv hA (by decide) (run_ext (hA.ev rfl) rfl) ?_)
  clear hA; intro a hA
  refine L1 (stv hA (by decide) (run_ext (hA.ev rfl) rfl) ?_)
  clear hA; intro a hA
  refine L1 (stv hA (by decide) (run_assign (hA.ev rfl)) ?_)
  clear hA; intro a hA
  refine L1 (stv hA (by decide) (run_assign (hA.ev rfl)) ?_)
  clear hA; intro a hA
  refine LQ ?_
  refine TN ?_
  refine wp_seq ?_
  obtain ⟨o88, H87, H⟩ := Option.bind_eq_some_iff.1 H
  refine cutC (fun a w => ∃ (t86 : Bool), t86 = o88 ∧ Mem F w0 w [] ∧ Has 30 [(0, (.bool t86))] a) ?_ ?_
  · refine wp_region_lit ?_
    refine L1 (stv hA (by decide) (run_move (hA.ev rfl)) ?_)
    clear hA; intro a hA
    refine L1 (stv hA (by decide) (run_len_slice Try.underlying22 (hA.ev rfl)) ?_)
    clear hA; intro a hA
    refine L1 (stv hA (by decide) (run_bin (hA.ev rfl) (hA.ev rfl) (bin_eql _ _ _ _)) ?_)
    clear hA; intro a hA
    refine L1 (stv hA (by decide) (run_move (hA.ev rfl)) ?_)
    clear hA; intro a hA
    refine bsplit (b := (((r55.length : Nat) : Int) == 2)) (fun hb89 => ?_) (fun hb89 => ?_)
    · replace H87 := ite_t hb89 H87
      have hA := hA.re (t := 14) rfl (congrArg Value.bool hb89)
      refine L1 (gate_on rfl rfl hA (by decide) rfl (stv hA (by decide) (run_move (hA.ev rfl)) ?_))
      clear hA; intro a hA
      obtain ⟨⟨hi90, hj91⟩, H87⟩ := ite_some H87
      obtain ⟨ad92, hq93, hat94⟩ := Row.elem' (p := (Pl.int .u8)) (RowOk.row (hM.row (p := (Pl.int .u8)) (.s (.s .z)))) (RowOk.len (hM.row (p := (Pl.int .u8)) (.s (.s .z)))) (0 : Int) (0 : Int) hi90 hj91
      refine L1 (gate_on rfl rfl hA (by decide) rfl (stv hA (by decide) (run_idx Try.underlying22 Try.sizeOf5 (hA.ev rfl) hq93 (hA.ev rfl) hi90 hj91) ?_))
      clear hA; intro a hA
      refine L1 (gate_on rfl rfl hA (by decide) rfl (stv hA (by decide) (run_ld (hA.ev rfl) (run_loadS Try.isAgg5 hat94)) ?_))
      clear hA; intro a hA
      refine L1 (gate_on rfl rfl hA (by decide) rfl (stv hA (by decide) (run_bin (hA.ev rfl) (hA.ev rfl) (bin_eql _ _ _ _)) ?_))
      clear hA; intro a hA
      refine L1 (stv hA (by decide) (run_pick (hA.ev rfl) (fun _ => hA.ev rfl) (fun h => Bool.noConfusion h)) ?_)
      clear hA; intro a hA
      refine L1 (stv hA (by decide) (run_move (hA.ev rfl)) ?_)
      clear hA; intro a hA
      refine bsplit (b := ((r55.getD (0 : Int).toNat (0 : Int)) == 31)) (fun hb95 => ?_) (fun hb95 => ?_)
      · replace H87 := ite_t hb95 H87
        have hA := hA.re (t := 20) rfl (congrArg Value.bool hb95)
        refine L1 (gate_on rfl rfl hA (by decide) rfl (stv hA (by decide) (run_move (hA.ev rfl)) ?_))
        clear hA; intro a hA
        obtain ⟨⟨hi96, hj97⟩, H87⟩ := ite_some H87
        obtain ⟨ad98, hq99, hat100⟩ := Row.elem' (p := (Pl.int .u8)) (RowOk.row (hM.row (p := (Pl.int .u8)) (.s (.s .z)))) (RowOk.len (hM.row (p := (Pl.int .u8)) (.s (.s .z)))) (0 : Int) (1 : Int) hi96 hj97
        refine L1 (gate_on rfl rfl hA (by decide) rfl (stv hA (by decide) (run_idx Try.underlying22 Try.sizeOf5 (hA.ev rfl) hq99 (hA.ev rfl) hi96 hj97) ?_))
        clear hA; intro a hA
        refine L1 (gate_on rfl rfl hA (by decide) rfl (stv hA (by decide) (run_ld (hA.ev rfl) (run_loadS Try.isAgg5 hat100)) ?_))
        clear hA; intro a hA
        refine L1 (gate_on rfl rfl hA (by decide) rfl (stv hA (by decide) (run_bin (hA.ev rfl) (hA.ev rfl) (bin_eql _ _ _ _)) ?_))
        clear hA; intro a hA
        refine L1 (stv hA (by decide) (run_pick (hA.ev rfl) (fun _ => hA.ev rfl) (fun h => Bool.noConfusion h)) ?_)
        clear hA; intro a hA
        refine L1 (stv hA (by decide) (run_move (hA.ev rfl)) ?_)
        clear hA; intro a hA
        refine bsplit (b := ((r55.getD (1 : Int).toNat (0 : Int)) == 28)) (fun hb101 => ?_) (fun hb101 => ?_)
        · replace H87 := ite_t hb101 H87
          have hA := hA.re (t := 26) rfl (congrArg Value.bool hb101)
          refine L1 (gate_on rfl rfl hA (by decide) rfl (stv hA (by decide) (run_move (hA.ev rfl)) ?_))
          clear hA; intro a hA
          refine L1 (gate_on rfl rfl hA (by decide) rfl (stv hA (by decide) (run_bin (hA.ev rfl) (hA.ev rfl) (bin_eql _ _ _ _)) ?_))
          clear hA; intro a hA
          refine L1 (stv hA (by decide) (run_pick (hA.ev rfl) (fun _ => hA.ev rfl) (fun h => Bool.noConfusion h)) ?_)
          clear hA; intro a hA
          refine L1 (stv hA (by decide) (run_assign (hA.ev rfl)) ?_)
          clear hA; intro a hA
          refine LQ ?_
          exact ⟨(r65.2 == 3), Option.some.inj H87, (hM.sel [] rfl (by decide)), (hA.nil.cons (hA.get 0 _ rfl))⟩
        · replace H87 := ite_f hb101 H87
          have hA := hA.re (t := 26) rfl (congrArg Value.bool hb101)
          refine L1 (gate_off rfl (by decide) rfl hA (by decide) rfl rfl ?_); clear hA; intro a hA
          refine L1 (gate_off rfl (by decide) rfl hA (by decide) rfl rfl ?_); clear hA; intro a hA
          refine L1 (stv hA (by decide) (run_pick (hA.ev rfl) (fun h => Bool.noConfusion h) (fun _ => hA.ev rfl)) ?_)
          clear hA; intro a hA
          refine L1 (stv hA (by decide) (run_assign (hA.ev rfl)) ?_)
          clear hA; intro a hA
          refine LQ ?_
          exact ⟨false, Option.some.inj H87, (hM.sel [] rfl (by decide)), (hA.nil.cons (hA.get 0 _ rfl))⟩
      · replace H87 := ite_f hb95 H87
        have hA := hA.re (t := 20) rfl (congrArg Value.bool hb95)
        refine L1 (gate_off rfl (by decide) rfl hA (by decide) rfl rfl ?_); clear hA; intro a hA
        refine L1 (gate_off rfl (by decide) rfl hA (by decide) rfl rfl ?_); clear hA; intro a hA
        refine L1 (gate_off rfl (by decide) rfl hA (by decide) rfl rfl ?_); clear hA; intro a hA
        refine L1 (gate_off rfl (by decide) rfl hA (by decide) rfl rfl ?_); clear hA; intro a hA
        refine L1 (stv hA (by decide) (run_pick (hA.ev rfl) (fun h => Bool.noConfusion h) (fun _ => hA.ev rfl)) ?_)
        clear hA; intro a hA
        refine L1 (stv hA (by decide) (run_move (hA.ev rfl)) ?_)
        clear hA; intro a hA
        refine L1 (gate_off rfl (by decide) rfl hA (by decide) rfl rfl ?_); clear hA; intro a hA
        refine L1 (gate_off rfl (by decide) rfl hA (by decide) rfl rfl ?_); clear hA; intro a hA
        refine L1 (stv hA (by decide) (run_pick (hA.ev rfl) (fun h => Bool.noConfusion h) (fun _ => hA.ev rfl)) ?_)
        clear hA; intro a hA
        refine L1 (stv hA (by decide) (run_assign (hA.ev rfl)) ?_)
        clear hA; intro a hA
        refine LQ ?_
        exact ⟨false, Option.some.inj H87, (hM.sel [] rfl (by decide)), (hA.nil.cons (hA.get 0 _ rfl))⟩
    · replace H87 := ite_f hb89 H87
      have hA := hA.re (t := 14) rfl (congrArg Value.bool hb89)
      refine L1 (gate_off rfl (by decide) rfl hA (by decide) rfl rfl ?_); clear hA; intro a hA
      refine L1 (gate_off rfl (by decide) rfl hA (by decide) rfl rfl ?_); clear hA; intro a hA
      refine L1 (gate_off rfl (by decide) rfl hA (by decide) rfl rfl ?_); clear hA; intro a hA
      refine L1 (gate_off rfl (by decide) rfl hA (by decide) rfl rfl ?_); clear hA; intro a hA
      refine L1 (stv hA (by decide) (run_pick (hA.ev rfl) (fun h => Bool.noConfusion h) (fun _ => hA.ev rfl)) ?_)
      clear hA; intro a hA
      refine L1 (stv hA (by decide) (run_move (hA.ev rfl)) ?_)
      clear hA; intro a hA
      refine L1 (gate_off rfl (by decide) rfl hA (by decide) rfl rfl ?_); clear hA; intro a hA
      refine L1 (gate_off rfl (by decide) rfl hA (by decide) rfl rfl ?_); clear hA; intro a hA
      refine L1 (gate_off rfl (by decide) rfl hA (by decide) rfl rfl ?_); clear hA; intro a hA
      refine L1 (gate_off rfl (by decide) rfl hA (by decide) rfl rfl ?_); clear hA; intro a hA
      refine L1 (stv hA (by decide) (run_pick (hA.ev rfl) (fun h => Bool.noConfusion h) (fun _ => hA.ev rfl)) ?_)
      clear hA; intro a hA
      refine L1 (stv hA (by decide) (run_move (hA.ev rfl)) ?_)
      clear hA; intro a hA
      refine L1 (gate_off rfl (by decide) rfl hA (by decide) rfl rfl ?_); clear hA; intro a hA
      refine L1 (gate_off rfl (by decide) rfl hA (by decide) rfl rfl ?_); clear hA; intro a hA
      refine L1 (stv hA (by decide) (run_pick (hA.ev rfl) (fun h => Bool.noConfusion h) (fun _ => hA.ev rfl)) ?_)
      clear hA; intro a hA
      refine L1 (stv hA (by decide) (run_assign (hA.ev rfl)) ?_)
      clear hA; intro a hA
      refine LQ ?_
      exact ⟨false, Option.some.inj H87, (hM.sel [] rfl (by decide)), (hA.nil.cons (hA.get 0 _ rfl))⟩
  clear hM hA
  rintro a w102 ⟨t86, rfl, hM, hA⟩
  try dsimp only at H
  refine TN ?_
  refine wp_ret ?_
  obtain rfl := Option.some.inj H
  exact ret_post1 (fn := Try.f9) hA rfl rfl ⟨_, rfl, rfl, hM⟩

def ref27_Convert.l1 (b_0 : (List Int)) (t991 : Int) : Nat → Int → Int → Option (Int)
  | 0, _, _ => none
  | k + 1, d1090, i1092 => (if (decide (i1092 < (IntKind.i64.wrap (t991 + 5)))) = true then (Option.bind (α := Int) (if (decide (i1092 < (IntKind.i64.wrap (8 * ((b_0.length : Nat) : Int))))) = true then (if 0 ≤ (IntKind.i64.wrap (i1092.tdiv 8)) ∧ (IntKind.i64.wrap (i1092.tdiv 8)) < ((b_0.length : Nat) : Int) then (if 0 ≤ (IntKind.u64.wrap (IntKind.i64.wrap (7 - (i1092.tmod 8)))) then (some (ior .u8 (ishl .u8 d1090 1) (iand .u8 (ishr .u8 (b_0.getD (IntKind.i64.wrap (i1092.tdiv 8)).toNat (0 : Int)) (IntKind.u64.wrap (IntKind.i64.wrap (7 - (i1092.tmod 8))))) 1))) else none) else none) else (some (ishl .u8 d1090 1))) (fun d1114 => (ref27_Convert.l1 b_0 t991 k d1114 (IntKind.i64.wrap (i1092 + 1))))) else (some d1090))
def ref27_Convert.l0 (b_0 : (List Int)) : Nat → (List Int) → Int → Option ((List Int))
  | 0, _, _ => none
  | k + 1, xs989, t991 => (if (decide (t991 < (IntKind.i64.wrap (8 * ((b_0.length : Nat) : Int))))) = true then (Option.bind (α := Int) (ref27_Convert.l1 b_0 t991 k 0 t991) (fun d1097 => (if (xs989.length + 1) * 1 ≤ 140737488355328 then (ref27_Convert.l0 b_0 k (xs989 ++ [d1097]) (IntKind.i64.wrap (t991 + 5))) else none))) else (some xs989))
def ref27_Convert.f (k : Nat) (b_0 : (List Int)) : Option (List Int) := (Option.bind (α := (List Int)) (ref27_Convert.l0 b_0 k ([] : List Int) 0) (fun xs997 => (some xs997)))
set_option maxRecDepth 100000 in
theorem ref27_Convert.calls (k : Nat) (b_0 : (List Int)) (F : List (Option Nat)) (v0 : Value) (r : (List Int)) (w0 : World) (h0 : RoV F (Pl.int .u8) w0 v0 b_0) (hM : Mem F w0 w0 []) (H : ref27_Convert.f k b_0 = some r) :
    Calls Try.prog 10 #[v0] w0 fun e w' => ∃ v, e = .returned v ∧ ∃ (ur_0 : Value), v = ur_0 ∧ Mem F w0 w' [.row 5 (Pl.int .u8).sz ur_0 ((Pl.int .u8).flat r)] := by
  unfold ref27_Convert.f at H
  obtain ⟨A0, c0, rfl, hr0, hc0⟩ := h0
  refine enterL (n := 46) [(.slice A0 b_0.length c0)] Try.func10 rfl rfl rfl ?_
  intro a hA
  refine wp_seq ?_
  refine wp_region_lit ?_
  refine L1 (stv hA (by decide) (run_assign (hA.ev rfl)) ?_)
  clear hA; intro a hA
  refine LQ ?_
  refine TN ?_
  refine wp_seq ?_
  refine wp_region_lit ?_
  refine L1 (stv hA (by decide) (run_assign (hA.ev rfl)) ?_)
  clear hA; intro a hA
  refine LQ ?_
  refine TN ?_
  refine wp_seq ?_
  refine wp_seq ?_
  refine wp_region_lit ?_
  refine L1 (stv hA (by decide) (run_assign (hA.ev rfl)) ?_)
  clear hA; intro a hA
  refine LQ ?_
  refine TN ?_
  obtain ⟨o999, H998, H⟩ := Option.bind_eq_some_iff.1 H
  refine cutC (fun a w => ∃ (xs997 : (List Int)) (v994 : Value), xs997 = o999 ∧ Mem F w0 w [.row 5 (Pl.int .u8).sz v994 ((Pl.int .u8).flat xs997)] ∧ Has 46 [(3, v994)] a) ?_ ?_
  · refine wp_block ?_
    have hM := hM.addnil 5 ((Pl.int .u8)).sz
    refine wp_loop_ghost (fun m a w => ∃ (xs989 : (List Int)) (t991 : Int) (v986 : Value), ref27_Convert.l0 b_0 m xs989 t991 = some o999 ∧ Mem F w0 w [.row 5 (Pl.int .u8).sz v986 ((Pl.int .u8).flat xs989)] ∧ Has 46 [(0, (.slice A0 b_0.length c0)), (3, v986), (4, (.int .i64 t991))] a) k ⟨([] : List Int), 0, (.slice none 0 0), H998, hM, (((hA.nil.cons (hA.get 4 _ rfl)).cons (hA.get 3 _ rfl)).cons (hA.get 0 _ rfl))⟩ ?_
    clear hM hA; rintro m1001 a w1002 ⟨xs989, t991, v986, H998, hM, hA⟩
    cases m1001 with
    | zero => exact absurd H998 (by simp [ref27_Convert.l0])
    | succ m1001 =>
    rw [ref27_Convert.l0] at H998
    obtain ⟨A987, c988, rfl⟩ := RowOk.form (hM.row (p := (Pl.int .u8)) .z)
    refine wp_seq ?_
    refine wp_seq ?_
    refine wp_region_lit ?_
    refine L1 (stv hA (by decide) (run_move (hA.ev rfl)) ?_)
    clear hA; intro a hA
    refine L1 (stv hA (by decide) (run_move (hA.ev rfl)) ?_)
    clear hA; intro a hA
    refine L1 (stv hA (by decide) (run_len_slice Try.underlying22 (hA.ev rfl)) ?_)
    clear hA; intro a hA
    refine L1 (stv hA (by decide) (run_bin (hA.ev rfl) (hA.ev rfl) (bin_mul _ _ _ _)) ?_)
    clear hA; intro a hA
    refine L1 (stv hA (by decide) (run_bin (hA.ev rfl) (hA.ev rfl) (bin_lss _ _ _ _)) ?_)
    clear hA; intro a hA
    refine LQ ?_
    refine TN ?_
    refine tcond (b := (decide (t991 < (IntKind.i64.wrap (8 * ((b_0.length : Nat) : Int)))))) hA rfl (fun hb1003 => ?_) (fun hb1003 => ?_)
    · replace H998 := ite_t hb1003 H998
      refine wp_skip ?_
      refine TN ?_
      refine wp_seq ?_
      refine wp_block ?_
      refine wp_seq ?_
      refine wp_region_lit ?_
      refine L1 (stv hA (by decide) (run_assign (hA.ev rfl)) ?_)
      clear hA; intro a hA
      refine LQ ?_
      refine TN ?_
      refine wp_seq ?_
      refine wp_seq ?_
      refine wp_region_lit ?_
      refine L1 (stv hA (by decide) (run_move (hA.ev rfl)) ?_)
      clear hA; intro a hA
      refine L1 (stv hA (by decide) (run_assign (hA.ev rfl)) ?_)
      clear hA; intro a hA
      refine LQ ?_
      refine TN ?_
      obtain ⟨o1099, H1098, H998⟩ := Option.bind_eq_some_iff.1 H998
      refine cutC (fun a w => ∃ (d1097 : Int), d1097 = o1099 ∧ Mem F w0 w [.row 5 (Pl.int .u8).sz (.slice A987 xs989.length c988) ((Pl.int .u8).flat xs989)] ∧ Has 46 [(0, (.slice A0 b_0.length c0)), (3, (.slice A987 xs989.length c988)), (4, (.int .i64 t991)), (5, (.int .u8 d1097))] a) ?_ ?_
      · refine wp_block ?_
        refine wp_loop_ghost (fun m a w => ∃ (d1090 : Int) (i1092 : Int), ref27_Convert.l1 b_0 t991 m d1090 i1092 = some o1099 ∧ Mem F w0 w [.row 5 (Pl.int .u8).sz (.slice A987 xs989.length c988) ((Pl.int .u8).flat xs989)] ∧ Has 46 [(0, (.slice A0 b_0.length c0)), (3, (.slice A987 xs989.length c988)), (4, (.int .i64 t991)), (5, (.int .u8 d1090)), (6, (.int .i64 i1092))] a) m1001 ⟨0, t991, H1098, hM, (((((hA.nil.cons (hA.get 6 _ rfl)).cons (hA.get 5 _ rfl)).cons (hA.get 4 _ rfl)).cons (hA.get 3 _ rfl)).cons (hA.get 0 _ rfl))⟩ ?_
        clear hM hA; rintro m1100 a w1101 ⟨d1090, i1092, H1098, hM, hA⟩
        cases m1100 with
        | zero => exact absurd H1098 (by simp [ref27_Convert.l1])
        | succ m1100 =>
        rw [ref27_Convert.l1] at H1098
        refine wp_seq ?_
        refine wp_seq ?_
        refine wp_region_lit ?_
        refine L1 (stv hA (by decide) (run_move (hA.ev rfl)) ?_)
        clear hA; intro a hA
        refine L1 (stv hA (by decide) (run_move (hA.ev rfl)) ?_)
        clear hA; intro a hA
        refine L1 (stv hA (by decide) (run_bin (hA.ev rfl) (hA.ev rfl) (bin_add _ _ _ _)) ?_)
        clear hA; intro a hA
        refine L1 (stv hA (by decide) (run_bin (hA.ev rfl) (hA.ev rfl) (bin_lss _ _ _ _)) ?_)
        clear hA; intro a hA
        refine LQ ?_
        refine TN ?_
        refine tcond (b := (decide (i1092 < (IntKind.i64.wrap (t991 + 5))))) hA rfl (fun hb1102 => ?_) (fun hb1102 => ?_)
        · replace H1098 := ite_t hb1102 H1098
          refine wp_skip ?_
          refine TN ?_
          refine wp_seq ?_
          refine wp_block ?_
          refine wp_seq ?_
          refine wp_region_lit ?_
          refine L1 (stv hA (by decide) (run_move (hA.ev rfl)) ?_)
          clear hA; intro a hA
          refine L1 (stv hA (by decide) (run_shl (hA.ev rfl) (hA.ev rfl) (by decide)) ?_)
          clear hA; intro a hA
          refine L1 (stv hA (by decide) (run_assign (hA.ev rfl)) ?_)
          clear hA; intro a hA
          refine LQ ?_
          refine TN ?_
          refine wp_seq ?_
          refine wp_region_lit ?_
          refine L1 (stv hA (by decide) (run_move (hA.ev rfl)) ?_)
          clear hA; intro a hA
          refine L1 (stv hA (by decide) (run_move (hA.ev rfl)) ?_)
          clear hA; intro a hA
          refine L1 (stv hA (by decide) (run_len_slice Try.underlying22 (hA.ev rfl)) ?_)
          clear hA; intro a hA
          refine L1 (stv hA (by decide) (run_bin (hA.ev rfl) (hA.ev rfl) (bin_mul _ _ _ _)) ?_)
          clear hA; intro a hA
          refine L1 (stv hA (by decide) (run_bin (hA.ev rfl) (hA.ev rfl) (bin_lss _ _ _ _)) ?_)
          clear hA; intro a hA
          refine LQ ?_
          refine TN ?_
          obtain ⟨o1117, H1116, H1098⟩ := Option.bind_eq_some_iff.1 H1098
          refine cutC (fun a w => ∃ (d1114 : Int), d1114 = o1117 ∧ Mem F w0 w [.row 5 (Pl.int .u8).sz (.slice A987 xs989.length c988) ((Pl.int .u8).flat xs989)] ∧ Has 46 [(0, (.slice A0 b_0.length c0)), (3, (.slice A987 xs989.length c988)), (4, (.int .i64 t991)), (5, (.int .u8 d1114)), (6, (.int .i64 i1092))] a) ?_ ?_
          · refine tcond (b := (decide (i1092 < (IntKind.i64.wrap (8 * ((b_0.length : Nat) : Int)))))) hA rfl (fun hb1118 => ?_) (fun hb1118 => ?_)
            · replace H1116 := ite_t hb1118 H1116
              refine wp_region_lit ?_
              refine L1 (stv hA (by decide) (run_move (hA.ev rfl)) ?_)
              clear hA; intro a hA
              refine L1 (stv hA (by decide) (run_move (hA.ev rfl)) ?_)
              clear hA; intro a hA
              refine L1 (stv hA (by decide) (run_move (hA.ev rfl)) ?_)
              clear hA; intro a hA
              refine L1 (stv hA (by decide) (run_bin (hA.ev rfl) (hA.ev rfl) (bin_quo _ _ _ _ (by decide))) ?_)
              clear hA; intro a hA
              obtain ⟨⟨hi1119, hj1120⟩, H1116⟩ := ite_some H1116
              obtain ⟨ad1121, hq1122, hat1123⟩ := Row.elem' (p := (Pl.int .u8)) (hM.ro hr0) (Eq.refl b_0.length) (0 : Int) (IntKind.i64.wrap (i1092.tdiv 8)) hi1119 hj1120
              refine L1 (stv hA (by decide) (run_idx Try.underlying22 Try.sizeOf5 (hA.ev rfl) hq1122 (hA.ev rfl) hi1119 hj1120) ?_)
              clear hA; intro a hA
              refine L1 (stv hA (by decide) (run_ld (hA.ev rfl) (run_loadS Try.isAgg5 hat1123)) ?_)
              clear hA; intro a hA
              refine L1 (stv hA (by decide) (run_move (hA.ev rfl)) ?_)
              clear hA; intro a hA
              refine L1 (stv hA (by decide) (run_bin (hA.ev rfl) (hA.ev rfl) (bin_rem _ _ _ _ (by decide))) ?_)
              clear hA; intro a hA
              refine L1 (stv hA (by decide) (run_bin (hA.ev rfl) (hA.ev rfl) (bin_sub _ _ _ _)) ?_)
              clear hA; intro a hA
              refine L1 (stv hA (by decide) (run_conv Try.underlying3 Try.underlying43 (hA.ev rfl)) ?_)
              clear hA; intro a hA
              obtain ⟨hs1124, H1116⟩ := ite_some H1116
              refine L1 (stv hA (by decide) (run_shr (hA.ev rfl) (hA.ev rfl) hs1124) ?_)
              clear hA; intro a hA
              refine L1 (stv hA (by decide) (run_bin (hA.ev rfl) (hA.ev rfl) (bin_and _ _ _ _)) ?_)
              clear hA; intro a hA
              refine L1 (stv hA (by decide) (run_bin (hA.ev rfl) (hA.ev rfl) (bin_or _ _ _ _)) ?_)
              clear hA; intro a hA
              refine L1 (stv hA (by decide) (run_assign (hA.ev rfl)) ?_)
              clear hA; intro a hA
              refine LQ ?_
              exact ⟨ior .u8 (ishl .u8 d1090 1) (iand .u8 (ishr .u8 (b_0.getD (IntKind.i64.wrap (i1092.tdiv 8)).toNat (0 : Int)) (IntKind.u64.wrap (IntKind.i64.wrap (7 - (i1092.tmod 8))))) 1), Option.some.inj H1116, hM, (((((hA.nil.cons (hA.get 6 _ rfl)).cons (hA.get 5 _ rfl)).cons (hA.get 4 _ rfl)).cons (hA.get 3 _ rfl)).cons (hA.get 0 _ rfl))⟩
            · replace H1116 := ite_f hb1118 H1116
              refine wp_skip ?_
              exact ⟨ishl .u8 d1090 1, Option.some.inj H1116, hM, (((((hA.nil.cons (hA.get 6 _ rfl)).cons (hA.get 5 _ rfl)).cons (hA.get 4 _ rfl)).cons (hA.get 3 _ rfl)).cons (hA.get 0 _ rfl))⟩
          clear hM hA
          rintro a w1125 ⟨d1114, rfl, hM, hA⟩
          try dsimp only at H1098
          refine BN ?_
          refine TN ?_
          refine wp_region_lit ?_
          refine L1 (stv hA (by decide) (run_move (hA.ev rfl)) ?_)
          clear hA; intro a hA
          refine L1 (stv hA (by decide) (run_bin (hA.ev rfl) (hA.ev rfl) (bin_add _ _ _ _)) ?_)
          clear hA; intro a hA
          refine L1 (stv hA (by decide) (run_assign (hA.ev rfl)) ?_)
          clear hA; intro a hA
          refine LQ ?_
          exact ⟨_, Nat.lt_succ_self m1100, d1114, IntKind.i64.wrap (i1092 + 1), H1098, hM, (((((hA.nil.cons (hA.get 6 _ rfl)).cons (hA.get 5 _ rfl)).cons (hA.get 4 _ rfl)).cons (hA.get 3 _ rfl)).cons (hA.get 0 _ rfl))⟩
        · replace H1098 := ite_f hb1102 H1098
          refine wp_exit ?_
          refine TX ?_
          refine TX ?_
          refine BX ?_
          exact ⟨d1090, Option.some.inj H1098, hM, ((((hA.nil.cons (hA.get 5 _ rfl)).cons (hA.get 4 _ rfl)).cons (hA.get 3 _ rfl)).cons (hA.get 0 _ rfl))⟩
      clear hM hA
      rintro a w1126 ⟨d1097, rfl, hM, hA⟩
      try dsimp only at H998
      refine TN ?_
      refine wp_region_lit ?_
      refine L1 (stv hA (by decide) (run_move (hA.ev rfl)) ?_)
      clear hA; intro a hA
      refine L1 (stv hA (by decide) (run_move (hA.ev rfl)) ?_)
      clear hA; intro a hA
      refine L1 (e_litN [d1097] [(.int .u8 d1097)] elt22 hM rfl (by decide) hA rfl rfl (List.cons_ne_nil _ _) (by decide) ?_)
      clear hM hA; intro w1128 g1127 hM hE a hA
      obtain ⟨hl1132, H998⟩ := ite_some H998
      refine L1 (e_append elt22 hM (fun _ => (.s .z)) (Src.row Try.underlying22 (RowOk.row (hM.row (p := (Pl.int .u8)) .z)) (RowOk.len (hM.row (p := (Pl.int .u8)) .z))) hl1132 hA rfl rfl (by decide) ?_)
      clear hM hA; intro w1133 A1130 c1131 hM hE a hA
      refine L1 (stv hA (by decide) (run_assign (hA.ev rfl)) ?_)
      clear hA; intro a hA
      refine LQ ?_
      refine BN ?_
      refine TN ?_
      refine wp_region_lit ?_
      refine L1 (stv hA (by decide) (run_move (hA.ev rfl)) ?_)
      clear hA; intro a hA
      refine L1 (stv hA (by decide) (run_bin (hA.ev rfl) (hA.ev rfl) (bin_add _ _ _ _)) ?_)
      clear hA; intro a hA
      refine L1 (stv hA (by decide) (run_assign (hA.ev rfl)) ?_)
      clear hA; intro a hA
      refine LQ ?_
      exact ⟨_, Nat.lt_succ_self m1001, (xs989 ++ [d1097]), IntKind.i64.wrap (t991 + 5), (.slice A1130 (xs989.length + 1) c1131), H998, (hM.sel [1] rfl (by decide)), (((hA.nil.cons (hA.get 4 _ rfl)).cons (hA.get 3 _ rfl)).cons (hA.get 0 _ rfl))⟩
    · replace H998 := ite_f hb1003 H998
      refine wp_exit ?_
      refine TX ?_
      refine TX ?_
      refine BX ?_
      exact ⟨xs989, (.slice A987 xs989.length c988), Option.some.inj H998, hM, (hA.nil.cons (hA.get 3 _ rfl))⟩
  clear hM hA
  rintro a w1134 ⟨xs997, v994, rfl, hM, hA⟩
  try dsimp only at H
  obtain ⟨A995, c996, rfl⟩ := RowOk.form (hM.row (p := (Pl.int .u8)) .z)
  refine TN ?_
  refine wp_seq ?_
  refine wp_region_lit ?_
  refine L1 (stv hA (by decide) (run_move (hA.ev rfl)) ?_)
  clear hA; intro a hA
  refine L1 (stv hA (by decide) (run_assign (hA.ev rfl)) ?_)
  clear hA; intro a hA
  refine LQ ?_
  refine TN ?_
  refine wp_ret ?_
  obtain rfl := Option.some.inj H
  exact ret_post1 (fn := Try.f10) hA rfl rfl ⟨_, rfl, (.slice A995 xs997.length c996), rfl, hM⟩

def ref27_Back.l0 (d_0 : (List Int)) : Nat → Int → Option (Out ((List Int) × Int) (Unit))
  | 0, _ => none
  | k + 1, i280 => (if (decide (i280 < ((d_0.length : Nat) : Int))) = true then (if 0 ≤ i280 ∧ i280 < ((d_0.length : Nat) : Int) then (if (decide ((d_0.getD i280.toNat (0 : Int)) > 31)) = true then (some (.ret (([] : List Int), 5))) else (ref27_Back.l0 d_0 k (IntKind.i64.wrap (i280 + 1)))) else none) else (some (.go ())))
def ref27_Back.l1 (d_0 : (List Int)) : Nat → (List Int) → Int → Option (Out ((List Int) × Int) ((List Int)))
  | 0, _, _ => none
  | k + 1, xs447, i449 => (if (decide (i449 < (IntKind.i64.wrap (5 * ((d_0.length : Nat) : Int))))) = true then (if 0 ≤ (IntKind.i64.wrap (i449.tdiv 5)) ∧ (IntKind.i64.wrap (i449.tdiv 5)) < ((d_0.length : Nat) : Int) then (if 0 ≤ (IntKind.u64.wrap (IntKind.i64.wrap (4 - (i449.tmod 5)))) then (Option.bind (α := Out ((List Int) × Int) ((List Int))) (if (decide (i449 < (IntKind.i64.wrap (8 * (((IntKind.i64.wrap ((IntKind.i64.wrap (5 * ((d_0.length : Nat) : Int))).tdiv 8)).toNat : Nat) : Int))))) = true then (if 0 ≤ (IntKind.i64.wrap (i449.tdiv 8)) ∧ (IntKind.i64.wrap (i449.tdiv 8)) < (((IntKind.i64.wrap ((IntKind.i64.wrap (5 * ((d_0.length : Nat) : Int))).tdiv 8)).toNat : Nat) : Int) then (if 0 ≤ (IntKind.u64.wrap (IntKind.i64.wrap (7 - (i449.tmod 8)))) then (if 0 ≤ (IntKind.i64.wrap (i449.tdiv 8)) ∧ (IntKind.i64.wrap (i449.tdiv 8)) < (((IntKind.i64.wrap ((IntKind.i64.wrap (5 * ((d_0.length : Nat) : Int))).tdiv 8)).toNat : Nat) : Int) then (some (.go (xs447.set (IntKind.i64.wrap (i449.tdiv 8)).toNat (ior .u8 (xs447.getD (IntKind.i64.wrap (i449.tdiv 8)).toNat (0 : Int)) (ishl .u8 (iand .u8 (ishr .u8 (d_0.getD (IntKind.i64.wrap (i449.tdiv 5)).toNat (0 : Int)) (IntKind.u64.wrap (IntKind.i64.wrap (4 - (i449.tmod 5))))) 1) (IntKind.u64.wrap (IntKind.i64.wrap (7 - (i449.tmod 8))))))))) else none) else none) else none) else (if ((iand .u8 (ishr .u8 (d_0.getD (IntKind.i64.wrap (i449.tdiv 5)).toNat (0 : Int)) (IntKind.u64.wrap (IntKind.i64.wrap (4 - (i449.tmod 5))))) 1) != 0) = true then (some (.ret (([] : List Int), 3))) else (some (.go xs447)))) (fun o => match o with | .ret r => some (.ret r) | .go xs481 => (ref27_Back.l1 d_0 k xs481 (IntKind.i64.wrap (i449 + 1))))) else none) else none) else (some (.go xs447)))
def ref27_Back.f (k : Nat) (d_0 : (List Int)) : Option ((List Int) × Int) := (Option.bind (α := Out ((List Int) × Int) (Unit)) (ref27_Back.l0 d_0 k 0) (fun o => match o with | .ret r => some r | .go _ => (if 0 ≤ (IntKind.i64.wrap ((IntKind.i64.wrap (5 * ((d_0.length : Nat) : Int))).tdiv 8)) ∧ (IntKind.i64.wrap ((IntKind.i64.wrap (5 * ((d_0.length : Nat) : Int))).tdiv 8)) * 1 ≤ 140737488355328 then (Option.bind (α := Out ((List Int) × Int) ((List Int))) (ref27_Back.l1 d_0 k (List.replicate ((IntKind.i64.wrap ((IntKind.i64.wrap (5 * ((d_0.length : Nat) : Int))).tdiv 8)).toNat) (0 : Int)) 0) (fun o => match o with | .ret r => some r | .go xs452 => (if (decide ((IntKind.i64.wrap ((IntKind.i64.wrap (5 * ((d_0.length : Nat) : Int))) - (IntKind.i64.wrap (8 * (((IntKind.i64.wrap ((IntKind.i64.wrap (5 * ((d_0.length : Nat) : Int))).tdiv 8)).toNat : Nat) : Int))))) ≥ 5)) = true then (some (([] : List Int), 3)) else (some (xs452, 0))))) else none)))
set_option maxRecDepth 100000 in
theorem ref27_Back.calls (k : Nat) (d_0 : (List Int)) (F : List (Option Nat)) (v0 : Value) (r : ((List Int) × Int)) (w0 : World) (h0 : RoV F (Pl.int .u8) w0 v0 d_0) (hM : Mem F w0 w0 []) (H : ref27_Back.f k d_0 = some r) :
    Calls Try.prog 12 #[v0] w0 fun e w' => ∃ v, e = .returned v ∧ ∃ (ur_0 : Value), v = (.tuple #[ur_0, (.int .i64 r.2)]) ∧ Mem F w0 w' [.row 5 (Pl.int .u8).sz ur_0 ((Pl.int .u8).flat r.1)] := by
  unfold ref27_Back.f at H
  obtain ⟨A0, c0, rfl, hr0, hc0⟩ := h0
  refine enterL (n := 74) [(.slice A0 d_0.length c0)] Try.func12 rfl rfl rfl ?_
  intro a hA
  refine wp_seq ?_
  refine wp_region_lit ?_
  refine L1 (stv hA (by decide) (run_assign (hA.ev rfl)) ?_)
  clear hA; intro a hA
  refine L1 (stv hA (by decide) (run_assign (hA.ev rfl)) ?_)
  clear hA; intro a hA
  refine LQ ?_
  refine TN ?_
  refine wp_seq ?_
  refine wp_seq ?_
  refine wp_region_lit ?_
  refine L1 (stv hA (by decide) (run_assign (hA.ev rfl)) ?_)
  clear hA; intro a hA
  refine LQ ?_
  refine TN ?_
  obtain ⟨o283, H282, H⟩ := Option.bind_eq_some_iff.1 H
  refine cutC (fun a w => (.go ()) = o283 ∧ Mem F w0 w [] ∧ Has 74 [(0, (.slice A0 d_0.length c0))] a) ?_ ?_
  · refine wp_block ?_
    refine wp_loop_ghost (fun m a w => ∃ (i280 : Int), ref27_Back.l0 d_0 m i280 = some o283 ∧ Mem F w0 w [] ∧ Has 74 [(0, (.slice A0 d_0.length c0)), (4, (.int .i64 i280))] a) k ⟨0, H282, hM, ((hA.nil.cons (hA.get 4 _ rfl)).cons (hA.get 0 _ rfl))⟩ ?_
    clear hM hA; rintro m284 a w285 ⟨i280, H282, hM, hA⟩
    cases m284 with
    | zero => exact absurd H282 (by simp [ref27_Back.l0])
    | succ m284 =>
    rw [ref27_Back.l0] at H282
    refine wp_seq ?_
    refine wp_seq ?_
    refine wp_region_lit ?_
    refine L1 (stv hA (by decide) (run_move (hA.ev rfl)) ?_)
    clear hA; intro a hA
    refine L1 (stv hA (by decide) (run_move (hA.ev rfl)) ?_)
    clear hA; intro a hA
    refine L1 (stv hA (by decide) (run_len_slice Try.underlying22 (hA.ev rfl)) ?_)
    clear hA; intro a hA
    refine L1 (stv hA (by decide) (run_bin (hA.ev rfl) (hA.ev rfl) (bin_lss _ _ _ _)) ?_)
    clear hA; intro a hA
    refine LQ ?_
    refine TN ?_
    refine tcond (b := (decide (i280 < ((d_0.length : Nat) : Int)))) hA rfl (fun hb286 => ?_) (fun hb286 => ?_)
    · replace H282 := ite_t hb286 H282
      refine wp_skip ?_
      refine TN ?_
      refine wp_seq ?_
      refine wp_block ?_
      refine wp_seq ?_
      refine wp_region_lit ?_
      refine L1 (stv hA (by decide) (run_move (hA.ev rfl)) ?_)
      clear hA; intro a hA
      refine L1 (stv hA (by decide) (run_move (hA.ev rfl)) ?_)
      clear hA; intro a hA
      obtain ⟨⟨hi287, hj288⟩, H282⟩ := ite_some H282
      obtain ⟨ad289, hq290, hat291⟩ := Row.elem' (p := (Pl.int .u8)) (hM.ro hr0) (Eq.refl d_0.length) (0 : Int) i280 hi287 hj288
      refine L1 (stv hA (by decide) (run_idx Try.underlying22 Try.sizeOf5 (hA.ev rfl) hq290 (hA.ev rfl) hi287 hj288) ?_)
      clear hA; intro a hA
      refine L1 (stv hA (by decide) (run_ld (hA.ev rfl) (run_loadS Try.isAgg5 hat291)) ?_)
      clear hA; intro a hA
      refine L1 (stv hA (by decide) (run_bin (hA.ev rfl) (hA.ev rfl) (bin_gtr _ _ _ _)) ?_)
      clear hA; intro a hA
      refine LQ ?_
      refine TN ?_
      refine tcond (b := (decide ((d_0.getD i280.toNat (0 : Int)) > 31))) hA rfl (fun hb292 => ?_) (fun hb292 => ?_)
      · replace H282 := ite_t hb292 H282
        refine wp_seq ?_
        refine wp_region_lit ?_
        refine L1 (stv hA (by decide) (run_assign (hA.ev rfl)) ?_)
        clear hA; intro a hA
        refine L1 (stv hA (by decide) (run_assign (hA.ev rfl)) ?_)
        clear hA; intro a hA
        refine LQ ?_
        refine TN ?_
        refine wp_ret ?_
        have hM := hM.addnil 5 ((Pl.int .u8)).sz
        obtain rfl := Option.some.inj H282
        dsimp only at H
        obtain rfl := Option.some.inj H
        refine BR ?_
        refine TR ?_
        refine TR ?_
        refine BR ?_
        refine TR ?_
        refine TR ?_
        exact ret_post2 (fn := Try.f12) hA rfl rfl rfl ⟨_, rfl, (.slice none 0 0), rfl, hM⟩
      · replace H282 := ite_f hb292 H282
        refine wp_skip ?_
        refine BN ?_
        refine TN ?_
        refine wp_region_lit ?_
        refine L1 (stv hA (by decide) (run_move (hA.ev rfl)) ?_)
        clear hA; intro a hA
        refine L1 (stv hA (by decide) (run_bin (hA.ev rfl) (hA.ev rfl) (bin_add _ _ _ _)) ?_)
        clear hA; intro a hA
        refine L1 (stv hA (by decide) (run_assign (hA.ev rfl)) ?_)
        clear hA; intro a hA
        refine LQ ?_
        exact ⟨_, Nat.lt_succ_self m284, IntKind.i64.wrap (i280 + 1), H282, hM, ((hA.nil.cons (hA.get 4 _ rfl)).cons (hA.get 0 _ rfl))⟩
    · replace H282 := ite_f hb286 H282
      refine wp_exit ?_
      refine TX ?_
      refine TX ?_
      refine BX ?_
      exact ⟨Option.some.inj H282, hM, (hA.nil.cons (hA.get 0 _ rfl))⟩
  clear hM hA
  rintro a w294 ⟨rfl, hM, hA⟩
  try dsimp only at H
  refine TN ?_
  refine wp_seq ?_
  refine wp_region_lit ?_
  refine L1 (stv hA (by decide) (run_move (hA.ev rfl)) ?_)
  clear hA; intro a hA
  refine L1 (stv hA (by decide) (run_len_slice Try.underlying22 (hA.ev rfl)) ?_)
  clear hA; intro a hA
  refine L1 (stv hA (by decide) (run_bin (hA.ev rfl) (hA.ev rfl) (bin_mul _ _ _ _)) ?_)
  clear hA; intro a hA
  refine L1 (stv hA (by decide) (run_bin (hA.ev rfl) (hA.ev rfl) (bin_quo _ _ _ _ (by decide))) ?_)
  clear hA; intro a hA
  obtain ⟨⟨hi296, hj297⟩, H⟩ := ite_some H
  refine L1 (e_make elt22 rfl hM hA rfl rfl hi296 hj297 (by decide) ?_)
  clear hM hA; intro w298 g295 hM hE a hA
  refine L1 (stv hA (by decide) (run_assign (hA.ev rfl)) ?_)
  clear hA; intro a hA
  refine LQ ?_
  refine TN ?_
  refine wp_seq ?_
  refine wp_seq ?_
  refine wp_region_lit ?_
  refine L1 (stv hA (by decide) (run_assign (hA.ev rfl)) ?_)
  clear hA; intro a hA
  refine LQ ?_
  refine TN ?_
  obtain ⟨o454, H453, H⟩ := Option.bind_eq_some_iff.1 H
  refine cutC (fun a w => ∃ (xs452 : (List Int)), (.go xs452) = o454 ∧ Mem F w0 w [.row 5 (Pl.int .u8).sz (.slice (some ⟨g295, 0, none⟩) ((IntKind.i64.wrap ((IntKind.i64.wrap (5 * ((d_0.length : Nat) : Int))).tdiv 8)).toNat) ((IntKind.i64.wrap ((IntKind.i64.wrap (5 * ((d_0.length : Nat) : Int))).tdiv 8)).toNat)) ((Pl.int .u8).flat xs452)] ∧ Has 74 [(0, (.slice A0 d_0.length c0)), (5, (.slice (some ⟨g295, 0, none⟩) ((IntKind.i64.wrap ((IntKind.i64.wrap (5 * ((d_0.length : Nat) : Int))).tdiv 8)).toNat) ((IntKind.i64.wrap ((IntKind.i64.wrap (5 * ((d_0.length : Nat) : Int))).tdiv 8)).toNat)))] a) ?_ ?_
  · refine wp_block ?_
    refine wp_loop_ghost (fun m a w => ∃ (xs447 : (List Int)) (i449 : Int), ref27_Back.l1 d_0 m xs447 i449 = some o454 ∧ Mem F w0 w [.row 5 (Pl.int .u8).sz (.slice (some ⟨g295, 0, none⟩) ((IntKind.i64.wrap ((IntKind.i64.wrap (5 * ((d_0.length : Nat) : Int))).tdiv 8)).toNat) ((IntKind.i64.wrap ((IntKind.i64.wrap (5 * ((d_0.length : Nat) : Int))).tdiv 8)).toNat)) ((Pl.int .u8).flat xs447)] ∧ Has 74 [(0, (.slice A0 d_0.length c0)), (5, (.slice (some ⟨g295, 0, none⟩) ((IntKind.i64.wrap ((IntKind.i64.wrap (5 * ((d_0.length : Nat) : Int))).tdiv 8)).toNat) ((IntKind.i64.wrap ((IntKind.i64.wrap (5 * ((d_0.length : Nat) : Int))).tdiv 8)).toNat))), (6, (.int .i64 i449))] a) k ⟨(List.replicate ((IntKind.i64.wrap ((IntKind.i64.wrap (5 * ((d_0.length : Nat) : Int))).tdiv 8)).toNat) (0 : Int)), 0, H453, hM, (((hA.nil.cons (hA.get 6 _ rfl)).cons (hA.get 5 _ rfl)).cons (hA.get 0 _ rfl))⟩ ?_
    clear hM hA; rintro m455 a w456 ⟨xs447, i449, H453, hM, hA⟩
    cases m455 with
    | zero => exact absurd H453 (by simp [ref27_Back.l1])
    | succ m455 =>
    rw [ref27_Back.l1] at H453
    refine wp_seq ?_
    refine wp_seq ?_
    refine wp_region_lit ?_
    refine L1 (stv hA (by decide) (run_move (hA.ev rfl)) ?_)
    clear hA; intro a hA
    refine L1 (stv hA (by decide) (run_move (hA.ev rfl)) ?_)
    clear hA; intro a hA
    refine L1 (stv hA (by decide) (run_len_slice Try.underlying22 (hA.ev rfl)) ?_)
    clear hA; intro a hA
    refine L1 (stv hA (by decide) (run_bin (hA.ev rfl) (hA.ev rfl) (bin_mul _ _ _ _)) ?_)
    clear hA; intro a hA
    refine L1 (stv hA (by decide) (run_bin (hA.ev rfl) (hA.ev rfl) (bin_lss _ _ _ _)) ?_)
    clear hA; intro a hA
    refine LQ ?_
    refine TN ?_
    refine tcond (b := (decide (i449 < (IntKind.i64.wrap (5 * ((d_0.length : Nat) : Int)))))) hA rfl (fun hb457 => ?_) (fun hb457 => ?_)
    · replace H453 := ite_t hb457 H453
      refine wp_skip ?_
      refine TN ?_
      refine wp_seq ?_
      refine wp_block ?_
      refine wp_seq ?_
      refine wp_region_lit ?_
      refine L1 (stv hA (by decide) (run_move (hA.ev rfl)) ?_)
      clear hA; intro a hA
      refine L1 (stv hA (by decide) (run_move (hA.ev rfl)) ?_)
      clear hA; intro a hA
      refine L1 (stv hA (by decide) (run_bin (hA.ev rfl) (hA.ev rfl) (bin_quo _ _ _ _ (by decide))) ?_)
      clear hA; intro a hA
      obtain ⟨⟨hi458, hj459⟩, H453⟩ := ite_some H453
      obtain ⟨ad460, hq461, hat462⟩ := Row.elem' (p := (Pl.int .u8)) (hM.ro hr0) (Eq.refl d_0.length) (0 : Int) (IntKind.i64.wrap (i449.tdiv 5)) hi458 hj459
      refine L1 (stv hA (by decide) (run_idx Try.underlying22 Try.sizeOf5 (hA.ev rfl) hq461 (hA.ev rfl) hi458 hj459) ?_)
      clear hA; intro a hA
      refine L1 (stv hA (by decide) (run_ld (hA.ev rfl) (run_loadS Try.isAgg5 hat462)) ?_)
      clear hA; intro a hA
      refine L1 (stv hA (by decide) (run_move (hA.ev rfl)) ?_)
      clear hA; intro a hA
      refine L1 (stv hA (by decide) (run_bin (hA.ev rfl) (hA.ev rfl) (bin_rem _ _ _ _ (by decide))) ?_)
      clear hA; intro a hA
      refine L1 (stv hA (by decide) (run_bin (hA.ev rfl) (hA.ev rfl) (bin_sub _ _ _ _)) ?_)
      clear hA; intro a hA
      refine L1 (stv hA (by decide) (run_conv Try.underlying3 Try.underlying43 (hA.ev rfl)) ?_)
      clear hA; intro a hA
      obtain ⟨hs463, H453⟩ := ite_some H453
      refine L1 (stv hA (by decide) (run_shr (hA.ev rfl) (hA.ev rfl) hs463) ?_)
      clear hA; intro a hA
      refine L1 (stv hA (by decide) (run_bin (hA.ev rfl) (hA.ev rfl) (bin_and _ _ _ _)) ?_)
      clear hA; intro a hA
      refine L1 (stv hA (by decide) (run_assign (hA.ev rfl)) ?_)
      clear hA; intro a hA
      refine LQ ?_
      refine TN ?_
      refine wp_seq ?_
      refine wp_region_lit ?_
      refine L1 (stv hA (by decide) (run_move (hA.ev rfl)) ?_)
      clear hA; intro a hA
      refine L1 (stv hA (by decide) (run_move (hA.ev rfl)) ?_)
      clear hA; intro a hA
      refine L1 (stv hA (by decide) (run_len_slice Try.underlying22 (hA.ev rfl)) ?_)
      clear hA; intro a hA
      refine L1 (stv hA (by decide) (run_bin (hA.ev rfl) (hA.ev rfl) (bin_mul _ _ _ _)) ?_)
      clear hA; intro a hA
      refine L1 (stv hA (by decide) (run_bin (hA.ev rfl) (hA.ev rfl) (bin_lss _ _ _ _)) ?_)
      clear hA; intro a hA
      refine LQ ?_
      refine TN ?_
      obtain ⟨o484, H483, H453⟩ := Option.bind_eq_some_iff.1 H453
      refine cutC (fun a w => ∃ (xs481 : (List Int)), (.go xs481) = o484 ∧ Mem F w0 w [.row 5 (Pl.int .u8).sz (.slice (some ⟨g295, 0, none⟩) ((IntKind.i64.wrap ((IntKind.i64.wrap (5 * ((d_0.length : Nat) : Int))).tdiv 8)).toNat) ((IntKind.i64.wrap ((IntKind.i64.wrap (5 * ((d_0.length : Nat) : Int))).tdiv 8)).toNat)) ((Pl.int .u8).flat xs481)] ∧ Has 74 [(0, (.slice A0 d_0.length c0)), (5, (.slice (some ⟨g295, 0, none⟩) ((IntKind.i64.wrap ((IntKind.i64.wrap (5 * ((d_0.length : Nat) : Int))).tdiv 8)).toNat) ((IntKind.i64.wrap ((IntKind.i64.wrap (5 * ((d_0.length : Nat) : Int))).tdiv 8)).toNat))), (6, (.int .i64 i449))] a) ?_ ?_
      · refine tcond (b := (decide (i449 < (IntKind.i64.wrap (8 * (((IntKind.i64.wrap ((IntKind.i64.wrap (5 * ((d_0.length : Nat) : Int))).tdiv 8)).toNat : Nat) : Int)))))) hA rfl (fun hb485 => ?_) (fun hb485 => ?_)
        · replace H483 := ite_t hb485 H483
          refine wp_region_lit ?_
          refine L1 (stv hA (by decide) (run_move (hA.ev rfl)) ?_)
          clear hA; intro a hA
          refine L1 (stv hA (by decide) (run_move (hA.ev rfl)) ?_)
          clear hA; intro a hA
          refine L1 (stv hA (by decide) (run_bin (hA.ev rfl) (hA.ev rfl) (bin_quo _ _ _ _ (by decide))) ?_)
          clear hA; intro a hA
          refine L1 (stv hA (by decide) (run_move (hA.ev rfl)) ?_)
          clear hA; intro a hA
          refine L1 (stv hA (by decide) (run_move (hA.ev rfl)) ?_)
          clear hA; intro a hA
          refine L1 (stv hA (by decide) (run_bin (hA.ev rfl) (hA.ev rfl) (bin_quo _ _ _ _ (by decide))) ?_)
          clear hA; intro a hA
          obtain ⟨⟨hi486, hj487⟩, H483⟩ := ite_some H483
          obtain ⟨ad488, hq489, hat490⟩ := Row.elem' (p := (Pl.int .u8)) (RowOk.row (hM.row (p := (Pl.int .u8)) .z)) (RowOk.len (hM.row (p := (Pl.int .u8)) .z)) (0 : Int) (IntKind.i64.wrap (i449.tdiv 8)) hi486 hj487
          refine L1 (stv hA (by decide) (run_idx Try.underlying22 Try.sizeOf5 (hA.ev rfl) hq489 (hA.ev rfl) hi486 hj487) ?_)
          clear hA; intro a hA
          refine L1 (stv hA (by decide) (run_ld (hA.ev rfl) (run_loadS Try.isAgg5 hat490)) ?_)
          clear hA; intro a hA
          refine L1 (stv hA (by decide) (run_move (hA.ev rfl)) ?_)
          clear hA; intro a hA
          refine L1 (stv hA (by decide) (run_move (hA.ev rfl)) ?_)
          clear hA; intro a hA
          refine L1 (stv hA (by decide) (run_bin (hA.ev rfl) (hA.ev rfl) (bin_rem _ _ _ _ (by decide))) ?_)
          clear hA; intro a hA
          refine L1 (stv hA (by decide) (run_bin (hA.ev rfl) (hA.ev rfl) (bin_sub _ _ _ _)) ?_)
          clear hA; intro a hA
          refine L1 (stv hA (by decide) (run_conv Try.underlying3 Try.underlying43 (hA.ev rfl)) ?_)
          clear hA; intro a hA
          obtain ⟨hs491, H483⟩ := ite_some H483
          refine L1 (stv hA (by decide) (run_shl (hA.ev rfl) (hA.ev rfl) hs491) ?_)
          clear hA; intro a hA
          refine L1 (stv hA (by decide) (run_bin (hA.ev rfl) (hA.ev rfl) (bin_or _ _ _ _)) ?_)
          clear hA; intro a hA
          obtain ⟨⟨hi492, hj493⟩, H483⟩ := ite_some H483
          obtain ⟨ad494, hq495, hat496⟩ := Row.elem' (p := (Pl.int .u8)) (RowOk.row (hM.row (p := (Pl.int .u8)) .z)) (RowOk.len (hM.row (p := (Pl.int .u8)) .z)) (0 : Int) (IntKind.i64.wrap (i449.tdiv 8)) hi492 hj493
          refine L1 (stv hA (by decide) (run_idx Try.underlying22 Try.sizeOf5 (hA.ev rfl) hq495 (hA.ev rfl) hi492 hj493) ?_)
          clear hA; intro a hA
          refine L1 (e_setrow (x1 := (xs447.getD (IntKind.i64.wrap (i449.tdiv 8)).toNat (0 : Int))) (y1 := ior .u8 (xs447.getD (IntKind.i64.wrap (i449.tdiv 8)).toNat (0 : Int)) (ishl .u8 (iand .u8 (ishr .u8 (d_0.getD (IntKind.i64.wrap (i449.tdiv 5)).toNat (0 : Int)) (IntKind.u64.wrap (IntKind.i64.wrap (4 - (i449.tmod 5))))) 1) (IntKind.u64.wrap (IntKind.i64.wrap (7 - (i449.tmod 8)))))) (off := 0) hM .z Try.sizeOf5 hA rfl rfl hq495 rfl (by first | rfl | simp [Value.cells, Pl.len]) (one_val rfl) hi492 hj493 (getD_getD _ _ _) (by decide) (spl_all (by first | rfl | simp [Value.cells, Pl.len] | (simp only [Value.cells, Pl.len, List.length_cons, List.length_nil]; done))) ?_)
          clear hM hA; intro w497 hM hE a hA
          refine LQ ?_
          exact ⟨(xs447.set (IntKind.i64.wrap (i449.tdiv 8)).toNat (ior .u8 (xs447.getD (IntKind.i64.wrap (i449.tdiv 8)).toNat (0 : Int)) (ishl .u8 (iand .u8 (ishr .u8 (d_0.getD (IntKind.i64.wrap (i449.tdiv 5)).toNat (0 : Int)) (IntKind.u64.wrap (IntKind.i64.wrap (4 - (i449.tmod 5))))) 1) (IntKind.u64.wrap (IntKind.i64.wrap (7 - (i449.tmod 8))))))), Option.some.inj H483, hM, (((hA.nil.cons (hA.get 6 _ rfl)).cons (hA.get 5 _ rfl)).cons (hA.get 0 _ rfl))⟩
        · replace H483 := ite_f hb485 H483
          refine wp_seq ?_
          refine wp_region_lit ?_
          refine L1 (stv hA (by decide) (run_move (hA.ev rfl)) ?_)
          clear hA; intro a hA
          refine L1 (stv hA (by decide) (run_bin (hA.ev rfl) (hA.ev rfl) (bin_neq _ _ _ _)) ?_)
          clear hA; intro a hA
          refine LQ ?_
          refine TN ?_
          refine tcond (b := ((iand .u8 (ishr .u8 (d_0.getD (IntKind.i64.wrap (i449.tdiv 5)).toNat (0 : Int)) (IntKind.u64.wrap (IntKind.i64.wrap (4 - (i449.tmod 5))))) 1) != 0)) hA rfl (fun hb498 => ?_) (fun hb498 => ?_)
          · replace H483 := ite_t hb498 H483
            refine wp_seq ?_
            refine wp_region_lit ?_
            refine L1 (stv hA (by decide) (run_assign (hA.ev rfl)) ?_)
            clear hA; intro a hA
            refine L1 (stv hA (by decide) (run_assign (hA.ev rfl)) ?_)
            clear hA; intro a hA
            refine LQ ?_
            refine TN ?_
            refine wp_ret ?_
            have hM := hM.addnil 5 ((Pl.int .u8)).sz
            obtain rfl := Option.some.inj H483
            dsimp only at H453
            obtain rfl := Option.some.inj H453
            dsimp only at H
            obtain rfl := Option.some.inj H
            refine TR ?_
            refine BR ?_
            refine TR ?_
            refine TR ?_
            refine BR ?_
            refine TR ?_
            refine TR ?_
            exact ret_post2 (fn := Try.f12) hA rfl rfl rfl ⟨_, rfl, (.slice none 0 0), rfl, (hM.sel [0] rfl (by decide))⟩
          · replace H483 := ite_f hb498 H483
            refine wp_skip ?_
            exact ⟨xs447, Option.some.inj H483, hM, (((hA.nil.cons (hA.get 6 _ rfl)).cons (hA.get 5 _ rfl)).cons (hA.get 0 _ rfl))⟩
      clear hM hA
      rintro a w500 ⟨xs481, rfl, hM, hA⟩
      try dsimp only at H453
      refine BN ?_
      refine TN ?_
      refine wp_region_lit ?_
      refine L1 (stv hA (by decide) (run_move (hA.ev rfl)) ?_)
      clear hA; intro a hA
      refine L1 (stv hA (by decide) (run_bin (hA.ev rfl) (hA.ev rfl) (bin_add _ _ _ _)) ?_)
      clear hA; intro a hA
      refine L1 (stv hA (by decide) (run_assign (hA.ev rfl)) ?_)
      clear hA; intro a hA
      refine LQ ?_
      exact ⟨_, Nat.lt_succ_self m455, xs481, IntKind.i64.wrap (i449 + 1), H453, hM, (((hA.nil.cons (hA.get 6 _ rfl)).cons (hA.get 5 _ rfl)).cons (hA.get 0 _ rfl))⟩
    · replace H453 := ite_f hb457 H453
      refine wp_exit ?_
      refine TX ?_
      refine TX ?_
      refine BX ?_
      exact ⟨xs447, Option.some.inj H453, hM, ((hA.nil.cons (hA.get 5 _ rfl)).cons (hA.get 0 _ rfl))⟩
  clear hM hA
  rintro a w501 ⟨xs452, rfl, hM, hA⟩
  try dsimp only at H
  refine TN ?_
  refine wp_seq ?_
  refine wp_seq ?_
  refine wp_region_lit ?_
  refine L1 (stv hA (by decide) (run_move (hA.ev rfl)) ?_)
  clear hA; intro a hA
  refine L1 (stv hA (by decide) (run_len_slice Try.underlying22 (hA.ev rfl)) ?_)
  clear hA; intro a hA
  refine L1 (stv hA (by decide) (run_bin (hA.ev rfl) (hA.ev rfl) (bin_mul _ _ _ _)) ?_)
  clear hA; intro a hA
  refine L1 (stv hA (by decide) (run_move (hA.ev rfl)) ?_)
  clear hA; intro a hA
  refine L1 (stv hA (by decide) (run_len_slice Try.underlying22 (hA.ev rfl)) ?_)
  clear hA; intro a hA
  refine L1 (stv hA (by decide) (run_bin (hA.ev rfl) (hA.ev rfl) (bin_mul _ _ _ _)) ?_)
  clear hA; intro a hA
  refine L1 (stv hA (by decide) (run_bin (hA.ev rfl) (hA.ev rfl) (bin_sub _ _ _ _)) ?_)
  clear hA; intro a hA
  refine L1 (stv hA (by decide) (run_bin (hA.ev rfl) (hA.ev rfl) (bin_geq _ _ _ _)) ?_)
  clear hA; intro a hA
  refine LQ ?_
  refine TN ?_
  refine tcond (b := (decide ((IntKind.i64.wrap ((IntKind.i64.wrap (5 * ((d_0.length : Nat) : Int))) - (IntKind.i64.wrap (8 * (((IntKind.i64.wrap ((IntKind.i64.wrap (5 * ((d_0.length : Nat) : Int))).tdiv 8)).toNat : Nat) : Int))))) ≥ 5))) hA rfl (fun hb502 => ?_) (fun hb502 => ?_)
  · replace H := ite_t hb502 H
    refine wp_seq ?_
    refine wp_region_lit ?_
    refine L1 (stv hA (by decide) (run_assign (hA.ev rfl)) ?_)
    clear hA; intro a hA
    refine L1 (stv hA (by decide) (run_assign (hA.ev rfl)) ?_)
    clear hA; intro a hA
    refine LQ ?_
    refine TN ?_
    refine wp_ret ?_
    have hM := hM.addnil 5 ((Pl.int .u8)).sz
    obtain rfl := Option.some.inj H
    refine TR ?_
    exact ret_post2 (fn := Try.f12) hA rfl rfl rfl ⟨_, rfl, (.slice none 0 0), rfl, (hM.sel [0] rfl (by decide))⟩
  · replace H := ite_f hb502 H
    refine wp_skip ?_
    refine TN ?_
    refine wp_seq ?_
    refine wp_region_lit ?_
    refine L1 (stv hA (by decide) (run_move (hA.ev rfl)) ?_)
    clear hA; intro a hA
    refine L1 (stv hA (by decide) (run_assign (hA.ev rfl)) ?_)
    clear hA; intro a hA
    refine L1 (stv hA (by decide) (run_assign (hA.ev rfl)) ?_)
    clear hA; intro a hA
    refine LQ ?_
    refine TN ?_
    refine wp_ret ?_
    obtain rfl := Option.some.inj H
    exact ret_post2 (fn := Try.f12) hA rfl rfl rfl ⟨_, rfl, (.slice (some ⟨g295, 0, none⟩) ((IntKind.i64.wrap ((IntKind.i64.wrap (5 * ((d_0.length : Nat) : Int))).tdiv 8)).toNat) ((IntKind.i64.wrap ((IntKind.i64.wrap (5 * ((d_0.length : Nat) : Int))).tdiv 8)).toNat)), rfl, hM⟩

def ref01_Same.f (k : Nat) (a_0 : (List Int)) (b_1 : (List Int)) : Option Bool := (some ((ofBytes a_0).toList == (ofBytes b_1).toList))
set_option maxRecDepth 100000 in
theorem ref01_Same.calls (k : Nat) (a_0 : (List Int)) (b_1 : (List Int)) (F : List (Option Nat)) (v0 : Value) (v1 : Value) (r : Bool) (w0 : World) (h0 : RoV F (Pl.int .u8) w0 v0 a_0) (h1 : RoV F (Pl.int .u8) w0 v1 b_1) (hM : Mem F w0 w0 []) (H : ref01_Same.f k a_0 b_1 = some r) :
    Calls Try.prog 13 #[v0, v1] w0 fun e w' => ∃ v, e = .returned v ∧ v = (.bool r) ∧ Mem F w0 w' [] := by
  unfold ref01_Same.f at H
  obtain ⟨A0, c0, rfl, hr0, hc0⟩ := h0
  obtain ⟨A1, c1, rfl, hr1, hc1⟩ := h1
  refine enterL (n := 10) [(.slice A0 a_0.length c0), (.slice A1 b_1.length c1)] Try.func13 rfl rfl rfl ?_
  intro a hA
  refine wp_seq ?_
  refine wp_region_lit ?_
  refine L1 (stv hA (by decide) (run_assign (hA.ev rfl)) ?_)
  clear hA; intro a hA
  refine LQ ?_
  refine TN ?_
  refine wp_seq ?_
  refine wp_region_lit ?_
  refine L1 (stv hA (by decide) (run_move (hA.ev rfl)) ?_)
  clear hA; intro a hA
  refine L1 (stv hA (by decide) (run_bytes2str Try.underlying22 Try.underlying5 Try.underlying9 (hA.ev rfl) (hM.ro hr0) (Eq.refl a_0.length)) ?_)
  clear hA; intro a hA
  refine L1 (stv hA (by decide) (run_move (hA.ev rfl)) ?_)
  clear hA; intro a hA
  refine L1 (stv hA (by decide) (run_bytes2str Try.underlying22 Try.underlying5 Try.underlying9 (hA.ev rfl) (hM.ro hr1) (Eq.refl b_1.length)) ?_)
  clear hA; intro a hA
  refine L1 (stv hA (by decide) (run_eqstr (hA.ev rfl) (hA.ev rfl)) ?_)
  clear hA; intro a hA
  refine L1 (stv hA (by decide) (run_assign (hA.ev rfl)) ?_)
  clear hA; intro a hA
  refine LQ ?_
  refine TN ?_
  refine wp_ret ?_
  obtain rfl := Option.some.inj H
  exact ret_post1 (fn := Try.f13) hA rfl rfl ⟨_, rfl, rfl, hM⟩

def law27_AddressDigits.l0 (d_1 : (List Int)) : Nat → (List Int) → Int → Option ((List Int))
  | 0, _, _ => none
  | k + 1, xs385, t389 => (if (decide (t389 < ((d_1.length : Nat) : Int))) = true then (if 0 ≤ t389 ∧ t389 < ((d_1.length : Nat) : Int) then (if (xs385.length + 1) * 1 ≤ 140737488355328 then (law27_AddressDigits.l0 d_1 k (xs385 ++ [(d_1.getD t389.toNat (0 : Int)).tmod 32]) (IntKind.i64.wrap (t389 + 1))) else none) else none) else (some xs385))
def law27_AddressDigits.f (k : Nat) (b_0 : (List Int)) (d_1 : (List Int)) : Option Bool := ((law27_sane.f k ).bind fun r294 => (if (!r294) = true then (some false) else (Option.bind (α := Bool) (if (decide (((b_0.length : Nat) : Int) > 120)) = true then (some true) else (some (decide (((d_1.length : Nat) : Int) > 200)))) (fun t302 => (if t302 = true then (some true) else (Option.bind (α := (List Int)) (law27_AddressDigits.l0 d_1 k ([] : List Int) 0) (fun xs397 => ((ref27_Convert.f k b_0).bind fun r417 => ((address_Back.f k d_1).bind fun r428 => ((ref27_Back.f k d_1).bind fun r435 => (Option.bind (α := Bool) (if (r428.2 != r435.2) = true then (some true) else ((ref01_Same.f k r428.1 r435.1).bind fun r455 => (some (!r455)))) (fun t451 => (if t451 = true then (some false) else ((address_Back.f k xs397).bind fun r461 => ((ref27_Back.f k xs397).bind fun r468 => (Option.bind (α := Bool) (if (r461.2 != r468.2) = true then (some true) else ((ref01_Same.f k r461.1 r468.1).bind fun r488 => (some (!r488)))) (fun t484 => (if t484 = true then (some false) else ((address_Back.f k r417).bind fun r494 => ((ref27_Back.f k r417).bind fun r501 => (Option.bind (α := Bool) (if (r494.2 != r501.2) = true then (some true) else ((ref01_Same.f k r494.1 r501.1).bind fun r521 => (some (!r521)))) (fun t517 => (if t517 = true then (some false) else ((address_Convert.f k b_0).bind fun r527 => ((ref27_Convert.f k b_0).bind fun r534 => ((ref01_Same.f k r527 r534).bind fun r541 => (some r541)))))))))))))))))))))))))))
set_option maxRecDepth 100000 in
theorem law27_AddressDigits.calls (k : Nat) (b_0 : (List Int)) (d_1 : (List Int)) (F : List (Option Nat)) (v0 : Value) (v1 : Value) (r : Bool) (w0 : World) (h0 : RoV F (Pl.int .u8) w0 v0 b_0) (h1 : RoV F (Pl.int .u8) w0 v1 d_1) (hM : Mem F w0 w0 []) (H : law27_AddressDigits.f k b_0 d_1 = some r) :
    Calls Try.prog 3 #[v0, v1] w0 fun e w' => ∃ v, e = .returned v ∧ v = (.bool r) ∧ Mem F w0 w' [] := by
  unfold law27_AddressDigits.f at H
  obtain ⟨A0, c0, rfl, hr0, hc0⟩ := h0
  obtain ⟨A1, c1, rfl, hr1, hc1⟩ := h1
  refine enterL (n := 71) [(.slice A0 b_0.length c0), (.slice A1 d_1.length c1)] Try.func3 rfl rfl rfl ?_
  intro a hA
  refine wp_seq ?_
  refine wp_region_lit ?_
  refine L1 (stv hA (by decide) (run_assign (hA.ev rfl)) ?_)
  clear hA; intro a hA
  refine LQ ?_
  refine TN ?_
  refine wp_seq ?_
  refine wp_seq ?_
  refine wp_region_lit ?_
  obtain ⟨r294, H295, H⟩ := Option.bind_eq_some_iff.1 H
  refine L1 (st_call Try.call9 hA [] rfl (by decide) (law27_sane.calls _ _ _ _ (hM.front (Ms := [])) H295) ?_)
  clear hA; rintro _ w296 ⟨rfl, hMc⟩ a hA
  have hE := hMc.below; have hM := hM.call (Ms := []) hMc
  clear hMc; simp only [List.cons_append, List.nil_append] at hM
  refine L1 (stv hA (by decide) (run_not (hA.ev rfl)) ?_)
  clear hA; intro a hA
  refine LQ ?_
  refine TN ?_
  refine tcond (b := (!r294)) hA rfl (fun hb297 => ?_) (fun hb297 => ?_)
  · replace H := ite_t hb297 H
    refine wp_seq ?_
    refine wp_region_lit ?_
    refine L1 (stv hA (by decide) (run_assign (hA.ev rfl)) ?_)
    clear hA; intro a hA
    refine LQ ?_
    refine TN ?_
    refine wp_ret ?_
    obtain rfl := Option.some.inj H
    refine TR ?_
    exact ret_post1 (fn := Try.f3) hA rfl rfl ⟨_, rfl, rfl, hM⟩
  · replace H := ite_f hb297 H
    refine wp_skip ?_
    refine TN ?_
    refine wp_seq ?_
    refine wp_seq ?_
    obtain ⟨o304, H303, H⟩ := Option.bind_eq_some_iff.1 H
    refine cutC (fun a w => ∃ (t302 : Bool), t302 = o304 ∧ Mem F w0 w [] ∧ Has 71 [(0, (.slice A0 b_0.length c0)), (1, (.slice A1 d_1.length c1)), (23, (.bool t302))] a) ?_ ?_
    · refine wp_region_lit ?_
      refine L1 (stv hA (by decide) (run_move (hA.ev rfl)) ?_)
      clear hA; intro a hA
      refine L1 (stv hA (by decide) (run_len_slice Try.underlying22 (hA.ev rfl)) ?_)
      clear hA; intro a hA
      refine L1 (stv hA (by decide) (run_bin (hA.ev rfl) (hA.ev rfl) (bin_gtr _ _ _ _)) ?_)
      clear hA; intro a hA
      refine L1 (stv hA (by decide) (run_move (hA.ev rfl)) ?_)
      clear hA; intro a hA
      refine bsplit (b := (decide (((b_0.length : Nat) : Int) > 120))) (fun hb305 => ?_) (fun hb305 => ?_)
      · replace H303 := ite_t hb305 H303
        have hA := hA.re (t := 19) rfl (congrArg Value.bool hb305)
        refine L1 (gate_off rfl (by decide) rfl hA (by decide) rfl rfl ?_); clear hA; intro a hA
        refine L1 (gate_off rfl (by decide) rfl hA (by decide) rfl rfl ?_); clear hA; intro a hA
        refine L1 (gate_off rfl (by decide) rfl hA (by decide) rfl rfl ?_); clear hA; intro a hA
        refine L1 (stv hA (by decide) (run_pick (hA.ev rfl) (fun _ => hA.ev rfl) (fun h => Bool.noConfusion h)) ?_)
        clear hA; intro a hA
        refine LQ ?_
        exact ⟨true, Option.some.inj H303, hM, (((hA.nil.cons (hA.get 23 _ rfl)).cons (hA.get 1 _ rfl)).cons (hA.get 0 _ rfl))⟩
      · replace H303 := ite_f hb305 H303
        have hA := hA.re (t := 19) rfl (congrArg Value.bool hb305)
        refine L1 (gate_on rfl rfl hA (by decide) rfl (stv hA (by decide) (run_move (hA.ev rfl)) ?_))
        clear hA; intro a hA
        refine L1 (gate_on rfl rfl hA (by decide) rfl (stv hA (by decide) (run_len_slice Try.underlying22 (hA.ev rfl)) ?_))
        clear hA; intro a hA
        refine L1 (gate_on rfl rfl hA (by decide) rfl (stv hA (by decide) (run_bin (hA.ev rfl) (hA.ev rfl) (bin_gtr _ _ _ _)) ?_))
        clear hA; intro a hA
        refine L1 (stv hA (by decide) (run_pick (hA.ev rfl) (fun h => Bool.noConfusion h) (fun _ => hA.ev rfl)) ?_)
        clear hA; intro a hA
        refine LQ ?_
        exact ⟨(decide (((d_1.length : Nat) : Int) > 200)), Option.some.inj H303, hM, (((hA.nil.cons (hA.get 23 _ rfl)).cons (hA.get 1 _ rfl)).cons (hA.get 0 _ rfl))⟩
    clear hM hA
    rintro a w306 ⟨t302, rfl, hM, hA⟩
    try dsimp only at H
    refine TN ?_
    refine tcond (b := t302) hA rfl (fun hb307 => ?_) (fun hb307 => ?_)
    · replace H := ite_t hb307 H
      refine wp_seq ?_
      refine wp_region_lit ?_
      refine L1 (stv hA (by decide) (run_assign (hA.ev rfl)) ?_)
      clear hA; intro a hA
      refine LQ ?_
      refine TN ?_
      refine wp_ret ?_
      obtain rfl := Option.some.inj H
      refine TR ?_
      exact ret_post1 (fn := Try.f3) hA rfl rfl ⟨_, rfl, rfl, hM⟩
    · replace H := ite_f hb307 H
      refine wp_skip ?_
      refine TN ?_
      refine wp_seq ?_
      refine wp_region_lit ?_
      refine L1 (stv hA (by decide) (run_assign (hA.ev rfl)) ?_)
      clear hA; intro a hA
      refine LQ ?_
      refine TN ?_
      refine wp_seq ?_
      refine wp_seq ?_
      refine wp_region_lit ?_
      refine L1 (stv hA (by decide) (run_move (hA.ev rfl)) ?_)
      clear hA; intro a hA
      refine L1 (stv hA (by decide) (run_len_slice Try.underlying22 (hA.ev rfl)) ?_)
      clear hA; intro a hA
      refine L1 (stv hA (by decide) (run_move (hA.ev rfl)) ?_)
      clear hA; intro a hA
      refine LQ ?_
      refine TN ?_
      obtain ⟨o399, H398, H⟩ := Option.bind_eq_some_iff.1 H
      refine cutC (fun a w => ∃ (xs397 : (List Int)) (v394 : Value), xs397 = o399 ∧ Mem F w0 w [.row 5 (Pl.int .u8).sz v394 ((Pl.int .u8).flat xs397)] ∧ Has 71 [(0, (.slice A0 b_0.length c0)), (1, (.slice A1 d_1.length c1)), (5, v394)] a) ?_ ?_
      · refine wp_block ?_
        have hM := hM.addnil 5 ((Pl.int .u8)).sz
        refine wp_loop_ghost (fun m a w => ∃ (xs385 : (List Int)) (t389 : Int) (v382 : Value), law27_AddressDigits.l0 d_1 m xs385 t389 = some o399 ∧ Mem F w0 w [.row 5 (Pl.int .u8).sz v382 ((Pl.int .u8).flat xs385)] ∧ Has 71 [(0, (.slice A0 b_0.length c0)), (1, (.slice A1 d_1.length c1)), (5, v382), (24, (.slice A1 d_1.length c1)), (25, (.int .i64 ((d_1.length : Nat) : Int))), (26, (.int .i64 t389))] a) k ⟨([] : List Int), 0, (.slice none 0 0), H398, hM, ((((((hA.nil.cons (hA.get 26 _ rfl)).cons (hA.get 25 _ rfl)).cons (hA.get 24 _ rfl)).cons (hA.get 5 _ rfl)).cons (hA.get 1 _ rfl)).cons (hA.get 0 _ rfl))⟩ ?_
        clear hM hA; rintro m401 a w402 ⟨xs385, t389, v382, H398, hM, hA⟩
        cases m401 with
        | zero => exact absurd H398 (by simp [law27_AddressDigits.l0])
        | succ m401 =>
        rw [law27_AddressDigits.l0] at H398
        obtain ⟨A383, c384, rfl⟩ := RowOk.form (hM.row (p := (Pl.int .u8)) .z)
        refine wp_seq ?_
        refine wp_region_lit ?_
        refine L1 (stv hA (by decide) (run_bin (hA.ev rfl) (hA.ev rfl) (bin_lss _ _ _ _)) ?_)
        clear hA; intro a hA
        refine LQ ?_
        refine TN ?_
        refine wp_seq ?_
        refine tcond (b := (decide (t389 < ((d_1.length : Nat) : Int)))) hA rfl (fun hb403 => ?_) (fun hb403 => ?_)
        · replace H398 := ite_t hb403 H398
          refine wp_skip ?_
          refine TN ?_
          refine wp_seq ?_
          refine wp_block ?_
          refine wp_seq ?_
          refine wp_region_lit ?_
          obtain ⟨⟨hi404, hj405⟩, H398⟩ := ite_some H398
          obtain ⟨ad406, hq407, hat408⟩ := Row.elem' (p := (Pl.int .u8)) (hM.ro hr1) (Eq.refl d_1.length) (0 : Int) t389 hi404 hj405
          refine L1 (stv hA (by decide) (run_idx Try.underlying22 Try.sizeOf5 (hA.ev rfl) hq407 (hA.ev rfl) hi404 hj405) ?_)
          clear hA; intro a hA
          refine L1 (stv hA (by decide) (run_ld (hA.ev rfl) (run_loadS Try.isAgg5 hat408)) ?_)
          clear hA; intro a hA
          refine L1 (stv hA (by decide) (run_assign (hA.ev rfl)) ?_)
          clear hA; intro a hA
          refine LQ ?_
          refine TN ?_
          refine wp_region_lit ?_
          refine L1 (stv hA (by decide) (run_move (hA.ev rfl)) ?_)
          clear hA; intro a hA
          refine L1 (stv hA (by decide) (run_move (hA.ev rfl)) ?_)
          clear hA; intro a hA
          refine L1 (stv hA (by decide) (run_bin (hA.ev rfl) (hA.ev rfl) (bin_rem _ _ _ _ (by decide))) ?_)
          clear hA; intro a hA
          refine L1 (e_litN [(d_1.getD t389.toNat (0 : Int)).tmod 32] [(.int .u8 ((d_1.getD t389.toNat (0 : Int)).tmod 32))] elt22 hM rfl (by decide) hA rfl rfl (List.cons_ne_nil _ _) (by decide) ?_)
          clear hM hA; intro w410 g409 hM hE a hA
          obtain ⟨hl414, H398⟩ := ite_some H398
          refine L1 (e_append elt22 hM (fun _ => (.s .z)) (Src.row Try.underlying22 (RowOk.row (hM.row (p := (Pl.int .u8)) .z)) (RowOk.len (hM.row (p := (Pl.int .u8)) .z))) hl414 hA rfl rfl (by decide) ?_)
          clear hM hA; intro w415 A412 c413 hM hE a hA
          refine L1 (stv hA (by decide) (run_assign (hA.ev rfl)) ?_)
          clear hA; intro a hA
          refine LQ ?_
          refine BN ?_
          refine TN ?_
          refine wp_region_lit ?_
          refine L1 (stv hA (by decide) (run_bin (hA.ev rfl) (hA.ev rfl) (bin_add _ _ _ _)) ?_)
          clear hA; intro a hA
          refine L1 (stv hA (by decide) (run_move (hA.ev rfl)) ?_)
          clear hA; intro a hA
          refine LQ ?_
          exact ⟨_, Nat.lt_succ_self m401, (xs385 ++ [(d_1.getD t389.toNat (0 : Int)).tmod 32]), IntKind.i64.wrap (t389 + 1), (.slice A412 (xs385.length + 1) c413), H398, (hM.sel [1] rfl (by decide)), ((((((hA.nil.cons (hA.get 26 _ rfl)).cons (hA.get 25 _ rfl)).cons (hA.get 24 _ rfl)).cons (hA.get 5 _ rfl)).cons (hA.get 1 _ rfl)).cons (hA.get 0 _ rfl))⟩
        · replace H398 := ite_f hb403 H398
          refine wp_exit ?_
          refine TX ?_
          refine TX ?_
          refine BX ?_
          exact ⟨xs385, (.slice A383 xs385.length c384), Option.some.inj H398, hM, (((hA.nil.cons (hA.get 5 _ rfl)).cons (hA.get 1 _ rfl)).cons (hA.get 0 _ rfl))⟩
      clear hM hA
      rintro a w416 ⟨xs397, v394, rfl, hM, hA⟩
      try dsimp only at H
      obtain ⟨A395, c396, rfl⟩ := RowOk.form (hM.row (p := (Pl.int .u8)) .z)
      refine TN ?_
      refine wp_seq ?_
      refine wp_seq ?_
      refine wp_region_lit ?_
      refine L1 (stv hA (by decide) (run_move (hA.ev rfl)) ?_)
      clear hA; intro a hA
      refine L1 (stv hA (by decide) (run_move (hA.ev rfl)) ?_)
      clear hA; intro a hA
      refine L1 (stv hA (by decide) (run_move (hA.ev rfl)) ?_)
      clear hA; intro a hA
      obtain ⟨r417, H418, H⟩ := Option.bind_eq_some_iff.1 H
      refine L1 (st_call Try.call10 hA [(.slice A0 b_0.length c0)] rfl (by decide) (ref27_Convert.calls _ _ _ _ _ _ ((RoV.mk (hM.roC (Ms := []) hr0) (Eq.refl b_0.length) hc0)) (hM.front (Ms := [])) H418) ?_)
      clear hA; rintro _ w419 ⟨v420, rfl, hMc⟩ a hA
      have hE := hMc.below; have hM := hM.call (Ms := []) hMc
      clear hMc; simp only [List.cons_append, List.nil_append] at hM
      obtain ⟨A422, c423, rfl⟩ := RowOk.form (hM.row (p := (Pl.int .u8)) .z)
      refine L1 (e_litW (cs := (List.flatten [[(.slice A1 d_1.length c1)], [(.slice A395 xs397.length c396)], [(.slice A422 r417.length c423)]])) [(.slice A1 d_1.length c1), (.slice A395 xs397.length c396), (.slice A422 r417.length c423)] Try.underlying25 zero22 Try.sizeOf22 hM rfl rfl rfl hA rfl (by simp [Value.cells, Pl.len]) (by simp [Value.cells]) (by decide) ?_)
      clear hM hA; intro w425 g424 hM hE a hA
      refine L1 (stv hA (by decide) (run_len_slice Try.underlying25 (hA.ev rfl)) ?_)
      clear hA; intro a hA
      refine L1 (stv hA (by decide) (run_move (hA.ev rfl)) ?_)
      clear hA; intro a hA
      refine LQ ?_
      refine TN ?_
      refine wp_block ?_; refine wp_loop_rounds 40 ?_; refine rounds_s ?_
      refine wp_seq ?_
      refine wp_region_lit ?_
      refine L1 (stv hA (by decide) (run_bin (hA.ev rfl) (hA.ev rfl) (bin_lss _ _ _ _)) ?_)
      clear hA; intro a hA
      refine LQ ?_
      refine TN ?_
      refine wp_seq ?_
      refine tcond_t hA rfl ?_
      refine wp_skip ?_
      refine TN ?_
      refine wp_seq ?_
      refine wp_block ?_
      refine wp_seq ?_
      refine wp_region_lit ?_
      refine L1 (stv hA (by decide) (run_idx Try.underlying25 Try.sizeOf22 (hA.ev rfl) rfl (hA.ev rfl) (by decide) (by decide)) ?_)
      clear hA; intro a hA
      refine L1 (stv hA (by decide) (run_ld (hA.ev rfl) (run_loadS Try.isAgg22 (At.seg (segs := [[(.slice A1 d_1.length c1)], [(.slice A395 xs397.length c396)], [(.slice A422 r417.length c423)]]) (hM.box .z) 0 rfl rfl))) ?_)
      clear hA; intro a hA
      refine L1 (stv hA (by decide) (run_assign (hA.ev rfl)) ?_)
      clear hA; intro a hA
      refine LQ ?_
      refine TN ?_
      refine wp_seq ?_
      refine wp_region_lit ?_
      refine L1 (stv hA (by decide) (run_move (hA.ev rfl)) ?_)
      clear hA; intro a hA
      obtain ⟨r428, H429, H⟩ := Option.bind_eq_some_iff.1 H
      refine L1 (st_call Try.call11 hA [(.slice A1 d_1.length c1)] rfl (by decide) (address_Back.calls _ _ _ _ _ _ ((RoV.mk (hM.roC (Ms := []) hr1) (Eq.refl d_1.length) hc1)) (hM.front (Ms := [])) H429) ?_)
      clear hA; rintro _ w430 ⟨v431, rfl, hMc⟩ a hA
      have hE := hMc.below; have hM := hM.call (Ms := []) hMc
      clear hMc; simp only [List.cons_append, List.nil_append] at hM
      obtain ⟨A433, c434, rfl⟩ := RowOk.form (hM.row (p := (Pl.int .u8)) .z)
      refine L1 (stv hA (by decide) (run_move (hA.ev rfl)) ?_)
      clear hA; intro a hA
      refine L1 (stv hA (by decide) (run_ext (hA.ev rfl) rfl) ?_)
      clear hA; intro a hA
      refine L1 (stv hA (by decide) (run_ext (hA.ev rfl) rfl) ?_)
      clear hA; intro a hA
      refine L1 (stv hA (by decide) (run_assign (hA.ev rfl)) ?_)
      clear hA; intro a hA
      refine L1 (stv hA (by decide) (run_assign (hA.ev rfl)) ?_)
      clear hA; intro a hA
      refine LQ ?_
      refine TN ?_
      refine wp_seq ?_
      refine wp_region_lit ?_
      refine L1 (stv hA (by decide) (run_move (hA.ev rfl)) ?_)
      clear hA; intro a hA
      obtain ⟨r435, H436, H⟩ := Option.bind_eq_some_iff.1 H
      refine L1 (st_call Try.call12 hA [(.slice A1 d_1.length c1)] rfl (by decide) (ref27_Back.calls _ _ _ _ _ _ ((RoV.mk (hM.roC (Ms := []) hr1) (Eq.refl d_1.length) hc1)) (hM.front (Ms := [])) H436) ?_)
      clear hA; rintro _ w437 ⟨v438, rfl, hMc⟩ a hA
      have hE := hMc.below; have hM := hM.call (Ms := []) hMc
      clear hMc; simp only [List.cons_append, List.nil_append] at hM
      obtain ⟨A440, c441, rfl⟩ := RowOk.form (hM.row (p := (Pl.int .u8)) .z)
      refine L1 (stv hA (by decide) (run_move (hA.ev rfl)) ?_)
      clear hA; intro a hA
      refine L1 (stv hA (by decide) (run_ext (hA.ev rfl) rfl) ?_)
      clear hA; intro a hA
      refine L1 (stv hA (by decide) (run_ext (hA.ev rfl) rfl) ?_)
      clear hA; intro a hA
      refine L1 (stv hA (by decide) (run_assign (hA.ev rfl)) ?_)
      clear hA; intro a hA
      refine L1 (stv hA (by decide) (run_assign (hA.ev rfl)) ?_)
      clear hA; intro a hA
      refine LQ ?_
      refine TN ?_
      refine wp_seq ?_
      obtain ⟨o453, H452, H⟩ := Option.bind_eq_some_iff.1 H
      refine cutC (fun a w => ∃ (t451 : Bool), t451 = o453 ∧ Mem F w0 w [.box g424 22 (List.flatten [[(.slice A1 d_1.length c1)], [(.slice A395 xs397.length c396)], [(.slice A422 r417.length c423)]]), .row 5 (Pl.int .u8).sz (.slice A395 xs397.length c396) ((Pl.int .u8).flat xs397), .row 5 (Pl.int .u8).sz (.slice A422 r417.length c423) ((Pl.int .u8).flat r417)] ∧ Has 71 [(0, (.slice A0 b_0.length c0)), (40, (.slice (some ⟨g424, 0, none⟩) 3 3)), (41, (.int .i64 3)), (42, (.int .i64 0)), (64, (.bool t451))] a) ?_ ?_
      · refine wp_region_lit ?_
        refine L1 (stv hA (by decide) (run_move (hA.ev rfl)) ?_)
        clear hA; intro a hA
        refine L1 (stv hA (by decide) (run_move (hA.ev rfl)) ?_)
        clear hA; intro a hA
        refine L1 (stv hA (by decide) (run_bin (hA.ev rfl) (hA.ev rfl) (bin_neq _ _ _ _)) ?_)
        clear hA; intro a hA
        refine L1 (stv hA (by decide) (run_move (hA.ev rfl)) ?_)
        clear hA; intro a hA
        refine bsplit (b := (r428.2 != r435.2)) (fun hb454 => ?_) (fun hb454 => ?_)
        · replace H452 := ite_t hb454 H452
          have hA := hA.re (t := 59) rfl (congrArg Value.bool hb454)
          refine L1 (gate_off rfl (by decide) rfl hA (by decide) rfl rfl ?_); clear hA; intro a hA
          refine L1 (gate_off rfl (by decide) rfl hA (by decide) rfl rfl ?_); clear hA; intro a hA
          refine L1 (gate_off rfl (by decide) rfl hA (by decide) rfl rfl ?_); clear hA; intro a hA
          refine L1 (gate_off rfl (by decide) rfl hA (by decide) rfl rfl ?_); clear hA; intro a hA
          refine L1 (stv hA (by decide) (run_pick (hA.ev rfl) (fun _ => hA.ev rfl) (fun h => Bool.noConfusion h)) ?_)
          clear hA; intro a hA
          refine LQ ?_
          exact ⟨true, Option.some.inj H452, (hM.sel [2, 4, 3] rfl (by decide)), (((((hA.nil.cons (hA.get 64 _ rfl)).cons (hA.get 42 _ rfl)).cons (hA.get 41 _ rfl)).cons (hA.get 40 _ rfl)).cons (hA.get 0 _ rfl))⟩
        · replace H452 := ite_f hb454 H452
          have hA := hA.re (t := 59) rfl (congrArg Value.bool hb454)
          refine L1 (gate_on rfl rfl hA (by decide) rfl (stv hA (by decide) (run_move (hA.ev rfl)) ?_))
          clear hA; intro a hA
          refine L1 (gate_on rfl rfl hA (by decide) rfl (stv hA (by decide) (run_move (hA.ev rfl)) ?_))
          clear hA; intro a hA
          obtain ⟨r455, H456, H452⟩ := Option.bind_eq_some_iff.1 H452
          refine L1 (gate_on rfl rfl hA (by decide) rfl (st_call Try.call13 hA [(.slice A433 r428.1.length c434), (.slice A440 r435.1.length c441)] rfl (by decide) (ref01_Same.calls _ _ _ _ _ _ _ _ ((RoV.mk (hM.rowC (p := (Pl.int .u8)) (Ms := []) (.s .z)) (RowOk.len (hM.row (p := (Pl.int .u8)) (.s .z))) (RowOk.cap (hM.row (p := (Pl.int .u8)) (.s .z))))) ((RoV.mk (hM.rowC (p := (Pl.int .u8)) (Ms := []) .z) (RowOk.len (hM.row (p := (Pl.int .u8)) .z)) (RowOk.cap (hM.row (p := (Pl.int .u8)) .z)))) (hM.front (Ms := [])) H456) ?_))
          clear hA; rintro _ w457 ⟨rfl, hMc⟩ a hA
          have hE := hMc.below; have hM := hM.call (Ms := []) hMc
          clear hMc; simp only [List.cons_append, List.nil_append] at hM
          refine L1 (gate_on rfl rfl hA (by decide) rfl (stv hA (by decide) (run_not (hA.ev rfl)) ?_))
          clear hA; intro a hA
          refine L1 (stv hA (by decide) (run_pick (hA.ev rfl) (fun h => Bool.noConfusion h) (fun _ => hA.ev rfl)) ?_)
          clear hA; intro a hA
          refine LQ ?_
          exact ⟨(!r455), Option.some.inj H452, (hM.sel [2, 4, 3] rfl (by decide)), (((((hA.nil.cons (hA.get 64 _ rfl)).cons (hA.get 42 _ rfl)).cons (hA.get 41 _ rfl)).cons (hA.get 40 _ rfl)).cons (hA.get 0 _ rfl))⟩
      clear hM hA
      rintro a w458 ⟨t451, rfl, hM, hA⟩
      try dsimp only at H
      refine TN ?_
      refine tcond (b := t451) hA rfl (fun hb459 => ?_) (fun hb459 => ?_)
      · replace H := ite_t hb459 H
        refine wp_seq ?_
        refine wp_region_lit ?_
        refine L1 (stv hA (by decide) (run_assign (hA.ev rfl)) ?_)
        clear hA; intro a hA
        refine LQ ?_
        refine TN ?_
        refine wp_ret ?_
        obtain rfl := Option.some.inj H
        refine BR ?_
        refine TR ?_
        refine TR ?_
        refine BR ?_
        refine TR ?_
        exact ret_post1 (fn := Try.f3) hA rfl rfl ⟨_, rfl, rfl, (hM.sel [] rfl (by decide))⟩
      · replace H := ite_f hb459 H
        refine wp_skip ?_
        refine BN ?_
        refine TN ?_
        refine wp_region_lit ?_
        refine L1 (stv hA (by decide) (run_bin (hA.ev rfl) (hA.ev rfl) (bin_add _ _ _ _)) ?_)
        clear hA; intro a hA
        refine L1 (stv hA (by decide) (run_move (hA.ev rfl)) ?_)
        clear hA; intro a hA
        refine LQ ?_
        refine TN ?_; refine rounds_s ?_
        refine wp_seq ?_
        refine wp_region_lit ?_
        refine L1 (stv hA (by decide) (run_bin (hA.ev rfl) (hA.ev rfl) (bin_lss _ _ _ _)) ?_)
        clear hA; intro a hA
        refine LQ ?_
        refine TN ?_
        refine wp_seq ?_
        refine tcond_t hA rfl ?_
        refine wp_skip ?_
        refine TN ?_
        refine wp_seq ?_
        refine wp_block ?_
        refine wp_seq ?_
        refine wp_region_lit ?_
        refine L1 (stv hA (by decide) (run_idx Try.underlying25 Try.sizeOf22 (hA.ev rfl) rfl (hA.ev rfl) (by decide) (by decide)) ?_)
        clear hA; intro a hA
        refine L1 (stv hA (by decide) (run_ld (hA.ev rfl) (run_loadS Try.isAgg22 (At.seg (segs := [[(.slice A1 d_1.length c1)], [(.slice A395 xs397.length c396)], [(.slice A422 r417.length c423)]]) (hM.box .z) 1 rfl rfl))) ?_)
        clear hA; intro a hA
        refine L1 (stv hA (by decide) (run_assign (hA.ev rfl)) ?_)
        clear hA; intro a hA
        refine LQ ?_
        refine TN ?_
        refine wp_seq ?_
        refine wp_region_lit ?_
        refine L1 (stv hA (by decide) (run_move (hA.ev rfl)) ?_)
        clear hA; intro a hA
        obtain ⟨r461, H462, H⟩ := Option.bind_eq_some_iff.1 H
        refine L1 (st_call Try.call11 hA [(.slice A395 xs397.length c396)] rfl (by decide) (address_Back.calls _ _ _ _ _ _ ((RoV.mk (hM.rowC (p := (Pl.int .u8)) (Ms := []) (.s .z)) (RowOk.len (hM.row (p := (Pl.int .u8)) (.s .z))) (RowOk.cap (hM.row (p := (Pl.int .u8)) (.s .z))))) (hM.front (Ms := [])) H462) ?_)
        clear hA; rintro _ w463 ⟨v464, rfl, hMc⟩ a hA
        have hE := hMc.below; have hM := hM.call (Ms := []) hMc
        clear hMc; simp only [List.cons_append, List.nil_append] at hM
        obtain ⟨A466, c467, rfl⟩ := RowOk.form (hM.row (p := (Pl.int .u8)) .z)
        refine L1 (stv hA (by decide) (run_move (hA.ev rfl)) ?_)
        clear hA; intro a hA
        refine L1 (stv hA (by decide) (run_ext (hA.ev rfl) rfl) ?_)
        clear hA; intro a hA
        refine L1 (stv hA (by decide) (run_ext (hA.ev rfl) rfl) ?_)
        clear hA; intro a hA
        refine L1 (stv hA (by decide) (run_assign (hA.ev rfl)) ?_)
        clear hA; intro a hA
        refine L1 (stv hA (by decide) (run_assign (hA.ev rfl)) ?_)
        clear hA; intro a hA
        refine LQ ?_
        refine TN ?_
        refine wp_seq ?_
        refine wp_region_lit ?_
        refine L1 (stv hA (by decide) (run_move (hA.ev rfl)) ?_)
        clear hA; intro a hA
        obtain ⟨r468, H469, H⟩ := Option.bind_eq_some_iff.1 H
        refine L1 (st_call Try.call12 hA [(.slice A395 xs397.length c396)] rfl (by decide) (ref27_Back.calls _ _ _ _ _ _ ((RoV.mk (hM.rowC (p := (Pl.int .u8)) (Ms := []) (.s (.s .z))) (RowOk.len (hM.row (p := (Pl.int .u8)) (.s (.s .z)))) (RowOk.cap (hM.row (p := (Pl.int .u8)) (.s (.s .z)))))) (hM.front (Ms := [])) H469) ?_)
        clear hA; rintro _ w470 ⟨v471, rfl, hMc⟩ a hA
        have hE := hMc.below; have hM := hM.call (Ms := []) hMc
        clear hMc; simp only [List.cons_append, List.nil_append] at hM
        obtain ⟨A473, c474, rfl⟩ := RowOk.form (hM.row (p := (Pl.int .u8)) .z)
        refine L1 (stv hA (by decide) (run_move (hA.ev rfl)) ?_)
        clear hA; intro a hA
        refine L1 (stv hA (by decide) (run_ext (hA.ev rfl) rfl) ?_)
        clear hA; intro a hA
        refine L1 (stv hA (by decide) (run_ext (hA.ev rfl) rfl) ?_)
        clear hA; intro a hA
        refine L1 (stv hA (by decide) (run_assign (hA.ev rfl)) ?_)
        clear hA; intro a hA
        refine L1 (stv hA (by decide) (run_assign (hA.ev rfl)) ?_)
        clear hA; intro a hA
        refine LQ ?_
        refine TN ?_
        refine wp_seq ?_
        obtain ⟨o486, H485, H⟩ := Option.bind_eq_some_iff.1 H
        refine cutC (fun a w => ∃ (t484 : Bool), t484 = o486 ∧ Mem F w0 w [.box g424 22 (List.flatten [[(.slice A1 d_1.length c1)], [(.slice A395 xs397.length c396)], [(.slice A422 r417.length c423)]]), .row 5 (Pl.int .u8).sz (.slice A395 xs397.length c396) ((Pl.int .u8).flat xs397), .row 5 (Pl.int .u8).sz (.slice A422 r417.length c423) ((Pl.int .u8).flat r417)] ∧ Has 71 [(0, (.slice A0 b_0.length c0)), (40, (.slice (some ⟨g424, 0, none⟩) 3 3)), (41, (.int .i64 3)), (42, (.int .i64 1)), (64, (.bool t484))] a) ?_ ?_
        · refine wp_region_lit ?_
          refine L1 (stv hA (by decide) (run_move (hA.ev rfl)) ?_)
          clear hA; intro a hA
          refine L1 (stv hA (by decide) (run_move (hA.ev rfl)) ?_)
          clear hA; intro a hA
          refine L1 (stv hA (by decide) (run_bin (hA.ev rfl) (hA.ev rfl) (bin_neq _ _ _ _)) ?_)
          clear hA; intro a hA
          refine L1 (stv hA (by decide) (run_move (hA.ev rfl)) ?_)
          clear hA; intro a hA
          refine bsplit (b := (r461.2 != r468.2)) (fun hb487 => ?_) (fun hb487 => ?_)
          · replace H485 := ite_t hb487 H485
            have hA := hA.re (t := 59) rfl (congrArg Value.bool hb487)
            refine L1 (gate_off rfl (by decide) rfl hA (by decide) rfl rfl ?_); clear hA; intro a hA
            refine L1 (gate_off rfl (by decide) rfl hA (by decide) rfl rfl ?_); clear hA; intro a hA
            refine L1 (gate_off rfl (by decide) rfl hA (by decide) rfl rfl ?_); clear hA; intro a hA
            refine L1 (gate_off rfl (by decide) rfl hA (by decide) rfl rfl ?_); clear hA; intro a hA
            refine L1 (stv hA (by decide) (run_pick (hA.ev rfl) (fun _ => hA.ev rfl) (fun h => Bool.noConfusion h)) ?_)
            clear hA; intro a hA
            refine LQ ?_
            exact ⟨true, Option.some.inj H485, (hM.sel [2, 3, 4] rfl (by decide)), (((((hA.nil.cons (hA.get 64 _ rfl)).cons (hA.get 42 _ rfl)).cons (hA.get 41 _ rfl)).cons (hA.get 40 _ rfl)).cons (hA.get 0 _ rfl))⟩
          · replace H485 := ite_f hb487 H485
            have hA := hA.re (t := 59) rfl (congrArg Value.bool hb487)
            refine L1 (gate_on rfl rfl hA (by decide) rfl (stv hA (by decide) (run_move (hA.ev rfl)) ?_))
            clear hA; intro a hA
            refine L1 (gate_on rfl rfl hA (by decide) rfl (stv hA (by decide) (run_move (hA.ev rfl)) ?_))
            clear hA; intro a hA
            obtain ⟨r488, H489, H485⟩ := Option.bind_eq_some_iff.1 H485
            refine L1 (gate_on rfl rfl hA (by decide) rfl (st_call Try.call13 hA [(.slice A466 r461.1.length c467), (.slice A473 r468.1.length c474)] rfl (by decide) (ref01_Same.calls _ _ _ _ _ _ _ _ ((RoV.mk (hM.rowC (p := (Pl.int .u8)) (Ms := []) (.s .z)) (RowOk.len (hM.row (p := (Pl.int .u8)) (.s .z))) (RowOk.cap (hM.row (p := (Pl.int .u8)) (.s .z))))) ((RoV.mk (hM.rowC (p := (Pl.int .u8)) (Ms := []) .z) (RowOk.len (hM.row (p := (Pl.int .u8)) .z)) (RowOk.cap (hM.row (p := (Pl.int .u8)) .z)))) (hM.front (Ms := [])) H489) ?_))
            clear hA; rintro _ w490 ⟨rfl, hMc⟩ a hA
            have hE := hMc.below; have hM := hM.call (Ms := []) hMc
            clear hMc; simp only [List.cons_append, List.nil_append] at hM
            refine L1 (gate_on rfl rfl hA (by decide) rfl (stv hA (by decide) (run_not (hA.ev rfl)) ?_))
            clear hA; intro a hA
            refine L1 (stv hA (by decide) (run_pick (hA.ev rfl) (fun h => Bool.noConfusion h) (fun _ => hA.ev rfl)) ?_)
            clear hA; intro a hA
            refine LQ ?_
            exact ⟨(!r488), Option.some.inj H485, (hM.sel [2, 3, 4] rfl (by decide)), (((((hA.nil.cons (hA.get 64 _ rfl)).cons (hA.get 42 _ rfl)).cons (hA.get 41 _ rfl)).cons (hA.get 40 _ rfl)).cons (hA.get 0 _ rfl))⟩
        clear hM hA
        rintro a w491 ⟨t484, rfl, hM, hA⟩
        try dsimp only at H
        refine TN ?_
        refine tcond (b := t484) hA rfl (fun hb492 => ?_) (fun hb492 => ?_)
        · replace H := ite_t hb492 H
          refine wp_seq ?_
          refine wp_region_lit ?_
          refine L1 (stv hA (by decide) (run_assign (hA.ev rfl)) ?_)
          clear hA; intro a hA
          refine LQ ?_
          refine TN ?_
          refine wp_ret ?_
          obtain rfl := Option.some.inj H
          refine BR ?_
          refine TR ?_
          refine TR ?_
          refine BR ?_
          refine TR ?_
          exact ret_post1 (fn := Try.f3) hA rfl rfl ⟨_, rfl, rfl, (hM.sel [] rfl (by decide))⟩
        · replace H := ite_f hb492 H
          refine wp_skip ?_
          refine BN ?_
          refine TN ?_
          refine wp_region_lit ?_
          refine L1 (stv hA (by decide) (run_bin (hA.ev rfl) (hA.ev rfl) (bin_add _ _ _ _)) ?_)
          clear hA; intro a hA
          refine L1 (stv hA (by decide) (run_move (hA.ev rfl)) ?_)
          clear hA; intro a hA
          refine LQ ?_
          refine TN ?_; refine rounds_s ?_
          refine wp_seq ?_
          refine wp_region_lit ?_
          refine L1 (stv hA (by decide) (run_bin (hA.ev rfl) (hA.ev rfl) (bin_lss _ _ _ _)) ?_)
          clear hA; intro a hA
          refine LQ ?_
          refine TN ?_
          refine wp_seq ?_
          refine tcond_t hA rfl ?_
          refine wp_skip ?_
          refine TN ?_
          refine wp_seq ?_
          refine wp_block ?_
          refine wp_seq ?_
          refine wp_region_lit ?_
          refine L1 (stv hA (by decide) (run_idx Try.underlying25 Try.sizeOf22 (hA.ev rfl) rfl (hA.ev rfl) (by decide) (by decide)) ?_)
          clear hA; intro a hA
          refine L1 (stv hA (by decide) (run_ld (hA.ev rfl) (run_loadS Try.isAgg22 (At.seg (segs := [[(.slice A1 d_1.length c1)], [(.slice A395 xs397.length c396)], [(.slice A422 r417.length c423)]]) (hM.box .z) 2 rfl rfl))) ?_)
          clear hA; intro a hA
          refine L1 (stv hA (by decide) (run_assign (hA.ev rfl)) ?_)
          clear hA; intro a hA
          refine LQ ?_
          refine TN ?_
          refine wp_seq ?_
          refine wp_region_lit ?_
          refine L1 (stv hA (by decide) (run_move (hA.ev rfl)) ?_)
          clear hA; intro a hA
          obtain ⟨r494, H495, H⟩ := Option.bind_eq_some_iff.1 H
          refine L1 (st_call Try.call11 hA [(.slice A422 r417.length c423)] rfl (by decide) (address_Back.calls _ _ _ _ _ _ ((RoV.mk (hM.rowC (p := (Pl.int .u8)) (Ms := []) (.s (.s .z))) (RowOk.len (hM.row (p := (Pl.int .u8)) (.s (.s .z)))) (RowOk.cap (hM.row (p := (Pl.int .u8)) (.s (.s .z)))))) (hM.front (Ms := [])) H495) ?_)
          clear hA; rintro _ w496 ⟨v497, rfl, hMc⟩ a hA
          have hE := hMc.below; have hM := hM.call (Ms := []) hMc
          clear hMc; simp only [List.cons_append, List.nil_append] at hM
          obtain ⟨A499, c500, rfl⟩ := RowOk.form (hM.row (p := (Pl.int .u8)) .z)
          refine L1 (stv hA (by decide) (run_move (hA.ev rfl)) ?_)
          clear hA; intro a hA
          refine L1 (stv hA (by decide) (run_ext (hA.ev rfl) rfl) ?_)
          clear hA; intro a hA
          refine L1 (stv hA (by decide) (run_ext (hA.ev rfl) rfl) ?_)
          clear hA; intro a hA
          refine L1 (stv hA (by decide) (run_assign (hA.ev rfl)) ?_)
          clear hA; intro a hA
          refine L1 (stv hA (by decide) (run_assign (hA.ev rfl)) ?_)
          clear hA; intro a hA
          refine LQ ?_
          refine TN ?_
          refine wp_seq ?_
          refine wp_region_lit ?_
          refine L1 (stv hA (by decide) (run_move (hA.ev rfl)) ?_)
          clear hA; intro a hA
          obtain ⟨r501, H502, H⟩ := Option.bind_eq_some_iff.1 H
          refine L1 (st_call Try.call12 hA [(.slice A422 r417.length c423)] rfl (by decide) (ref27_Back.calls _ _ _ _ _ _ ((RoV.mk (hM.rowC (p := (Pl.int .u8)) (Ms := []) (.s (.s (.s .z)))) (RowOk.len (hM.row (p := (Pl.int .u8)) (.s (.s (.s .z))))) (RowOk.cap (hM.row (p := (Pl.int .u8)) (.s (.s (.s .z))))))) (hM.front (Ms := [])) H502) ?_)
          clear hA; rintro _ w503 ⟨v504, rfl, hMc⟩ a hA
          have hE := hMc.below; have hM := hM.call (Ms := []) hMc
          clear hMc; simp only [List.cons_append, List.nil_append] at hM
          obtain ⟨A506, c507, rfl⟩ := RowOk.form (hM.row (p := (Pl.int .u8)) .z)
          refine L1 (stv hA (by decide) (run_move (hA.ev rfl)) ?_)
          clear hA; intro a hA
          refine L1 (stv hA (by decide) (run_ext (hA.ev rfl) rfl) ?_)
          clear hA; intro a hA
          refine L1 (stv hA (by decide) (run_ext (hA.ev rfl) rfl) ?_)
          clear hA; intro a hA
          refine L1 (stv hA (by decide) (run_assign (hA.ev rfl)) ?_)
          clear hA; intro a hA
          refine L1 (stv hA (by decide) (run_assign (hA.ev rfl)) ?_)
          clear hA; intro a hA
          refine LQ ?_
          refine TN ?_
          refine wp_seq ?_
          obtain ⟨o519, H518, H⟩ := Option.bind_eq_some_iff.1 H
          refine cutC (fun a w => ∃ (t517 : Bool), t517 = o519 ∧ Mem F w0 w [.box g424 22 (List.flatten [[(.slice A1 d_1.length c1)], [(.slice A395 xs397.length c396)], [(.slice A422 r417.length c423)]]), .row 5 (Pl.int .u8).sz (.slice A395 xs397.length c396) ((Pl.int .u8).flat xs397), .row 5 (Pl.int .u8).sz (.slice A422 r417.length c423) ((Pl.int .u8).flat r417)] ∧ Has 71 [(0, (.slice A0 b_0.length c0)), (40, (.slice (some ⟨g424, 0, none⟩) 3 3)), (41, (.int .i64 3)), (42, (.int .i64 2)), (64, (.bool t517))] a) ?_ ?_
          · refine wp_region_lit ?_
            refine L1 (stv hA (by decide) (run_move (hA.ev rfl)) ?_)
            clear hA; intro a hA
            refine L1 (stv hA (by decide) (run_move (hA.ev rfl)) ?_)
            clear hA; intro a hA
            refine L1 (stv hA (by decide) (run_bin (hA.ev rfl) (hA.ev rfl) (bin_neq _ _ _ _)) ?_)
            clear hA; intro a hA
            refine L1 (stv hA (by decide) (run_move (hA.ev rfl)) ?_)
            clear hA; intro a hA
            refine bsplit (b := (r494.2 != r501.2)) (fun hb520 => ?_) (fun hb520 => ?_)
            · replace H518 := ite_t hb520 H518
              have hA := hA.re (t := 59) rfl (congrArg Value.bool hb520)
              refine L1 (gate_off rfl (by decide) rfl hA (by decide) rfl rfl ?_); clear hA; intro a hA
              refine L1 (gate_off rfl (by decide) rfl hA (by decide) rfl rfl ?_); clear hA; intro a hA
              refine L1 (gate_off rfl (by decide) rfl hA (by decide) rfl rfl ?_); clear hA; intro a hA
              refine L1 (gate_off rfl (by decide) rfl hA (by decide) rfl rfl ?_); clear hA; intro a hA
              refine L1 (stv hA (by decide) (run_pick (hA.ev rfl) (fun _ => hA.ev rfl) (fun h => Bool.noConfusion h)) ?_)
              clear hA; intro a hA
              refine LQ ?_
              exact ⟨true, Option.some.inj H518, (hM.sel [2, 3, 4] rfl (by decide)), (((((hA.nil.cons (hA.get 64 _ rfl)).cons (hA.get 42 _ rfl)).cons (hA.get 41 _ rfl)).cons (hA.get 40 _ rfl)).cons (hA.get 0 _ rfl))⟩
            · replace H518 := ite_f hb520 H518
              have hA := hA.re (t := 59) rfl (congrArg Value.bool hb520)
              refine L1 (gate_on rfl rfl hA (by decide) rfl (stv hA (by decide) (run_move (hA.ev rfl)) ?_))
              clear hA; intro a hA
              refine L1 (gate_on rfl rfl hA (by decide) rfl (stv hA (by decide) (run_move (hA.ev rfl)) ?_))
              clear hA; intro a hA
              obtain ⟨r521, H522, H518⟩ := Option.bind_eq_some_iff.1 H518
              refine L1 (gate_on rfl rfl hA (by decide) rfl (st_call Try.call13 hA [(.slice A499 r494.1.length c500), (.slice A506 r501.1.length c507)] rfl (by decide) (ref01_Same.calls _ _ _ _ _ _ _ _ ((RoV.mk (hM.rowC (p := (Pl.int .u8)) (Ms := []) (.s .z)) (RowOk.len (hM.row (p := (Pl.int .u8)) (.s .z))) (RowOk.cap (hM.row (p := (Pl.int .u8)) (.s .z))))) ((RoV.mk (hM.rowC (p := (Pl.int .u8)) (Ms := []) .z) (RowOk.len (hM.row (p := (Pl.int .u8)) .z)) (RowOk.cap (hM.row (p := (Pl.int .u8)) .z)))) (hM.front (Ms := [])) H522) ?_))
              clear hA; rintro _ w523 ⟨rfl, hMc⟩ a hA
              have hE := hMc.below; have hM := hM.call (Ms := []) hMc
              clear hMc; simp only [List.cons_append, List.nil_append] at hM
              refine L1 (gate_on rfl rfl hA (by decide) rfl (stv hA (by decide) (run_not (hA.ev rfl)) ?_))
              clear hA; intro a hA
              refine L1 (stv hA (by decide) (run_pick (hA.ev rfl) (fun h => Bool.noConfusion h) (fun _ => hA.ev rfl)) ?_)
              clear hA; intro a hA
              refine LQ ?_
              exact ⟨(!r521), Option.some.inj H518, (hM.sel [2, 3, 4] rfl (by decide)), (((((hA.nil.cons (hA.get 64 _ rfl)).cons (hA.get 42 _ rfl)).cons (hA.get 41 _ rfl)).cons (hA.get 40 _ rfl)).cons (hA.get 0 _ rfl))⟩
          clear hM hA
          rintro a w524 ⟨t517, rfl, hM, hA⟩
          try dsimp only at H
          refine TN ?_
          refine tcond (b := t517) hA rfl (fun hb525 => ?_) (fun hb525 => ?_)
          · replace H := ite_t hb525 H
            refine wp_seq ?_
            refine wp_region_lit ?_
            refine L1 (stv hA (by decide) (run_assign (hA.ev rfl)) ?_)
            clear hA; intro a hA
            refine LQ ?_
            refine TN ?_
            refine wp_ret ?_
            obtain rfl := Option.some.inj H
            refine BR ?_
            refine TR ?_
            refine TR ?_
            refine BR ?_
            refine TR ?_
            exact ret_post1 (fn := Try.f3) hA rfl rfl ⟨_, rfl, rfl, (hM.sel [] rfl (by decide))⟩
          · replace H := ite_f hb525 H
            refine wp_skip ?_
            refine BN ?_
            refine TN ?_
            refine wp_region_lit ?_
            refine L1 (stv hA (by decide) (run_bin (hA.ev rfl) (hA.ev rfl) (bin_add _ _ _ _)) ?_)
            clear hA; intro a hA
            refine L1 (stv hA (by decide) (run_move (hA.ev rfl)) ?_)
            clear hA; intro a hA
            refine LQ ?_
            refine TN ?_; refine rounds_s ?_
            refine wp_seq ?_
            refine wp_region_lit ?_
            refine L1 (stv hA (by decide) (run_bin (hA.ev rfl) (hA.ev rfl) (bin_lss _ _ _ _)) ?_)
            clear hA; intro a hA
            refine LQ ?_
            refine TN ?_
            refine wp_seq ?_
            refine tcond_f hA rfl ?_
            refine wp_exit ?_
            refine TX ?_
            refine TX ?_
            refine BX ?_
            refine TN ?_
            refine wp_seq ?_
            refine wp_region_lit ?_
            refine L1 (stv hA (by decide) (run_move (hA.ev rfl)) ?_)
            clear hA; intro a hA
            obtain ⟨r527, H528, H⟩ := Option.bind_eq_some_iff.1 H
            refine L1 (st_call Try.call14 hA [(.slice A0 b_0.length c0)] rfl (by decide) (address_Convert.calls _ _ _ _ _ _ ((RoV.mk (hM.roC (Ms := []) hr0) (Eq.refl b_0.length) hc0)) (hM.front (Ms := [])) H528) ?_)
            clear hA; rintro _ w529 ⟨v530, rfl, hMc⟩ a hA
            have hE := hMc.below; have hM := hM.call (Ms := []) hMc
            clear hMc; simp only [List.cons_append, List.nil_append] at hM
            obtain ⟨A532, c533, rfl⟩ := RowOk.form (hM.row (p := (Pl.int .u8)) .z)
            refine L1 (stv hA (by decide) (run_move (hA.ev rfl)) ?_)
            clear hA; intro a hA
            obtain ⟨r534, H535, H⟩ := Option.bind_eq_some_iff.1 H
            refine L1 (st_call Try.call10 hA [(.slice A0 b_0.length c0)] rfl (by decide) (ref27_Convert.calls _ _ _ _ _ _ ((RoV.mk (hM.roC (Ms := []) hr0) (Eq.refl b_0.length) hc0)) (hM.front (Ms := [])) H535) ?_)
            clear hA; rintro _ w536 ⟨v537, rfl, hMc⟩ a hA
            have hE := hMc.below; have hM := hM.call (Ms := []) hMc
            clear hMc; simp only [List.cons_append, List.nil_append] at hM
            obtain ⟨A539, c540, rfl⟩ := RowOk.form (hM.row (p := (Pl.int .u8)) .z)
            obtain ⟨r541, H542, H⟩ := Option.bind_eq_some_iff.1 H
            refine L1 (st_call Try.call13 hA [(.slice A532 r527.length c533), (.slice A539 r534.length c540)] rfl (by decide) (ref01_Same.calls _ _ _ _ _ _ _ _ ((RoV.mk (hM.rowC (p := (Pl.int .u8)) (Ms := []) (.s .z)) (RowOk.len (hM.row (p := (Pl.int .u8)) (.s .z))) (RowOk.cap (hM.row (p := (Pl.int .u8)) (.s .z))))) ((RoV.mk (hM.rowC (p := (Pl.int .u8)) (Ms := []) .z) (RowOk.len (hM.row (p := (Pl.int .u8)) .z)) (RowOk.cap (hM.row (p := (Pl.int .u8)) .z)))) (hM.front (Ms := [])) H542) ?_)
            clear hA; rintro _ w543 ⟨rfl, hMc⟩ a hA
            have hE := hMc.below; have hM := hM.call (Ms := []) hMc
            clear hMc; simp only [List.cons_append, List.nil_append] at hM
            refine L1 (stv hA (by decide) (run_assign (hA.ev rfl)) ?_)
            clear hA; intro a hA
            refine LQ ?_
            refine TN ?_
            refine wp_ret ?_
            obtain rfl := Option.some.inj H
            exact ret_post1 (fn := Try.f3) hA rfl rfl ⟨_, rfl, rfl, (hM.sel [] rfl (by decide))⟩

end Go.Proofs.Ytmopbcfjnnchgaa.G
