/- The functions that a law of this seat reaches: what each comes to, as a plain function, and that its code comes to it. Conditions: the plain function gives a value (enough fuel, no panic). -/
import Derived.Test.YtmopbcfjnnchgaaChecked
import Derived.Test.YtmopbcfjnnchgaaD
set_option linter.unusedVariables false
set_option linter.unusedSimpArgs false
namespace Go.Proofs.Ytmopbcfjnnchgaa.G
open Go Go.RowKit Go.Proofs
theorem elt22 : Elt Try.prog (Pl.int .u8) 22 5 (.int .u8 (0 : Int)) 1 := ⟨Try.underlying22, by kernel_rfl, by first | rfl | simp [Value.cells, Pl.len], by decide⟩
theorem elt37 : Elt Try.prog Pl.str 37 9 (.string ByteArray.empty) 16 := ⟨Try.underlying37, by kernel_rfl, by first | rfl | simp [Value.cells, Pl.len], by decide⟩
def address_regroup.l1 (to_2 : Int) : Nat → (List Int) → Int → Int → Option ((List Int) × Int × Int)
  | 0, _, _, _ => none
  | k + 1, xs1047, held1049, bits1051 => (if (decide (bits1051 ≥ to_2)) = true then (if 0 ≤ (IntKind.i64.wrap (bits1051 - to_2)) then (if (xs1047.length + 1) * 1 ≤ 140737488355328 then (if 0 ≤ (IntKind.i64.wrap (bits1051 - to_2)) then (address_regroup.l1 to_2 k (xs1047 ++ [IntKind.u8.wrap (ishr .i64 held1049 (IntKind.i64.wrap (bits1051 - to_2)))]) (iand .i64 held1049 (IntKind.i64.wrap ((ishl .i64 1 (IntKind.i64.wrap (bits1051 - to_2))) - 1))) (IntKind.i64.wrap (bits1051 - to_2))) else none) else none) else none) else (some (xs1047, held1049, bits1051)))
def address_regroup.l0 (b_0 : (List Int)) (from_1 : Int) (to_2 : Int) : Nat → (List Int) → Int → Int → Int → Option ((List Int) × Int × Int)
  | 0, _, _, _, _ => none
  | k + 1, xs944, held946, bits948, t952 => (if (decide (t952 < ((b_0.length : Nat) : Int))) = true then (if 0 ≤ t952 ∧ t952 < ((b_0.length : Nat) : Int) then (if 0 ≤ from_1 then (Option.bind (α := (List Int) × Int × Int) (address_regroup.l1 to_2 k xs944 (ior .i64 (ishl .i64 held946 from_1) (IntKind.i64.wrap (b_0.getD t952.toNat (0 : Int)))) (IntKind.i64.wrap (bits948 + from_1))) (fun st => match st with | (xs1061, held1063, bits1065) => (address_regroup.l0 b_0 from_1 to_2 k xs1061 held1063 bits1065 (IntKind.i64.wrap (t952 + 1))))) else none) else none) else (some (xs944, held946, bits948)))
def address_regroup.f (k : Nat) (b_0 : (List Int)) (from_1 : Int) (to_2 : Int) : Option ((List Int) × Int × Int) := (Option.bind (α := (List Int) × Int × Int) (address_regroup.l0 b_0 from_1 to_2 k ([] : List Int) 0 0 0) (fun st => match st with | (xs958, held960, bits962) => (some (xs958, held960, bits962))))
set_option maxRecDepth 100000 in
theorem address_regroup.calls (k : Nat) (b_0 : (List Int)) (from_1 : Int) (to_2 : Int) (F : List (Option Nat)) (v0 : Value) (r : ((List Int) × Int × Int)) (w0 : World) (h0 : RoV F (Pl.int .u8) w0 v0 b_0) (hM : Mem F w0 w0 []) (H : address_regroup.f k b_0 from_1 to_2 = some r) :
    Calls Try.prog 24 #[v0, (.int .i64 from_1), (.int .i64 to_2)] w0 fun e w' => ∃ v, e = .returned v ∧ ∃ (ur_0 : Value), v = (.tuple #[ur_0, (.int .i64 r.2.1), (.int .i64 r.2.2)]) ∧ Mem F w0 w' [.row 5 (Pl.int .u8).sz ur_0 ((Pl.int .u8).flat r.1)] := by
  unfold address_regroup.f at H
  obtain ⟨A0, c0, rfl, hr0, hc0⟩ := h0
  refine enterL (n := 51) [(.slice A0 b_0.length c0), (.int .i64 from_1), (.int .i64 to_2)] Try.func24 rfl rfl rfl ?_
  intro a hA
  refine wp_seq ?_
  refine wp_region_lit ?_
  refine L1 (stv hA (by decide) (run_assign (hA.ev rfl)) ?_)
  clear hA; intro a hA
  refine L1 (stv hA (by decide) (run_assign (hA.ev rfl)) ?_)
  clear hA; intro a hA
  refine L1 (stv hA (by decide) (run_assign (hA.ev rfl)) ?_)
  clear hA; intro a hA
  refine LQ ?_
  refine TN ?_
  refine wp_seq ?_
  refine wp_region_lit ?_
  refine L1 (stv hA (by decide) (run_assign (hA.ev rfl)) ?_)
  clear hA; intro a hA
  refine LQ ?_
  refine TN ?_
  refine wp_seq ?_
  refine wp_region_lit ?_
  refine L1 (stv hA (by decide) (run_assign (hA.ev rfl)) ?_)
  clear hA; intro a hA
  refine L1 (stv hA (by decide) (run_assign (hA.ev rfl)) ?_)
  clear hA; intro a hA
  refine LQ ?_
  refine TN ?_
  refine wp_seq ?_
  refine wp_seq ?_
  refine wp_region_lit ?_
  refine L1 (stv hA (by decide) (run_move (hA.ev rfl)) ?_)
  clear hA; intro a hA
  refine L1 (stv hA (by decide) (run_len_slice Try.underlying22 (hA.ev rfl)) ?_)
  clear hA; intro a hA
  refine L1 (stv hA (by decide) (run_move (hA.ev rfl)) ?_)
  clear hA; intro a hA
  refine LQ ?_
  refine TN ?_
  obtain ⟨o964, H963, H⟩ := Option.bind_eq_some_iff.1 H
  refine cutC (fun a w => ∃ (xs958 : (List Int)) (held960 : Int) (bits962 : Int) (v955 : Value), (xs958, held960, bits962) = o964 ∧ Mem F w0 w [.row 5 (Pl.int .u8).sz v955 ((Pl.int .u8).flat xs958)] ∧ Has 51 [(9, v955), (10, (.int .i64 held960)), (11, (.int .i64 bits962))] a) ?_ ?_
  · refine wp_block ?_
    have hM := hM.addnil 5 ((Pl.int .u8)).sz
    refine wp_loop_ghost (fun m a w => ∃ (xs944 : (List Int)) (held946 : Int) (bits948 : Int) (t952 : Int) (v941 : Value), address_regroup.l0 b_0 from_1 to_2 m xs944 held946 bits948 t952 = some o964 ∧ Mem F w0 w [.row 5 (Pl.int .u8).sz v941 ((Pl.int .u8).flat xs944)] ∧ Has 51 [(1, (.int .i64 from_1)), (2, (.int .i64 to_2)), (9, v941), (10, (.int .i64 held946)), (11, (.int .i64 bits948)), (14, (.slice A0 b_0.length c0)), (15, (.int .i64 ((b_0.length : Nat) : Int))), (16, (.int .i64 t952))] a) k ⟨([] : List Int), 0, 0, 0, (.slice none 0 0), H963, hM, ((((((((hA.nil.cons (hA.get 16 _ rfl)).cons (hA.get 15 _ rfl)).cons (hA.get 14 _ rfl)).cons (hA.get 11 _ rfl)).cons (hA.get 10 _ rfl)).cons (hA.get 9 _ rfl)).cons (hA.get 2 _ rfl)).cons (hA.get 1 _ rfl))⟩ ?_
    clear hM hA; rintro m966 a w967 ⟨xs944, held946, bits948, t952, v941, H963, hM, hA⟩
    cases m966 with
    | zero => exact absurd H963 (by simp [address_regroup.l0])
    | succ m966 =>
    rw [address_regroup.l0] at H963
    obtain ⟨A942, c943, rfl⟩ := RowOk.form (hM.row (p := (Pl.int .u8)) .z)
    refine wp_seq ?_
    refine wp_region_lit ?_
    refine L1 (stv hA (by decide) (run_bin (hA.ev rfl) (hA.ev rfl) (bin_lss _ _ _ _)) ?_)
    clear hA; intro a hA
    refine LQ ?_
    refine TN ?_
    refine wp_seq ?_
    refine tcond (b := (decide (t952 < ((b_0.length : Nat) : Int)))) hA rfl (fun hb968 => ?_) (fun hb968 => ?_)
    · replace H963 := ite_t hb968 H963
      refine wp_skip ?_
      refine TN ?_
      refine wp_seq ?_
      refine wp_block ?_
      refine wp_seq ?_
      refine wp_region_lit ?_
      obtain ⟨⟨hi969, hj970⟩, H963⟩ := ite_some H963
      obtain ⟨ad971, hq972, hat973⟩ := Row.elem' (p := (Pl.int .u8)) (hM.ro hr0) (Eq.refl b_0.length) (0 : Int) t952 hi969 hj970
      refine L1 (stv hA (by decide) (run_idx Try.underlying22 Try.sizeOf5 (hA.ev rfl) hq972 (hA.ev rfl) hi969 hj970) ?_)
      clear hA; intro a hA
      refine L1 (stv hA (by decide) (run_ld (hA.ev rfl) (run_loadS Try.isAgg5 hat973)) ?_)
      clear hA; intro a hA
      refine L1 (stv hA (by decide) (run_assign (hA.ev rfl)) ?_)
      clear hA; intro a hA
      refine LQ ?_
      refine TN ?_
      refine wp_seq ?_
      refine wp_region_lit ?_
      refine L1 (stv hA (by decide) (run_move (hA.ev rfl)) ?_)
      clear hA; intro a hA
      refine L1 (stv hA (by decide) (run_move (hA.ev rfl)) ?_)
      clear hA; intro a hA
      obtain ⟨hs974, H963⟩ := ite_some H963
      refine L1 (stv hA (by decide) (run_shl (hA.ev rfl) (hA.ev rfl) hs974) ?_)
      clear hA; intro a hA
      refine L1 (stv hA (by decide) (run_move (hA.ev rfl)) ?_)
      clear hA; intro a hA
      refine L1 (stv hA (by decide) (run_conv Try.underlying5 Try.underlying3 (hA.ev rfl)) ?_)
      clear hA; intro a hA
      refine L1 (stv hA (by decide) (run_bin (hA.ev rfl) (hA.ev rfl) (bin_or _ _ _ _)) ?_)
      clear hA; intro a hA
      refine L1 (stv hA (by decide) (run_assign (hA.ev rfl)) ?_)
      clear hA; intro a hA
      refine LQ ?_
      refine TN ?_
      refine wp_seq ?_
      refine wp_region_lit ?_
      refine L1 (stv hA (by decide) (run_move (hA.ev rfl)) ?_)
      clear hA; intro a hA
      refine L1 (stv hA (by decide) (run_move (hA.ev rfl)) ?_)
      clear hA; intro a hA
      refine L1 (stv hA (by decide) (run_bin (hA.ev rfl) (hA.ev rfl) (bin_add _ _ _ _)) ?_)
      clear hA; intro a hA
      refine L1 (stv hA (by decide) (run_assign (hA.ev rfl)) ?_)
      clear hA; intro a hA
      refine LQ ?_
      refine TN ?_
      obtain ⟨o1070, H1069, H963⟩ := Option.bind_eq_some_iff.1 H963
      refine cutC (fun a w => ∃ (xs1061 : (List Int)) (held1063 : Int) (bits1065 : Int) (v1058 : Value), (xs1061, held1063, bits1065) = o1070 ∧ Mem F w0 w [.row 5 (Pl.int .u8).sz v1058 ((Pl.int .u8).flat xs1061)] ∧ Has 51 [(1, (.int .i64 from_1)), (2, (.int .i64 to_2)), (9, v1058), (10, (.int .i64 held1063)), (11, (.int .i64 bits1065)), (14, (.slice A0 b_0.length c0)), (15, (.int .i64 ((b_0.length : Nat) : Int))), (16, (.int .i64 t952))] a) ?_ ?_
      · refine wp_block ?_
        refine wp_loop_ghost (fun m a w => ∃ (xs1047 : (List Int)) (held1049 : Int) (bits1051 : Int) (v1044 : Value), address_regroup.l1 to_2 m xs1047 held1049 bits1051 = some o1070 ∧ Mem F w0 w [.row 5 (Pl.int .u8).sz v1044 ((Pl.int .u8).flat xs1047)] ∧ Has 51 [(1, (.int .i64 from_1)), (2, (.int .i64 to_2)), (9, v1044), (10, (.int .i64 held1049)), (11, (.int .i64 bits1051)), (14, (.slice A0 b_0.length c0)), (15, (.int .i64 ((b_0.length : Nat) : Int))), (16, (.int .i64 t952))] a) m966 ⟨xs944, ior .i64 (ishl .i64 held946 from_1) (IntKind.i64.wrap (b_0.getD t952.toNat (0 : Int))), IntKind.i64.wrap (bits948 + from_1), (.slice A942 xs944.length c943), H1069, hM, ((((((((hA.nil.cons (hA.get 16 _ rfl)).cons (hA.get 15 _ rfl)).cons (hA.get 14 _ rfl)).cons (hA.get 11 _ rfl)).cons (hA.get 10 _ rfl)).cons (hA.get 9 _ rfl)).cons (hA.get 2 _ rfl)).cons (hA.get 1 _ rfl))⟩ ?_
        clear hM hA; rintro m1071 a w1072 ⟨xs1047, held1049, bits1051, v1044, H1069, hM, hA⟩
        cases m1071 with
        | zero => exact absurd H1069 (by simp [address_regroup.l1])
        | succ m1071 =>
        rw [address_regroup.l1] at H1069
        obtain ⟨A1045, c1046, rfl⟩ := RowOk.form (hM.row (p := (Pl.int .u8)) .z)
        refine wp_seq ?_
        refine wp_seq ?_
        refine wp_region_lit ?_
        refine L1 (stv hA (by decide) (run_move (hA.ev rfl)) ?_)
        clear hA; intro a hA
        refine L1 (stv hA (by decide) (run_move (hA.ev rfl)) ?_)
        clear hA; intro a hA
        refine L1 (stv hA (by decide) (run_bin (hA.ev rfl) (hA.ev rfl) (bin_geq _ _ _ _)) ?_)
        clear hA; intro a hA
        refine LQ ?_
        refine TN ?_
        refine tcond (b := (decide (bits1051 ≥ to_2))) hA rfl (fun hb1073 => ?_) (fun hb1073 => ?_)
        · replace H1069 := ite_t hb1073 H1069
          refine wp_skip ?_
          refine TN ?_
          refine wp_block ?_
          refine wp_seq ?_
          refine wp_region_lit ?_
          refine L1 (stv hA (by decide) (run_move (hA.ev rfl)) ?_)
          clear hA; intro a hA
          refine L1 (stv hA (by decide) (run_move (hA.ev rfl)) ?_)
          clear hA; intro a hA
          refine L1 (stv hA (by decide) (run_bin (hA.ev rfl) (hA.ev rfl) (bin_sub _ _ _ _)) ?_)
          clear hA; intro a hA
          refine L1 (stv hA (by decide) (run_assign (hA.ev rfl)) ?_)
          clear hA; intro a hA
          refine LQ ?_
          refine TN ?_
          refine wp_seq ?_
          refine wp_region_lit ?_
          refine L1 (stv hA (by decide) (run_move (hA.ev rfl)) ?_)
          clear hA; intro a hA
          refine L1 (stv hA (by decide) (run_move (hA.ev rfl)) ?_)
          clear hA; intro a hA
          refine L1 (stv hA (by decide) (run_move (hA.ev rfl)) ?_)
          clear hA; intro a hA
          obtain ⟨hs1074, H1069⟩ := ite_some H1069
          refine L1 (stv hA (by decide) (run_shr (hA.ev rfl) (hA.ev rfl) hs1074) ?_)
          clear hA; intro a hA
          refine L1 (stv hA (by decide) (run_conv Try.underlying3 Try.underlying5 (hA.ev rfl)) ?_)
          clear hA; intro a hA
          refine L1 (e_litN [IntKind.u8.wrap (ishr .i64 held1049 (IntKind.i64.wrap (bits1051 - to_2)))] [(.int .u8 (IntKind.u8.wrap (ishr .i64 held1049 (IntKind.i64.wrap (bits1051 - to_2)))))] elt22 hM rfl (by decide) hA rfl rfl (List.cons_ne_nil _ _) (by decide) ?_)
          clear hM hA; intro w1076 g1075 hM hE a hA
          obtain ⟨hl1080, H1069⟩ := ite_some H1069
          refine L1 (e_append elt22 hM (fun _ => (.s .z)) (Src.row Try.underlying22 (RowOk.row (hM.row (p := (Pl.int .u8)) .z)) (RowOk.len (hM.row (p := (Pl.int .u8)) .z))) hl1080 hA rfl rfl (by decide) ?_)
          clear hM hA; intro w1081 A1078 c1079 hM hE a hA
          refine L1 (stv hA (by decide) (run_assign (hA.ev rfl)) ?_)
          clear hA; intro a hA
          refine LQ ?_
          refine TN ?_
          refine wp_region_lit ?_
          refine L1 (stv hA (by decide) (run_move (hA.ev rfl)) ?_)
          clear hA; intro a hA
          refine L1 (stv hA (by decide) (run_move (hA.ev rfl)) ?_)
          clear hA; intro a hA
          obtain ⟨hs1082, H1069⟩ := ite_some H1069
          refine L1 (stv hA (by decide) (run_shl (hA.ev rfl) (hA.ev rfl) hs1082) ?_)
          clear hA; intro a hA
          refine L1 (stv hA (by decide) (run_bin (hA.ev rfl) (hA.ev rfl) (bin_sub _ _ _ _)) ?_)
          clear hA; intro a hA
          refine L1 (stv hA (by decide) (run_bin (hA.ev rfl) (hA.ev rfl) (bin_and _ _ _ _)) ?_)
          clear hA; intro a hA
          refine L1 (stv hA (by decide) (run_assign (hA.ev rfl)) ?_)
          clear hA; intro a hA
          refine LQ ?_
          refine BN ?_
          exact ⟨_, Nat.lt_succ_self m1071, (xs1047 ++ [IntKind.u8.wrap (ishr .i64 held1049 (IntKind.i64.wrap (bits1051 - to_2)))]), iand .i64 held1049 (IntKind.i64.wrap ((ishl .i64 1 (IntKind.i64.wrap (bits1051 - to_2))) - 1)), IntKind.i64.wrap (bits1051 - to_2), (.slice A1078 (xs1047.length + 1) c1079), H1069, (hM.sel [1] rfl (by decide)), ((((((((hA.nil.cons (hA.get 16 _ rfl)).cons (hA.get 15 _ rfl)).cons (hA.get 14 _ rfl)).cons (hA.get 11 _ rfl)).cons (hA.get 10 _ rfl)).cons (hA.get 9 _ rfl)).cons (hA.get 2 _ rfl)).cons (hA.get 1 _ rfl))⟩
        · replace H1069 := ite_f hb1073 H1069
          refine wp_exit ?_
          refine TX ?_
          refine TX ?_
          refine BX ?_
          exact ⟨xs1047, held1049, bits1051, (.slice A1045 xs1047.length c1046), Option.some.inj H1069, hM, ((((((((hA.nil.cons (hA.get 16 _ rfl)).cons (hA.get 15 _ rfl)).cons (hA.get 14 _ rfl)).cons (hA.get 11 _ rfl)).cons (hA.get 10 _ rfl)).cons (hA.get 9 _ rfl)).cons (hA.get 2 _ rfl)).cons (hA.get 1 _ rfl))⟩
      clear hM hA
      rintro a w1083 ⟨xs1061, held1063, bits1065, v1058, rfl, hM, hA⟩
      try dsimp only at H963
      obtain ⟨A1059, c1060, rfl⟩ := RowOk.form (hM.row (p := (Pl.int .u8)) .z)
      refine BN ?_
      refine TN ?_
      refine wp_region_lit ?_
      refine L1 (stv hA (by decide) (run_bin (hA.ev rfl) (hA.ev rfl) (bin_add _ _ _ _)) ?_)
      clear hA; intro a hA
      refine L1 (stv hA (by decide) (run_move (hA.ev rfl)) ?_)
      clear hA; intro a hA
      refine LQ ?_
      exact ⟨_, Nat.lt_succ_self m966, xs1061, held1063, bits1065, IntKind.i64.wrap (t952 + 1), (.slice A1059 xs1061.length c1060), H963, hM, ((((((((hA.nil.cons (hA.get 16 _ rfl)).cons (hA.get 15 _ rfl)).cons (hA.get 14 _ rfl)).cons (hA.get 11 _ rfl)).cons (hA.get 10 _ rfl)).cons (hA.get 9 _ rfl)).cons (hA.get 2 _ rfl)).cons (hA.get 1 _ rfl))⟩
    · replace H963 := ite_f hb968 H963
      refine wp_exit ?_
      refine TX ?_
      refine TX ?_
      refine BX ?_
      exact ⟨xs944, held946, bits948, (.slice A942 xs944.length c943), Option.some.inj H963, hM, (((hA.nil.cons (hA.get 11 _ rfl)).cons (hA.get 10 _ rfl)).cons (hA.get 9 _ rfl))⟩
  clear hM hA
  rintro a w1084 ⟨xs958, held960, bits962, v955, rfl, hM, hA⟩
  try dsimp only at H
  obtain ⟨A956, c957, rfl⟩ := RowOk.form (hM.row (p := (Pl.int .u8)) .z)
  refine TN ?_
  refine wp_seq ?_
  refine wp_region_lit ?_
  refine L1 (stv hA (by decide) (run_move (hA.ev rfl)) ?_)
  clear hA; intro a hA
  refine L1 (stv hA (by decide) (run_move (hA.ev rfl)) ?_)
  clear hA; intro a hA
  refine L1 (stv hA (by decide) (run_move (hA.ev rfl)) ?_)
  clear hA; intro a hA
  refine L1 (stv hA (by decide) (run_assign (hA.ev rfl)) ?_)
  clear hA; intro a hA
  refine L1 (stv hA (by decide) (run_assign (hA.ev rfl)) ?_)
  clear hA; intro a hA
  refine L1 (stv hA (by decide) (run_assign (hA.ev rfl)) ?_)
  clear hA; intro a hA
  refine LQ ?_
  refine TN ?_
  refine wp_ret ?_
  obtain rfl := Option.some.inj H
  exact ret_post3 (fn := Try.f24) hA rfl rfl rfl rfl ⟨_, rfl, (.slice A956 xs958.length c957), rfl, hM⟩

def address_Back.l0 (d_0 : (List Int)) : Nat → Int → Option (Out ((List Int) × Int) (Unit))
  | 0, _ => none
  | k + 1, t112 => (if (decide (t112 < ((d_0.length : Nat) : Int))) = true then (if 0 ≤ t112 ∧ t112 < ((d_0.length : Nat) : Int) then (if (decide ((d_0.getD t112.toNat (0 : Int)) > 31)) = true then (some (.ret (([] : List Int), 5))) else (address_Back.l0 d_0 k (IntKind.i64.wrap (t112 + 1)))) else none) else (some (.go ())))
def address_Back.f (k : Nat) (d_0 : (List Int)) : Option ((List Int) × Int) := (Option.bind (α := Out ((List Int) × Int) (Unit)) (address_Back.l0 d_0 k 0) (fun o => match o with | .ret r => some r | .go _ => ((address_regroup.f k d_0 5 8).bind fun r127 => (Option.bind (α := Bool) (if (decide (r127.2.2 ≥ 5)) = true then (some true) else (some (r127.2.1 != 0))) (fun t137 => (if t137 = true then (some (([] : List Int), 3)) else (some (r127.1, 0))))))))
set_option maxRecDepth 100000 in
theorem address_Back.calls (k : Nat) (d_0 : (List Int)) (F : List (Option Nat)) (v0 : Value) (r : ((List Int) × Int)) (w0 : World) (h0 : RoV F (Pl.int .u8) w0 v0 d_0) (hM : Mem F w0 w0 []) (H : address_Back.f k d_0 = some r) :
    Calls Try.prog 11 #[v0] w0 fun e w' => ∃ v, e = .returned v ∧ ∃ (ur_0 : Value), v = (.tuple #[ur_0, (.int .i64 r.2)]) ∧ Mem F w0 w' [.row 5 (Pl.int .u8).sz ur_0 ((Pl.int .u8).flat r.1)] := by
  unfold address_Back.f at H
  obtain ⟨A0, c0, rfl, hr0, hc0⟩ := h0
  refine enterL (n := 31) [(.slice A0 d_0.length c0)] Try.func11 rfl rfl rfl ?_
  intro a hA
  refine wp_seq ?_
  refine wp_region_lit ?_
  refine L1 (stv hA (by decide) (run_assign (hA.ev rfl)) ?_)
  clear hA; intro a hA
  refine L1 (stv hA (by decide) (run_assign (hA.ev rfl)) ?_)
  clear hA; intro a hA
  refine LQ ?_
  refine TN ?_
  refine wp_seq ?_
  refine wp_seq ?_
  refine wp_region_lit ?_
  refine L1 (stv hA (by decide) (run_move (hA.ev rfl)) ?_)
  clear hA; intro a hA
  refine L1 (stv hA (by decide) (run_len_slice Try.underlying22 (hA.ev rfl)) ?_)
  clear hA; intro a hA
  refine L1 (stv hA (by decide) (run_move (hA.ev rfl)) ?_)
  clear hA; intro a hA
  refine LQ ?_
  refine TN ?_
  obtain ⟨o115, H114, H⟩ := Option.bind_eq_some_iff.1 H
  refine cutC (fun a w => (.go ()) = o115 ∧ Mem F w0 w [] ∧ Has 31 [(0, (.slice A0 d_0.length c0))] a) ?_ ?_
  · refine wp_block ?_
    refine wp_loop_ghost (fun m a w => ∃ (t112 : Int), address_Back.l0 d_0 m t112 = some o115 ∧ Mem F w0 w [] ∧ Has 31 [(0, (.slice A0 d_0.length c0)), (9, (.slice A0 d_0.length c0)), (10, (.int .i64 ((d_0.length : Nat) : Int))), (11, (.int .i64 t112))] a) k ⟨0, H114, hM, ((((hA.nil.cons (hA.get 11 _ rfl)).cons (hA.get 10 _ rfl)).cons (hA.get 9 _ rfl)).cons (hA.get 0 _ rfl))⟩ ?_
    clear hM hA; rintro m116 a w117 ⟨t112, H114, hM, hA⟩
    cases m116 with
    | zero => exact absurd H114 (by simp [address_Back.l0])
    | succ m116 =>
    rw [address_Back.l0] at H114
    refine wp_seq ?_
    refine wp_region_lit ?_
    refine L1 (stv hA (by decide) (run_bin (hA.ev rfl) (hA.ev rfl) (bin_lss _ _ _ _)) ?_)
    clear hA; intro a hA
    refine LQ ?_
    refine TN ?_
    refine wp_seq ?_
    refine tcond (b := (decide (t112 < ((d_0.length : Nat) : Int)))) hA rfl (fun hb118 => ?_) (fun hb118 => ?_)
    · replace H114 := ite_t hb118 H114
      refine wp_skip ?_
      refine TN ?_
      refine wp_seq ?_
      refine wp_block ?_
      refine wp_seq ?_
      refine wp_region_lit ?_
      obtain ⟨⟨hi119, hj120⟩, H114⟩ := ite_some H114
      obtain ⟨ad121, hq122, hat123⟩ := Row.elem' (p := (Pl.int .u8)) (hM.ro hr0) (Eq.refl d_0.length) (0 : Int) t112 hi119 hj120
      refine L1 (stv hA (by decide) (run_idx Try.underlying22 Try.sizeOf5 (hA.ev rfl) hq122 (hA.ev rfl) hi119 hj120) ?_)
      clear hA; intro a hA
      refine L1 (stv hA (by decide) (run_ld (hA.ev rfl) (run_loadS Try.isAgg5 hat123)) ?_)
      clear hA; intro a hA
      refine L1 (stv hA (by decide) (run_assign (hA.ev rfl)) ?_)
      clear hA; intro a hA
      refine LQ ?_
      refine TN ?_
      refine wp_seq ?_
      refine wp_region_lit ?_
      refine L1 (stv hA (by decide) (run_move (hA.ev rfl)) ?_)
      clear hA; intro a hA
      refine L1 (stv hA (by decide) (run_bin (hA.ev rfl) (hA.ev rfl) (bin_gtr _ _ _ _)) ?_)
      clear hA; intro a hA
      refine LQ ?_
      refine TN ?_
      refine tcond (b := (decide ((d_0.getD t112.toNat (0 : Int)) > 31))) hA rfl (fun hb124 => ?_) (fun hb124 => ?_)
      · replace H114 := ite_t hb124 H114
        refine wp_seq ?_
        refine wp_region_lit ?_
        refine L1 (stv hA (by decide) (run_assign (hA.ev rfl)) ?_)
        clear hA; intro a hA
        refine L1 (stv hA (by decide) (run_assign (hA.ev rfl)) ?_)
        clear hA; intro a hA
        refine LQ ?_
        refine TN ?_
        refine wp_ret ?_
        have hM := hM.addnil 5 ((Pl.int .u8)).sz
        obtain rfl := Option.some.inj H114
        dsimp only at H
        obtain rfl := Option.some.inj H
        refine BR ?_
        refine TR ?_
        refine TR ?_
        refine BR ?_
        refine TR ?_
        refine TR ?_
        exact ret_post2 (fn := Try.f11) hA rfl rfl rfl ⟨_, rfl, (.slice none 0 0), rfl, hM⟩
      · replace H114 := ite_f hb124 H114
        refine wp_skip ?_
        refine BN ?_
        refine TN ?_
        refine wp_region_lit ?_
        refine L1 (stv hA (by decide) (run_bin (hA.ev rfl) (hA.ev rfl) (bin_add _ _ _ _)) ?_)
        clear hA; intro a hA
        refine L1 (stv hA (by decide) (run_move (hA.ev rfl)) ?_)
        clear hA; intro a hA
        refine LQ ?_
        exact ⟨_, Nat.lt_succ_self m116, IntKind.i64.wrap (t112 + 1), H114, hM, ((((hA.nil.cons (hA.get 11 _ rfl)).cons (hA.get 10 _ rfl)).cons (hA.get 9 _ rfl)).cons (hA.get 0 _ rfl))⟩
    · replace H114 := ite_f hb118 H114
      refine wp_exit ?_
      refine TX ?_
      refine TX ?_
      refine BX ?_
      exact ⟨Option.some.inj H114, hM, (hA.nil.cons (hA.get 0 _ rfl))⟩
  clear hM hA
  rintro a w126 ⟨rfl, hM, hA⟩
  try dsimp only at H
  refine TN ?_
  refine wp_seq ?_
  refine wp_region_lit ?_
  refine L1 (stv hA (by decide) (run_move (hA.ev rfl)) ?_)
  clear hA; intro a hA
  obtain ⟨r127, H128, H⟩ := Option.bind_eq_some_iff.1 H
  refine L1 (st_call Try.call24 hA [(.slice A0 d_0.length c0), (.int .i64 5), (.int .i64 8)] rfl (by decide) (address_regroup.calls _ _ _ _ _ _ _ _ ((RoV.mk (hM.roC (Ms := []) hr0) (Eq.refl d_0.length) hc0)) (hM.front (Ms := [])) H128) ?_)
  clear hA; rintro _ w129 ⟨v130, rfl, hMc⟩ a hA
  have hE := hMc.below; have hM := hM.call (Ms := []) hMc
  clear hMc; simp only [List.cons_append, List.nil_append] at hM
  obtain ⟨A132, c133, rfl⟩ := RowOk.form (hM.row (p := (Pl.int .u8)) .z)
  refine L1 (stv hA (by decide) (run_move (hA.ev rfl)) ?_)
  clear hA; intro a hA
  refine L1 (stv hA (by decide) (run_ext (hA.ev rfl) rfl) ?_)
  clear hA; intro a hA
  refine L1 (stv hA (by decide) (run_ext (hA.ev rfl) rfl) ?_)
  clear hA; intro a hA
  refine L1 (stv hA (by decide) (run_ext (hA.ev rfl) rfl) ?_)
  clear hA; intro a hA
  refine L1 (stv hA (by decide) (run_assign (hA.ev rfl)) ?_)
  clear hA; intro a hA
  refine L1 (stv hA (by decide) (run_assign (hA.ev rfl)) ?_)
  clear hA; intro a hA
  refine L1 (stv hA (by decide) (run_assign (hA.ev rfl)) ?_)
  clear hA; intro a hA
  refine LQ ?_
  refine TN ?_
  refine wp_seq ?_
  refine wp_seq ?_
  obtain ⟨o139, H138, H⟩ := Option.bind_eq_some_iff.1 H
  refine cutC (fun a w => ∃ (t137 : Bool), t137 = o139 ∧ Mem F w0 w [.row 5 (Pl.int .u8).sz (.slice A132 r127.1.length c133) ((Pl.int .u8).flat r127.1)] ∧ Has 31 [(6, (.slice A132 r127.1.length c133)), (29, (.bool t137))] a) ?_ ?_
  · refine wp_region_lit ?_
    refine L1 (stv hA (by decide) (run_move (hA.ev rfl)) ?_)
    clear hA; intro a hA
    refine L1 (stv hA (by decide) (run_bin (hA.ev rfl) (hA.ev rfl) (bin_geq _ _ _ _)) ?_)
    clear hA; intro a hA
    refine L1 (stv hA (by decide) (run_move (hA.ev rfl)) ?_)
    clear hA; intro a hA
    refine bsplit (b := (decide (r127.2.2 ≥ 5))) (fun hb140 => ?_) (fun hb140 => ?_)
    · replace H138 := ite_t hb140 H138
      have hA := hA.re (t := 26) rfl (congrArg Value.bool hb140)
      refine L1 (gate_off rfl (by decide) rfl hA (by decide) rfl rfl ?_); clear hA; intro a hA
      refine L1 (gate_off rfl (by decide) rfl hA (by decide) rfl rfl ?_); clear hA; intro a hA
      refine L1 (stv hA (by decide) (run_pick (hA.ev rfl) (fun _ => hA.ev rfl) (fun h => Bool.noConfusion h)) ?_)
      clear hA; intro a hA
      refine LQ ?_
      exact ⟨true, Option.some.inj H138, hM, ((hA.nil.cons (hA.get 29 _ rfl)).cons (hA.get 6 _ rfl))⟩
    · replace H138 := ite_f hb140 H138
      have hA := hA.re (t := 26) rfl (congrArg Value.bool hb140)
      refine L1 (gate_on rfl rfl hA (by decide) rfl (stv hA (by decide) (run_move (hA.ev rfl)) ?_))
      clear hA; intro a hA
      refine L1 (gate_on rfl rfl hA (by decide) rfl (stv hA (by decide) (run_bin (hA.ev rfl) (hA.ev rfl) (bin_neq _ _ _ _)) ?_))
      clear hA; intro a hA
      refine L1 (stv hA (by decide) (run_pick (hA.ev rfl) (fun h => Bool.noConfusion h) (fun _ => hA.ev rfl)) ?_)
      clear hA; intro a hA
      refine LQ ?_
      exact ⟨(r127.2.1 != 0), Option.some.inj H138, hM, ((hA.nil.cons (hA.get 29 _ rfl)).cons (hA.get 6 _ rfl))⟩
  clear hM hA
  rintro a w141 ⟨t137, rfl, hM, hA⟩
  try dsimp only at H
  refine TN ?_
  refine tcond (b := t137) hA rfl (fun hb142 => ?_) (fun hb142 => ?_)
  · replace H := ite_t hb142 H
    refine wp_seq ?_
    refine wp_region_lit ?_
    refine L1 (stv hA (by decide) (run_assign (hA.ev rfl)) ?_)
    clear hA; intro a hA
    refine L1 (stv hA (by decide) (run_assign (hA.ev rfl)) ?_)
    clear hA; intro a hA
    refine LQ ?_
    refine TN ?_
    refine wp_ret ?_
    have hM := hM.addnil 5 ((Pl.int .u8)).sz
    obtain rfl := Option.some.inj H
    refine TR ?_
    exact ret_post2 (fn := Try.f11) hA rfl rfl rfl ⟨_, rfl, (.slice none 0 0), rfl, (hM.sel [0] rfl (by decide))⟩
  · replace H := ite_f hb142 H
    refine wp_skip ?_
    refine TN ?_
    refine wp_seq ?_
    refine wp_region_lit ?_
    refine L1 (stv hA (by decide) (run_move (hA.ev rfl)) ?_)
    clear hA; intro a hA
    refine L1 (stv hA (by decide) (run_assign (hA.ev rfl)) ?_)
    clear hA; intro a hA
    refine L1 (stv hA (by decide) (run_assign (hA.ev rfl)) ?_)
    clear hA; intro a hA
    refine LQ ?_
    refine TN ?_
    refine wp_ret ?_
    obtain rfl := Option.some.inj H
    exact ret_post2 (fn := Try.f11) hA rfl rfl rfl ⟨_, rfl, (.slice A132 r127.1.length c133), rfl, hM⟩

def address_Convert.f (k : Nat) (b_0 : (List Int)) : Option (List Int) := ((address_regroup.f k b_0 8 5).bind fun r34 => (Option.bind (α := (List Int)) (if (decide (r34.2.2 > 0)) = true then (if 0 ≤ (IntKind.i64.wrap (5 - r34.2.2)) then (if (r34.1.length + 1) * 1 ≤ 140737488355328 then (some (r34.1 ++ [IntKind.u8.wrap (ishl .i64 r34.2.1 (IntKind.i64.wrap (5 - r34.2.2)))])) else none) else none) else (some r34.1)) (fun xs54 => (some xs54))))
set_option maxRecDepth 100000 in
theorem address_Convert.calls (k : Nat) (b_0 : (List Int)) (F : List (Option Nat)) (v0 : Value) (r : (List Int)) (w0 : World) (h0 : RoV F (Pl.int .u8) w0 v0 b_0) (hM : Mem F w0 w0 []) (H : address_Convert.f k b_0 = some r) :
    Calls Try.prog 14 #[v0] w0 fun e w' => ∃ v, e = .returned v ∧ ∃ (ur_0 : Value), v = ur_0 ∧ Mem F w0 w' [.row 5 (Pl.int .u8).sz ur_0 ((Pl.int .u8).flat r)] := by
  unfold address_Convert.f at H
  obtain ⟨A0, c0, rfl, hr0, hc0⟩ := h0
  refine enterL (n := 23) [(.slice A0 b_0.length c0)] Try.func14 rfl rfl rfl ?_
  intro a hA
  refine wp_seq ?_
  refine wp_region_lit ?_
  refine L1 (stv hA (by decide) (run_assign (hA.ev rfl)) ?_)
  clear hA; intro a hA
  refine LQ ?_
  refine TN ?_
  refine wp_seq ?_
  refine wp_region_lit ?_
  refine L1 (stv hA (by decide) (run_move (hA.ev rfl)) ?_)
  clear hA; intro a hA
  obtain ⟨r34, H35, H⟩ := Option.bind_eq_some_iff.1 H
  refine L1 (st_call Try.call24 hA [(.slice A0 b_0.length c0), (.int .i64 8), (.int .i64 5)] rfl (by decide) (address_regroup.calls _ _ _ _ _ _ _ _ ((RoV.mk (hM.roC (Ms := []) hr0) (Eq.refl b_0.length) hc0)) (hM.front (Ms := [])) H35) ?_)
  clear hA; rintro _ w36 ⟨v37, rfl, hMc⟩ a hA
  have hE := hMc.below; have hM := hM.call (Ms := []) hMc
  clear hMc; simp only [List.cons_append, List.nil_append] at hM
  obtain ⟨A39, c40, rfl⟩ := RowOk.form (hM.row (p := (Pl.int .u8)) .z)
  refine L1 (stv hA (by decide) (run_move (hA.ev rfl)) ?_)
  clear hA; intro a hA
  refine L1 (stv hA (by decide) (run_ext (hA.ev rfl) rfl) ?_)
  clear hA; intro a hA
  refine L1 (stv hA (by decide) (run_ext (hA.ev rfl) rfl) ?_)
  clear hA; intro a hA
  refine L1 (stv hA (by decide) (run_ext (hA.ev rfl) rfl) ?_)
  clear hA; intro a hA
  refine L1 (stv hA (by decide) (run_assign (hA.ev rfl)) ?_)
  clear hA; intro a hA
  refine L1 (stv hA (by decide) (run_assign (hA.ev rfl)) ?_)
  clear hA; intro a hA
  refine L1 (stv hA (by decide) (run_assign (hA.ev rfl)) ?_)
  clear hA; intro a hA
  refine LQ ?_
  refine TN ?_
  refine wp_seq ?_
  refine wp_seq ?_
  refine wp_region_lit ?_
  refine L1 (stv hA (by decide) (run_move (hA.ev rfl)) ?_)
  clear hA; intro a hA
  refine L1 (stv hA (by decide) (run_bin (hA.ev rfl) (hA.ev rfl) (bin_gtr _ _ _ _)) ?_)
  clear hA; intro a hA
  refine LQ ?_
  refine TN ?_
  obtain ⟨o56, H55, H⟩ := Option.bind_eq_some_iff.1 H
  refine cutC (fun a w => ∃ (xs54 : (List Int)) (v51 : Value), xs54 = o56 ∧ Mem F w0 w [.row 5 (Pl.int .u8).sz v51 ((Pl.int .u8).flat xs54)] ∧ Has 23 [(3, v51)] a) ?_ ?_
  · refine tcond (b := (decide (r34.2.2 > 0))) hA rfl (fun hb57 => ?_) (fun hb57 => ?_)
    · replace H55 := ite_t hb57 H55
      refine wp_region_lit ?_
      refine L1 (stv hA (by decide) (run_move (hA.ev rfl)) ?_)
      clear hA; intro a hA
      refine L1 (stv hA (by decide) (run_move (hA.ev rfl)) ?_)
      clear hA; intro a hA
      refine L1 (stv hA (by decide) (run_move (hA.ev rfl)) ?_)
      clear hA; intro a hA
      refine L1 (stv hA (by decide) (run_bin (hA.ev rfl) (hA.ev rfl) (bin_sub _ _ _ _)) ?_)
      clear hA; intro a hA
      obtain ⟨hs58, H55⟩ := ite_some H55
      refine L1 (stv hA (by decide) (run_shl (hA.ev rfl) (hA.ev rfl) hs58) ?_)
      clear hA; intro a hA
      refine L1 (stv hA (by decide) (run_conv Try.underlying3 Try.underlying5 (hA.ev rfl)) ?_)
      clear hA; intro a hA
      refine L1 (e_litN [IntKind.u8.wrap (ishl .i64 r34.2.1 (IntKind.i64.wrap (5 - r34.2.2)))] [(.int .u8 (IntKind.u8.wrap (ishl .i64 r34.2.1 (IntKind.i64.wrap (5 - r34.2.2)))))] elt22 hM rfl (by decide) hA rfl rfl (List.cons_ne_nil _ _) (by decide) ?_)
      clear hM hA; intro w60 g59 hM hE a hA
      obtain ⟨hl64, H55⟩ := ite_some H55
      refine L1 (e_append elt22 hM (fun _ => (.s .z)) (Src.row Try.underlying22 (RowOk.row (hM.row (p := (Pl.int .u8)) .z)) (RowOk.len (hM.row (p := (Pl.int .u8)) .z))) hl64 hA rfl rfl (by decide) ?_)
      clear hM hA; intro w65 A62 c63 hM hE a hA
      refine L1 (stv hA (by decide) (run_assign (hA.ev rfl)) ?_)
      clear hA; intro a hA
      refine LQ ?_
      exact ⟨(r34.1 ++ [IntKind.u8.wrap (ishl .i64 r34.2.1 (IntKind.i64.wrap (5 - r34.2.2)))]), (.slice A62 (r34.1.length + 1) c63), Option.some.inj H55, (hM.sel [1] rfl (by decide)), (hA.nil.cons (hA.get 3 _ rfl))⟩
    · replace H55 := ite_f hb57 H55
      refine wp_skip ?_
      exact ⟨r34.1, (.slice A39 r34.1.length c40), Option.some.inj H55, hM, (hA.nil.cons (hA.get 3 _ rfl))⟩
  clear hM hA
  rintro a w66 ⟨xs54, v51, rfl, hM, hA⟩
  try dsimp only at H
  obtain ⟨A52, c53, rfl⟩ := RowOk.form (hM.row (p := (Pl.int .u8)) .z)
  refine TN ?_
  refine wp_seq ?_
  refine wp_region_lit ?_
  refine L1 (stv hA (by decide) (run_move (hA.ev rfl)) ?_)
  clear hA; intro a hA
  refine L1 (stv hA (by decide) (run_assign (hA.ev rfl)) ?_)
  clear hA; intro a hA
  refine LQ ?_
  refine TN ?_
  refine wp_ret ?_
  obtain rfl := Option.some.inj H
  exact ret_post1 (fn := Try.f14) hA rfl rfl ⟨_, rfl, (.slice A52 xs54.length c53), rfl, hM⟩

def law27_sane.f (k : Nat)  : Option Bool := ((address_Convert.f k [(255 : Int)]).bind fun r55 => ((address_Back.f k [(31 : Int), (29 : Int)]).bind fun r65 => (Option.bind (α := Bool) (if (((r55.length : Nat) : Int) == 2) = true then (if 0 ≤ (0 : Int) ∧ (0 : Int) < ((r55.length : Nat) : Int) then (if ((r55.getD (0 : Int).toNat (0 : Int)) == 31) = true then (if 0 ≤ (1 : Int) ∧ (1 : Int) < ((r55.length : Nat) : Int) then (if ((r55.getD (1 : Int).toNat (0 : Int)) == 28) = true then (some (r65.2 == 3)) else (some false)) else none) else (some false)) else none) else (some false)) (fun t86 => (some t86)))))
set_option maxRecDepth 100000 in
theorem law27_sane.calls (k : Nat)  (F : List (Option Nat)) (r : Bool) (w0 : World) (hM : Mem F w0 w0 []) (H : law27_sane.f k  = some r) :
    Calls Try.prog 9 #[] w0 fun e w' => ∃ v, e = .returned v ∧ v = (.bool r) ∧ Mem F w0 w' [] := by
  unfold law27_sane.f at H
  refine enterL (n := 30) [] Try.func9 rfl rfl rfl ?_
  intro a hA
  refine wp_seq ?_
  refine wp_region_lit ?_
  refine L1 (stv hA (by decide) (run_assign (hA.ev rfl)) ?_)
  clear hA; intro a hA
  refine LQ ?_
  refine TN ?_
  refine wp_seq ?_
  refine wp_region_lit ?_
  refine L1 (e_litN [(255 : Int)] [(.int .u8 255)] elt22 hM rfl (by decide) hA rfl rfl (List.cons_ne_nil _ _) (by decide) ?_)
  clear hM hA; intro w53 g52 hM hE a hA
  obtain ⟨r55, H56, H⟩ := Option.bind_eq_some_iff.1 H
  refine L1 (st_call Try.call14 hA [(.slice (some ⟨g52, 0, none⟩) 1 1)] rfl (by decide) (address_Convert.calls _ _ _ _ _ _ ((RoV.mk (hM.rowC (p := (Pl.int .u8)) (Ms := []) .z) (RowOk.len (hM.row (p := (Pl.int .u8)) .z)) (RowOk.cap (hM.row (p := (Pl.int .u8)) .z)))) (hM.front (Ms := [])) H56) ?_)
  clear hA; rintro _ w57 ⟨v58, rfl, hMc⟩ a hA
  have hE := hMc.below; have hM := hM.call (Ms := []) hMc
  clear hMc; simp only [List.cons_append, List.nil_append] at hM
  obtain ⟨A60, c61, rfl⟩ := RowOk.form (hM.row (p := (Pl.int .u8)) .z)
  refine L1 (stv hA (by decide) (run_assign (hA.ev rfl)) ?_)
  clear hA; intro a hA
  refine LQ ?_
  refine TN ?_
  refine wp_seq ?_
  refine wp_region_lit ?_
  refine L1 (e_litN [(31 : Int), (29 : Int)] [(.int .u8 31), (.int .u8 29)] elt22 hM rfl (by decide) hA rfl rfl (List.cons_ne_nil _ _) (by decide) ?_)
  clear hM hA; intro w63 g62 hM hE a hA
  obtain ⟨r65, H66, H⟩ := Option.bind_eq_some_iff.1 H
  refine L1 (st_call Try.call11 hA [(.slice (some ⟨g62, 0, none⟩) 2 2)] rfl (by decide) (address_Back.calls _ _ _ _ _ _ ((RoV.mk (hM.rowC (p := (Pl.int .u8)) (Ms := []) .z) (RowOk.len (hM.row (p := (Pl.int .u8)) .z)) (RowOk.cap (hM.row (p := (Pl.int .u8)) .z)))) (hM.front (Ms := [])) H66) ?_)
  clear hA; rintro _ w67 ⟨v68, rfl, hMc⟩ a hA
  have hE := hMc.below; have hM := hM.call (Ms := []) hMc
  clear hMc; simp only [List.cons_append, List.nil_append] at hM
  obtain ⟨A70, c71, rfl⟩ := RowOk.form (hM.row (p := (Pl.int .u8)) .z)
  refine L1 (stv hA (by decide) (run_move (hA.ev rfl)) ?_)
  clear hA; intro a hA
  refine L1 (stv hA (by decide) (run_ext (hA.ev rfl) rfl) ?_)
  clear hA; intro a hA
  refine L1 (stv hA (by decide) (run_ext (hA.ev rfl) rfl) ?_)
  clear hA; intro a hA
  refine L1 (stv hA (by decide) (run_assign (hA.ev rfl)) ?_)
  clear hA; intro a hA
  refine L1 (stv hA (by decide) (run_assign (hA.ev rfl)) ?_)
  clear hA; intro a hA
  refine LQ ?_
  refine TN ?_
  refine wp_seq ?_
  obtain ⟨o88, H87, H⟩ := Option.bind_eq_some_iff.1 H
  refine cutC (fun a w => ∃ (t86 : Bool), t86 = o88 ∧ Mem F w0 w [] ∧ Has 30 [(0, (.bool t86))] a) ?_ ?_
  · refine wp_region_lit ?_
    refine L1 (stv hA (by decide) (run_move (hA.ev rfl)) ?_)
    clear hA; intro a hA
    refine L1 (stv hA (by decide) (run_len_slice Try.underlying22 (hA.ev rfl)) ?_)
    clear hA; intro a hA
    refine L1 (stv hA (by decide) (run_bin (hA.ev rfl) (hA.ev rfl) (bin_eql _ _ _ _)) ?_)
    clear hA; intro a hA
    refine L1 (stv hA (by decide) (run_move (hA.ev rfl)) ?_)
    clear hA; intro a hA
    refine bsplit (b := (((r55.length : Nat) : Int) == 2)) (fun hb89 => ?_) (fun hb89 => ?_)
    · replace H87 := ite_t hb89 H87
      have hA := hA.re (t := 14) rfl (congrArg Value.bool hb89)
      refine L1 (gate_on rfl rfl hA (by decide) rfl (stv hA (by decide) (run_move (hA.ev rfl)) ?_))
      clear hA; intro a hA
      obtain ⟨⟨hi90, hj91⟩, H87⟩ := ite_some H87
      obtain ⟨ad92, hq93, hat94⟩ := Row.elem' (p := (Pl.int .u8)) (RowOk.row (hM.row (p := (Pl.int .u8)) (.s (.s .z)))) (RowOk.len (hM.row (p := (Pl.int .u8)) (.s (.s .z)))) (0 : Int) (0 : Int) hi90 hj91
      refine L1 (gate_on rfl rfl hA (by decide) rfl (stv hA (by decide) (run_idx Try.underlying22 Try.sizeOf5 (hA.ev rfl) hq93 (hA.ev rfl) hi90 hj91) ?_))
      clear hA; intro a hA
      refine L1 (gate_on rfl rfl hA (by decide) rfl (stv hA (by decide) (run_ld (hA.ev rfl) (run_loadS Try.isAgg5 hat94)) ?_))
      clear hA; intro a hA
      refine L1 (gate_on rfl rfl hA (by decide) rfl (stv hA (by decide) (run_bin (hA.ev rfl) (hA.ev rfl) (bin_eql _ _ _ _)) ?_))
      clear hA; intro a hA
      refine L1 (stv hA (by decide) (run_pick (hA.ev rfl) (fun _ => hA.ev rfl) (fun h => Bool.noConfusion h)) ?_)
      clear hA; intro a hA
      refine L1 (stv hA (by decide) (run_move (hA.ev rfl)) ?_)
      clear hA; intro a hA
      refine bsplit (b := ((r55.getD (0 : Int).toNat (0 : Int)) == 31)) (fun hb95 => ?_) (fun hb95 => ?_)
      · replace H87 := ite_t hb95 H87
        have hA := hA.re (t := 20) rfl (congrArg Value.bool hb95)
        refine L1 (gate_on rfl rfl hA (by decide) rfl (stv hA (by decide) (run_move (hA.ev rfl)) ?_))
        clear hA; intro a hA
        obtain ⟨⟨hi96, hj97⟩, H87⟩ := ite_some H87
        obtain ⟨ad98, hq99, hat100⟩ := Row.elem' (p := (Pl.int .u8)) (RowOk.row (hM.row (p := (Pl.int .u8)) (.s (.s .z)))) (RowOk.len (hM.row (p := (Pl.int .u8)) (.s (.s .z)))) (0 : Int) (1 : Int) hi96 hj97
        refine L1 (gate_on rfl rfl hA (by decide) rfl (stv hA (by decide) (run_idx Try.underlying22 Try.sizeOf5 (hA.ev rfl) hq99 (hA.ev rfl) hi96 hj97) ?_))
        clear hA; intro a hA
        refine L1 (gate_on rfl rfl hA (by decide) rfl (stv hA (by decide) (run_ld (hA.ev rfl) (run_loadS Try.isAgg5 hat100)) ?_))
        clear hA; intro a hA
        refine L1 (gate_on rfl rfl hA (by decide) rfl (stv hA (by decide) (run_bin (hA.ev rfl) (hA.ev rfl) (bin_eql _ _ _ _)) ?_))
        clear hA; intro a hA
        refine L1 (stv hA (by decide) (run_pick (hA.ev rfl) (fun _ => hA.ev rfl) (fun h => Bool.noConfusion h)) ?_)
        clear hA; intro a hA
        refine L1 (stv hA (by decide) (run_move (hA.ev rfl)) ?_)
        clear hA; intro a hA
        refine bsplit (b := ((r55.getD (1 : Int).toNat (0 : Int)) == 28)) (fun hb101 => ?_) (fun hb101 => ?_)
        · replace H87 := ite_t hb101 H87
          have hA := hA.re (t := 26) rfl (congrArg Value.bool hb101)
          refine L1 (gate_on rfl rfl hA (by decide) rfl (stv hA (by decide) (run_move (hA.ev rfl)) ?_))
          clear hA; intro a hA
          refine L1 (gate_on rfl rfl hA (by decide) rfl (stv hA (by decide) (run_bin (hA.ev rfl) (hA.ev rfl) (bin_eql _ _ _ _)) ?_))
          clear hA; intro a hA
          refine L1 (stv hA (by decide) (run_pick (hA.ev rfl) (fun _ => hA.ev rfl) (fun h => Bool.noConfusion h)) ?_)
          clear hA; intro a hA
          refine L1 (stv hA (by decide) (run_assign (hA.ev rfl)) ?_)
          clear hA; intro a hA
          refine LQ ?_
          exact ⟨(r65.2 == 3), Option.some.inj H87, (hM.sel [] rfl (by decide)), (hA.nil.cons (hA.get 0 _ rfl))⟩
        · replace H87 := ite_f hb101 H87
          have hA := hA.re (t := 26) rfl (congrArg Value.bool hb101)
          refine L1 (gate_off rfl (by decide) rfl hA (by decide) rfl rfl ?_); clear hA; intro a hA
          refine L1 (gate_off rfl (by decide) rfl hA (by decide) rfl rfl ?_); clear hA; intro a hA
          refine L1 (stv hA (by decide) (run_pick (hA.ev rfl) (fun h => Bool.noConfusion h) (fun _ => hA.ev rfl)) ?_)
          clear hA; intro a hA
          refine L1 (stv hA (by decide) (run_assign (hA.ev rfl)) ?_)
          clear hA; intro a hA
          refine LQ ?_
          exact ⟨false, Option.some.inj H87, (hM.sel [] rfl (by decide)), (hA.nil.cons (hA.get 0 _ rfl))⟩
      · replace H87 := ite_f hb95 H87
        have hA := hA.re (t := 20) rfl (congrArg Value.bool hb95)
        refine L1 (gate_off rfl (by decide) rfl hA (by decide) rfl rfl ?_); clear hA; intro a hA
        refine L1 (gate_off rfl (by decide) rfl hA (by decide) rfl rfl ?_); clear hA; intro a hA
        refine L1 (gate_off rfl (by decide) rfl hA (by decide) rfl rfl ?_); clear hA; intro a hA
        refine L1 (gate_off rfl (by decide) rfl hA (by decide) rfl rfl ?_); clear hA; intro a hA
        refine L1 (stv hA (by decide) (run_pick (hA.ev rfl) (fun h => Bool.noConfusion h) (fun _ => hA.ev rfl)) ?_)
        clear hA; intro a hA
        refine L1 (stv hA (by decide) (run_move (hA.ev rfl)) ?_)
        clear hA; intro a hA
        refine L1 (gate_off rfl (by decide) rfl hA (by decide) rfl rfl ?_); clear hA; intro a hA
        refine L1 (gate_off rfl (by decide) rfl hA (by decide) rfl rfl ?_); clear hA; intro a hA
        refine L1 (stv hA (by decide) (run_pick (hA.ev rfl) (fun h => Bool.noConfusion h) (fun _ => hA.ev rfl)) ?_)
        clear hA; intro a hA
        refine L1 (stv hA (by decide) (run_assign (hA.ev rfl)) ?_)
        clear hA; intro a hA
        refine LQ ?_
        exact ⟨false, Option.some.inj H87, (hM.sel [] rfl (by decide)), (hA.nil.cons (hA.get 0 _ rfl))⟩
    · replace H87 := ite_f hb89 H87
      have hA := hA.re (t := 14) rfl (congrArg Value.bool hb89)
      refine L1 (gate_off rfl (by decide) rfl hA (by decide) rfl rfl ?_); clear hA; intro a hA
      refine L1 (gate_off rfl (by decide) rfl hA (by decide) rfl rfl ?_); clear hA; intro a hA
      refine L1 (gate_off rfl (by decide) rfl hA (by decide) rfl rfl ?_); clear hA; intro a hA
      refine L1 (gate_off rfl (by decide) rfl hA (by decide) rfl rfl ?_); clear hA; intro a hA
      refine L1 (stv hA (by decide) (run_pick (hA.ev rfl) (fun h => Bool.noConfusion h) (fun _ => hA.ev rfl)) ?_)
      clear hA; intro a hA
      refine L1 (stv hA (by decide) (run_move (hA.ev rfl)) ?_)
      clear hA; intro a hA
      refine L1 (gate_off rfl (by decide) rfl hA (by decide) rfl rfl ?_); clear hA; intro a hA
      refine L1 (gate_off rfl (by decide) rfl hA (by decide) rfl rfl ?_); clear hA; intro a hA
      refine L1 (gate_off rfl (by decide) rfl hA (by decide) rfl rfl ?_); clear hA; intro a hA
      refine L1 (gate_off rfl (by decide) rfl hA (by decide) rfl rfl ?_); clear hA; intro a hA
      refine L1 (stv hA (by decide) (run_pick (hA.ev rfl) (fun h => Bool.noConfusion h) (fun _ => hA.ev rfl)) ?_)
      clear hA; intro a hA
      refine L1 (stv hA (by decide) (run_move (hA.ev rfl)) ?_)
      clear hA; intro a hA
      refine L1 (gate_off rfl (by decide) rfl hA (by decide) rfl rfl ?_); clear hA; intro a hA
      refine L1 (gate_off rfl (by decide) rfl hA (by decide) rfl rfl ?_); clear hA; intro a hA
      refine L1 (stv hA (by decide) (run_pick (hA.ev rfl) (fun h => Bool.noConfusion h) (fun _ => hA.ev rfl)) ?_)
      clear hA; intro a hA
      refine L1 (stv hA (by decide) (run_assign (hA.ev rfl)) ?_)
      clear hA; intro a hA
      refine LQ ?_
      exact ⟨false, Option.some.inj H87, (hM.sel [] rfl (by decide)), (hA.nil.cons (hA.get 0 _ rfl))⟩
  clear hM hA
  rintro a w102 ⟨t86, rfl, hM, hA⟩
  try dsimp only at H
  refine TN ?_
  refine wp_ret ?_
  obtain rfl := Option.some.inj H
  exact ret_post1 (fn := Try.f9) hA rfl rfl ⟨_, rfl, rfl, hM⟩

def mill_Mod.f (k : Nat) (v_0 : Int) (n_1 : Int) : Option Int := (if ¬ n_1 = 0 then (Option.bind (α := Int) (if (decide ((v_0.tmod n_1) < 0)) = true then (some (IntKind.i64.wrap ((v_0.tmod n_1) + n_1))) else (some (v_0.tmod n_1))) (fun t12 => (some t12))) else none)
set_option maxRecDepth 100000 in
theorem mill_Mod.calls (k : Nat) (v_0 : Int) (n_1 : Int) (F : List (Option Nat)) (r : Int) (w0 : World) (hM : Mem F w0 w0 []) (H : mill_Mod.f k v_0 n_1 = some r) :
    Calls Try.prog 16 #[(.int .i64 v_0), (.int .i64 n_1)] w0 fun e w' => ∃ v, e = .returned v ∧ v = (.int .i64 r) ∧ Mem F w0 w' [] := by
  unfold mill_Mod.f at H
  refine enterL (n := 15) [(.int .i64 v_0), (.int .i64 n_1)] Try.func16 rfl rfl rfl ?_
  intro a hA
  refine wp_seq ?_
  refine wp_region_lit ?_
  refine L1 (stv hA (by decide) (run_assign (hA.ev rfl)) ?_)
  clear hA; intro a hA
  refine LQ ?_
  refine TN ?_
  refine wp_seq ?_
  refine wp_region_lit ?_
  refine L1 (stv hA (by decide) (run_move (hA.ev rfl)) ?_)
  clear hA; intro a hA
  refine L1 (stv hA (by decide) (run_move (hA.ev rfl)) ?_)
  clear hA; intro a hA
  obtain ⟨hd9, H⟩ := ite_some H
  refine L1 (stv hA (by decide) (run_bin (hA.ev rfl) (hA.ev rfl) (bin_rem _ _ _ _ hd9)) ?_)
  clear hA; intro a hA
  refine L1 (stv hA (by decide) (run_assign (hA.ev rfl)) ?_)
  clear hA; intro a hA
  refine LQ ?_
  refine TN ?_
  refine wp_seq ?_
  refine wp_seq ?_
  refine wp_region_lit ?_
  refine L1 (stv hA (by decide) (run_move (hA.ev rfl)) ?_)
  clear hA; intro a hA
  refine L1 (stv hA (by decide) (run_bin (hA.ev rfl) (hA.ev rfl) (bin_lss _ _ _ _)) ?_)
  clear hA; intro a hA
  refine LQ ?_
  refine TN ?_
  obtain ⟨o14, H13, H⟩ := Option.bind_eq_some_iff.1 H
  refine cutC (fun a w => ∃ (t12 : Int), t12 = o14 ∧ Mem F w0 w [] ∧ Has 15 [(5, (.int .i64 t12))] a) ?_ ?_
  · refine tcond (b := (decide ((v_0.tmod n_1) < 0))) hA rfl (fun hb15 => ?_) (fun hb15 => ?_)
    · replace H13 := ite_t hb15 H13
      refine wp_region_lit ?_
      refine L1 (stv hA (by decide) (run_move (hA.ev rfl)) ?_)
      clear hA; intro a hA
      refine L1 (stv hA (by decide) (run_move (hA.ev rfl)) ?_)
      clear hA; intro a hA
      refine L1 (stv hA (by decide) (run_bin (hA.ev rfl) (hA.ev rfl) (bin_add _ _ _ _)) ?_)
      clear hA; intro a hA
      refine L1 (stv hA (by decide) (run_assign (hA.ev rfl)) ?_)
      clear hA; intro a hA
      refine LQ ?_
      exact ⟨IntKind.i64.wrap ((v_0.tmod n_1) + n_1), Option.some.inj H13, hM, (hA.nil.cons (hA.get 5 _ rfl))⟩
    · replace H13 := ite_f hb15 H13
      refine wp_skip ?_
      exact ⟨v_0.tmod n_1, Option.some.inj H13, hM, (hA.nil.cons (hA.get 5 _ rfl))⟩
  clear hM hA
  rintro a w16 ⟨t12, rfl, hM, hA⟩
  try dsimp only at H
  refine TN ?_
  refine wp_seq ?_
  refine wp_region_lit ?_
  refine L1 (stv hA (by decide) (run_move (hA.ev rfl)) ?_)
  clear hA; intro a hA
  refine L1 (stv hA (by decide) (run_assign (hA.ev rfl)) ?_)
  clear hA; intro a hA
  refine LQ ?_
  refine TN ?_
  refine wp_ret ?_
  obtain rfl := Option.some.inj H
  exact ret_post1 (fn := Try.f16) hA rfl rfl ⟨_, rfl, rfl, hM⟩

def law27_prefix.f (k : Nat) (n_0 : Int) : Option ByteArray := ((mill_Mod.f k n_0 5).bind fun r15 => (if 0 ≤ r15 ∧ r15 < ((5 : Nat) : Int) then (some ([(⟨#[108, 99]⟩ : ByteArray), (⟨#[97]⟩ : ByteArray), (⟨#[97, 98, 99, 100, 101, 102, 103, 104, 105, 106]⟩ : ByteArray), (⟨#[122]⟩ : ByteArray), (⟨#[116, 108, 99]⟩ : ByteArray)].getD r15.toNat ByteArray.empty)) else none))
set_option maxRecDepth 100000 in
theorem law27_prefix.calls (k : Nat) (n_0 : Int) (F : List (Option Nat)) (r : ByteArray) (w0 : World) (hM : Mem F w0 w0 []) (H : law27_prefix.f k n_0 = some r) :
    Calls Try.prog 15 #[(.int .i64 n_0)] w0 fun e w' => ∃ v, e = .returned v ∧ v = (.string r) ∧ Mem F w0 w' [] := by
  unfold law27_prefix.f at H
  refine enterL (n := 8) [(.int .i64 n_0)] Try.func15 rfl rfl rfl ?_
  intro a hA
  refine wp_seq ?_
  refine wp_region_lit ?_
  refine L1 (stv hA (by decide) (run_assign (hA.ev rfl)) ?_)
  clear hA; intro a hA
  refine LQ ?_
  refine TN ?_
  refine wp_seq ?_
  refine wp_region_lit ?_
  refine L1 (e_litN [(⟨#[108, 99]⟩ : ByteArray), (⟨#[97]⟩ : ByteArray), (⟨#[97, 98, 99, 100, 101, 102, 103, 104, 105, 106]⟩ : ByteArray), (⟨#[122]⟩ : ByteArray), (⟨#[116, 108, 99]⟩ : ByteArray)] [(.string (⟨#[108, 99]⟩ : ByteArray)), (.string (⟨#[97]⟩ : ByteArray)), (.string (⟨#[97, 98, 99, 100, 101, 102, 103, 104, 105, 106]⟩ : ByteArray)), (.string (⟨#[122]⟩ : ByteArray)), (.string (⟨#[116, 108, 99]⟩ : ByteArray))] elt37 hM rfl (by decide) hA rfl rfl (List.cons_ne_nil _ _) (by decide) ?_)
  clear hM hA; intro w13 g12 hM hE a hA
  refine L1 (stv hA (by decide) (run_move (hA.ev rfl)) ?_)
  clear hA; intro a hA
  obtain ⟨r15, H16, H⟩ := Option.bind_eq_some_iff.1 H
  refine L1 (st_call Try.call16 hA [(.int .i64 n_0), (.int .i64 5)] rfl (by decide) (mill_Mod.calls _ _ _ _ _ _ (hM.front (Ms := [])) H16) ?_)
  clear hA; rintro _ w17 ⟨rfl, hMc⟩ a hA
  have hE := hMc.below; have hM := hM.call (Ms := []) hMc
  clear hMc; simp only [List.cons_append, List.nil_append] at hM
  obtain ⟨⟨hi18, hj19⟩, H⟩ := ite_some H
  obtain ⟨ad20, hq21, hat22⟩ := Row.elem' (p := Pl.str) (RowOk.row (hM.row (p := Pl.str) .z)) (RowOk.len (hM.row (p := Pl.str) .z)) ByteArray.empty r15 hi18 hj19
  refine L1 (stv hA (by decide) (run_idx Try.underlying37 Try.sizeOf9 (hA.ev rfl) hq21 (hA.ev rfl) hi18 hj19) ?_)
  clear hA; intro a hA
  refine L1 (stv hA (by decide) (run_ld (hA.ev rfl) (run_loadS Try.isAgg9 hat22)) ?_)
  clear hA; intro a hA
  refine L1 (stv hA (by decide) (run_assign (hA.ev rfl)) ?_)
  clear hA; intro a hA
  refine LQ ?_
  refine TN ?_
  refine wp_ret ?_
  obtain rfl := Option.some.inj H
  exact ret_post1 (fn := Try.f15) hA rfl rfl ⟨_, rfl, rfl, (hM.sel [] rfl (by decide))⟩

def address_Prefix.l0 (s_0 : ByteArray) : Nat → Int → Option (Out Bool (Unit))
  | 0, _ => none
  | k + 1, t183 => (if (decide (t183 < ((s_0.size : Nat) : Int))) = true then (Option.bind (α := Bool) (if 0 ≤ t183 ∧ t183 < ((s_0.size : Nat) : Int) then (if (decide ((sg s_0 t183) < 97)) = true then (some true) else (if 0 ≤ t183 ∧ t183 < ((s_0.size : Nat) : Int) then (some (decide ((sg s_0 t183) > 122))) else none)) else none) (fun t199 => (if t199 = true then (some (.ret false)) else (address_Prefix.l0 s_0 k (IntKind.i64.wrap (t183 + 1)))))) else (some (.go ())))
def address_Prefix.f (k : Nat) (s_0 : ByteArray) : Option Bool := (Option.bind (α := Out Bool (Unit)) (address_Prefix.l0 s_0 k 0) (fun o => match o with | .ret r => some r | .go _ => (Option.bind (α := Bool) (if (decide (((s_0.size : Nat) : Int) ≥ 1)) = true then (some (decide (((s_0.size : Nat) : Int) ≤ 10))) else (some false)) (fun t212 => (some t212)))))
set_option maxRecDepth 100000 in
theorem address_Prefix.calls (k : Nat) (s_0 : ByteArray) (F : List (Option Nat)) (r : Bool) (w0 : World) (hM : Mem F w0 w0 []) (H : address_Prefix.f k s_0 = some r) :
    Calls Try.prog 17 #[(.string s_0)] w0 fun e w' => ∃ v, e = .returned v ∧ v = (.bool r) ∧ Mem F w0 w' [] := by
  unfold address_Prefix.f at H
  refine enterL (n := 28) [(.string s_0)] Try.func17 rfl rfl rfl ?_
  intro a hA
  refine wp_seq ?_
  refine wp_region_lit ?_
  refine L1 (stv hA (by decide) (run_assign (hA.ev rfl)) ?_)
  clear hA; intro a hA
  refine LQ ?_
  refine TN ?_
  refine wp_seq ?_
  refine wp_seq ?_
  refine wp_region_lit ?_
  refine L1 (stv hA (by decide) (run_move (hA.ev rfl)) ?_)
  clear hA; intro a hA
  refine L1 (stv hA (by decide) (run_len_str Try.underlying9 (hA.ev rfl)) ?_)
  clear hA; intro a hA
  refine L1 (stv hA (by decide) (run_move (hA.ev rfl)) ?_)
  clear hA; intro a hA
  refine LQ ?_
  refine TN ?_
  obtain ⟨o186, H185, H⟩ := Option.bind_eq_some_iff.1 H
  refine cutC (fun a w => (.go ()) = o186 ∧ Mem F w0 w [] ∧ Has 28 [(0, (.string s_0))] a) ?_ ?_
  · refine wp_block ?_
    refine wp_loop_ghost (fun m a w => ∃ (t183 : Int), address_Prefix.l0 s_0 m t183 = some o186 ∧ Mem F w0 w [] ∧ Has 28 [(0, (.string s_0)), (5, (.int .i64 ((s_0.size : Nat) : Int))), (6, (.int .i64 t183))] a) k ⟨0, H185, hM, (((hA.nil.cons (hA.get 6 _ rfl)).cons (hA.get 5 _ rfl)).cons (hA.get 0 _ rfl))⟩ ?_
    clear hM hA; rintro m187 a w188 ⟨t183, H185, hM, hA⟩
    cases m187 with
    | zero => exact absurd H185 (by simp [address_Prefix.l0])
    | succ m187 =>
    rw [address_Prefix.l0] at H185
    refine wp_seq ?_
    refine wp_region_lit ?_
    refine L1 (stv hA (by decide) (run_bin (hA.ev rfl) (hA.ev rfl) (bin_lss _ _ _ _)) ?_)
    clear hA; intro a hA
    refine LQ ?_
    refine TN ?_
    refine wp_seq ?_
    refine tcond (b := (decide (t183 < ((s_0.size : Nat) : Int)))) hA rfl (fun hb189 => ?_) (fun hb189 => ?_)
    · replace H185 := ite_t hb189 H185
      refine wp_skip ?_
      refine TN ?_
      refine wp_seq ?_
      refine wp_block ?_
      refine wp_seq ?_
      refine wp_region_lit ?_
      refine L1 (stv hA (by decide) (run_move (hA.ev rfl)) ?_)
      clear hA; intro a hA
      refine L1 (stv hA (by decide) (run_assign (hA.ev rfl)) ?_)
      clear hA; intro a hA
      refine LQ ?_
      refine TN ?_
      refine wp_seq ?_
      obtain ⟨o201, H200, H185⟩ := Option.bind_eq_some_iff.1 H185
      refine cutC (fun a w => ∃ (t199 : Bool), t199 = o201 ∧ Mem F w0 w [] ∧ Has 28 [(0, (.string s_0)), (5, (.int .i64 ((s_0.size : Nat) : Int))), (6, (.int .i64 t183)), (18, (.bool t199))] a) ?_ ?_
      · refine wp_region_lit ?_
        refine L1 (stv hA (by decide) (run_move (hA.ev rfl)) ?_)
        clear hA; intro a hA
        refine L1 (stv hA (by decide) (run_move (hA.ev rfl)) ?_)
        clear hA; intro a hA
        obtain ⟨⟨hi202, hj203⟩, H200⟩ := ite_some H200
        refine L1 (stv hA (by decide) (run_index_str Try.underlying9 (hA.ev rfl) (hA.ev rfl) hi202 hj203) ?_)
        clear hA; intro a hA
        refine L1 (stv hA (by decide) (run_bin (hA.ev rfl) (hA.ev rfl) (bin_lss _ _ _ _)) ?_)
        clear hA; intro a hA
        refine L1 (stv hA (by decide) (run_move (hA.ev rfl)) ?_)
        clear hA; intro a hA
        refine bsplit (b := (decide ((sg s_0 t183) < 97))) (fun hb204 => ?_) (fun hb204 => ?_)
        · replace H200 := ite_t hb204 H200
          have hA := hA.re (t := 13) rfl (congrArg Value.bool hb204)
          refine L1 (gate_off rfl (by decide) rfl hA (by decide) rfl rfl ?_); clear hA; intro a hA
          refine L1 (gate_off rfl (by decide) rfl hA (by decide) rfl rfl ?_); clear hA; intro a hA
          refine L1 (gate_off rfl (by decide) rfl hA (by decide) rfl rfl ?_); clear hA; intro a hA
          refine L1 (gate_off rfl (by decide) rfl hA (by decide) rfl rfl ?_); clear hA; intro a hA
          refine L1 (stv hA (by decide) (run_pick (hA.ev rfl) (fun _ => hA.ev rfl) (fun h => Bool.noConfusion h)) ?_)
          clear hA; intro a hA
          refine LQ ?_
          exact ⟨true, Option.some.inj H200, hM, ((((hA.nil.cons (hA.get 18 _ rfl)).cons (hA.get 6 _ rfl)).cons (hA.get 5 _ rfl)).cons (hA.get 0 _ rfl))⟩
        · replace H200 := ite_f hb204 H200
          have hA := hA.re (t := 13) rfl (congrArg Value.bool hb204)
          refine L1 (gate_on rfl rfl hA (by decide) rfl (stv hA (by decide) (run_move (hA.ev rfl)) ?_))
          clear hA; intro a hA
          refine L1 (gate_on rfl rfl hA (by decide) rfl (stv hA (by decide) (run_move (hA.ev rfl)) ?_))
          clear hA; intro a hA
          obtain ⟨⟨hi205, hj206⟩, H200⟩ := ite_some H200
          refine L1 (gate_on rfl rfl hA (by decide) rfl (stv hA (by decide) (run_index_str Try.underlying9 (hA.ev rfl) (hA.ev rfl) hi205 hj206) ?_))
          clear hA; intro a hA
          refine L1 (gate_on rfl rfl hA (by decide) rfl (stv hA (by decide) (run_bin (hA.ev rfl) (hA.ev rfl) (bin_gtr _ _ _ _)) ?_))
          clear hA; intro a hA
          refine L1 (stv hA (by decide) (run_pick (hA.ev rfl) (fun h => Bool.noConfusion h) (fun _ => hA.ev rfl)) ?_)
          clear hA; intro a hA
          refine LQ ?_
          exact ⟨(decide ((sg s_0 t183) > 122)), Option.some.inj H200, hM, ((((hA.nil.cons (hA.get 18 _ rfl)).cons (hA.get 6 _ rfl)).cons (hA.get 5 _ rfl)).cons (hA.get 0 _ rfl))⟩
      clear hM hA
      rintro a w207 ⟨t199, rfl, hM, hA⟩
      try dsimp only at H185
      refine TN ?_
      refine tcond (b := t199) hA rfl (fun hb208 => ?_) (fun hb208 => ?_)
      · replace H185 := ite_t hb208 H185
        refine wp_seq ?_
        refine wp_region_lit ?_
        refine L1 (stv hA (by decide) (run_assign (hA.ev rfl)) ?_)
        clear hA; intro a hA
        refine LQ ?_
        refine TN ?_
        refine wp_ret ?_
        obtain rfl := Option.some.inj H185
        dsimp only at H
        obtain rfl := Option.some.inj H
        refine BR ?_
        refine TR ?_
        refine TR ?_
        refine BR ?_
        refine TR ?_
        refine TR ?_
        exact ret_post1 (fn := Try.f17) hA rfl rfl ⟨_, rfl, rfl, hM⟩
      · replace H185 := ite_f hb208 H185
        refine wp_skip ?_
        refine BN ?_
        refine TN ?_
        refine wp_region_lit ?_
        refine L1 (stv hA (by decide) (run_bin (hA.ev rfl) (hA.ev rfl) (bin_add _ _ _ _)) ?_)
        clear hA; intro a hA
        refine L1 (stv hA (by decide) (run_move (hA.ev rfl)) ?_)
        clear hA; intro a hA
        refine LQ ?_
        exact ⟨_, Nat.lt_succ_self m187, IntKind.i64.wrap (t183 + 1), H185, hM, (((hA.nil.cons (hA.get 6 _ rfl)).cons (hA.get 5 _ rfl)).cons (hA.get 0 _ rfl))⟩
    · replace H185 := ite_f hb189 H185
      refine wp_exit ?_
      refine TX ?_
      refine TX ?_
      refine BX ?_
      exact ⟨Option.some.inj H185, hM, (hA.nil.cons (hA.get 0 _ rfl))⟩
  clear hM hA
  rintro a w209 ⟨rfl, hM, hA⟩
  try dsimp only at H
  refine TN ?_
  refine wp_seq ?_
  obtain ⟨o214, H213, H⟩ := Option.bind_eq_some_iff.1 H
  refine cutC (fun a w => ∃ (t212 : Bool), t212 = o214 ∧ Mem F w0 w [] ∧ Has 28 [(2, (.bool t212))] a) ?_ ?_
  · refine wp_region_lit ?_
    refine L1 (stv hA (by decide) (run_move (hA.ev rfl)) ?_)
    clear hA; intro a hA
    refine L1 (stv hA (by decide) (run_len_str Try.underlying9 (hA.ev rfl)) ?_)
    clear hA; intro a hA
    refine L1 (stv hA (by decide) (run_bin (hA.ev rfl) (hA.ev rfl) (bin_geq _ _ _ _)) ?_)
    clear hA; intro a hA
    refine L1 (stv hA (by decide) (run_move (hA.ev rfl)) ?_)
    clear hA; intro a hA
    refine bsplit (b := (decide (((s_0.size : Nat) : Int) ≥ 1))) (fun hb215 => ?_) (fun hb215 => ?_)
    · replace H213 := ite_t hb215 H213
      have hA := hA.re (t := 23) rfl (congrArg Value.bool hb215)
      refine L1 (gate_on rfl rfl hA (by decide) rfl (stv hA (by decide) (run_move (hA.ev rfl)) ?_))
      clear hA; intro a hA
      refine L1 (gate_on rfl rfl hA (by decide) rfl (stv hA (by decide) (run_len_str Try.underlying9 (hA.ev rfl)) ?_))
      clear hA; intro a hA
      refine L1 (gate_on rfl rfl hA (by decide) rfl (stv hA (by decide) (run_bin (hA.ev rfl) (hA.ev rfl) (bin_leq _ _ _ _)) ?_))
      clear hA; intro a hA
      refine L1 (stv hA (by decide) (run_pick (hA.ev rfl) (fun _ => hA.ev rfl) (fun h => Bool.noConfusion h)) ?_)
      clear hA; intro a hA
      refine L1 (stv hA (by decide) (run_assign (hA.ev rfl)) ?_)
      clear hA; intro a hA
      refine LQ ?_
      exact ⟨(decide (((s_0.size : Nat) : Int) ≤ 10)), Option.some.inj H213, hM, (hA.nil.cons (hA.get 2 _ rfl))⟩
    · replace H213 := ite_f hb215 H213
      have hA := hA.re (t := 23) rfl (congrArg Value.bool hb215)
      refine L1 (gate_off rfl (by decide) rfl hA (by decide) rfl rfl ?_); clear hA; intro a hA
      refine L1 (gate_off rfl (by decide) rfl hA (by decide) rfl rfl ?_); clear hA; intro a hA
      refine L1 (gate_off rfl (by decide) rfl hA (by decide) rfl rfl ?_); clear hA; intro a hA
      refine L1 (stv hA (by decide) (run_pick (hA.ev rfl) (fun h => Bool.noConfusion h) (fun _ => hA.ev rfl)) ?_)
      clear hA; intro a hA
      refine L1 (stv hA (by decide) (run_assign (hA.ev rfl)) ?_)
      clear hA; intro a hA
      refine LQ ?_
      exact ⟨false, Option.some.inj H213, hM, (hA.nil.cons (hA.get 2 _ rfl))⟩
  clear hM hA
  rintro a w216 ⟨t212, rfl, hM, hA⟩
  try dsimp only at H
  refine TN ?_
  refine wp_ret ?_
  obtain rfl := Option.some.inj H
  exact ret_post1 (fn := Try.f17) hA rfl rfl ⟨_, rfl, rfl, hM⟩

def ref27_Prefix.l0 (s_0 : ByteArray) : Nat → Int → Option (Out Bool (Unit))
  | 0, _ => none
  | k + 1, i168 => (if (decide (i168 < ((s_0.size : Nat) : Int))) = true then (Option.bind (α := Bool) (if 0 ≤ i168 ∧ i168 < ((s_0.size : Nat) : Int) then (if (decide ((sg s_0 i168) < 97)) = true then (some true) else (if 0 ≤ i168 ∧ i168 < ((s_0.size : Nat) : Int) then (some (decide ((sg s_0 i168) > 122))) else none)) else none) (fun t183 => (if t183 = true then (some (.ret false)) else (ref27_Prefix.l0 s_0 k (IntKind.i64.wrap (i168 + 1)))))) else (some (.go ())))
def ref27_Prefix.f (k : Nat) (s_0 : ByteArray) : Option Bool := (Option.bind (α := Out Bool (Unit)) (ref27_Prefix.l0 s_0 k 0) (fun o => match o with | .ret r => some r | .go _ => (Option.bind (α := Bool) (if (decide (((s_0.size : Nat) : Int) ≥ 1)) = true then (some (decide (((s_0.size : Nat) : Int) ≤ 10))) else (some false)) (fun t196 => (some t196)))))
set_option maxRecDepth 100000 in
theorem ref27_Prefix.calls (k : Nat) (s_0 : ByteArray) (F : List (Option Nat)) (r : Bool) (w0 : World) (hM : Mem F w0 w0 []) (H : ref27_Prefix.f k s_0 = some r) :
    Calls Try.prog 18 #[(.string s_0)] w0 fun e w' => ∃ v, e = .returned v ∧ v = (.bool r) ∧ Mem F w0 w' [] := by
  unfold ref27_Prefix.f at H
  refine enterL (n := 28) [(.string s_0)] Try.func18 rfl rfl rfl ?_
  intro a hA
  refine wp_seq ?_
  refine wp_region_lit ?_
  refine L1 (stv hA (by decide) (run_assign (hA.ev rfl)) ?_)
  clear hA; intro a hA
  refine LQ ?_
  refine TN ?_
  refine wp_seq ?_
  refine wp_seq ?_
  refine wp_region_lit ?_
  refine L1 (stv hA (by decide) (run_assign (hA.ev rfl)) ?_)
  clear hA; intro a hA
  refine LQ ?_
  refine TN ?_
  obtain ⟨o171, H170, H⟩ := Option.bind_eq_some_iff.1 H
  refine cutC (fun a w => (.go ()) = o171 ∧ Mem F w0 w [] ∧ Has 28 [(0, (.string s_0))] a) ?_ ?_
  · refine wp_block ?_
    refine wp_loop_ghost (fun m a w => ∃ (i168 : Int), ref27_Prefix.l0 s_0 m i168 = some o171 ∧ Mem F w0 w [] ∧ Has 28 [(0, (.string s_0)), (3, (.int .i64 i168))] a) k ⟨0, H170, hM, ((hA.nil.cons (hA.get 3 _ rfl)).cons (hA.get 0 _ rfl))⟩ ?_
    clear hM hA; rintro m172 a w173 ⟨i168, H170, hM, hA⟩
    cases m172 with
    | zero => exact absurd H170 (by simp [ref27_Prefix.l0])
    | succ m172 =>
    rw [ref27_Prefix.l0] at H170
    refine wp_seq ?_
    refine wp_seq ?_
    refine wp_region_lit ?_
    refine L1 (stv hA (by decide) (run_move (hA.ev rfl)) ?_)
    clear hA; intro a hA
    refine L1 (stv hA (by decide) (run_move (hA.ev rfl)) ?_)
    clear hA; intro a hA
    refine L1 (stv hA (by decide) (run_len_str Try.underlying9 (hA.ev rfl)) ?_)
    clear hA; intro a hA
    refine L1 (stv hA (by decide) (run_bin (hA.ev rfl) (hA.ev rfl) (bin_lss _ _ _ _)) ?_)
    clear hA; intro a hA
    refine LQ ?_
    refine TN ?_
    refine tcond (b := (decide (i168 < ((s_0.size : Nat) : Int)))) hA rfl (fun hb174 => ?_) (fun hb174 => ?_)
    · replace H170 := ite_t hb174 H170
      refine wp_skip ?_
      refine TN ?_
      refine wp_seq ?_
      refine wp_block ?_
      refine wp_seq ?_
      obtain ⟨o185, H184, H170⟩ := Option.bind_eq_some_iff.1 H170
      refine cutC (fun a w => ∃ (t183 : Bool), t183 = o185 ∧ Mem F w0 w [] ∧ Has 28 [(0, (.string s_0)), (3, (.int .i64 i168)), (19, (.bool t183))] a) ?_ ?_
      · refine wp_region_lit ?_
        refine L1 (stv hA (by decide) (run_move (hA.ev rfl)) ?_)
        clear hA; intro a hA
        refine L1 (stv hA (by decide) (run_move (hA.ev rfl)) ?_)
        clear hA; intro a hA
        obtain ⟨⟨hi186, hj187⟩, H184⟩ := ite_some H184
        refine L1 (stv hA (by decide) (run_index_str Try.underlying9 (hA.ev rfl) (hA.ev rfl) hi186 hj187) ?_)
        clear hA; intro a hA
        refine L1 (stv hA (by decide) (run_bin (hA.ev rfl) (hA.ev rfl) (bin_lss _ _ _ _)) ?_)
        clear hA; intro a hA
        refine L1 (stv hA (by decide) (run_move (hA.ev rfl)) ?_)
        clear hA; intro a hA
        refine bsplit (b := (decide ((sg s_0 i168) < 97))) (fun hb188 => ?_) (fun hb188 => ?_)
        · replace H184 := ite_t hb188 H184
          have hA := hA.re (t := 14) rfl (congrArg Value.bool hb188)
          refine L1 (gate_off rfl (by decide) rfl hA (by decide) rfl rfl ?_); clear hA; intro a hA
          refine L1 (gate_off rfl (by decide) rfl hA (by decide) rfl rfl ?_); clear hA; intro a hA
          refine L1 (gate_off rfl (by decide) rfl hA (by decide) rfl rfl ?_); clear hA; intro a hA
          refine L1 (gate_off rfl (by decide) rfl hA (by decide) rfl rfl ?_); clear hA; intro a hA
          refine L1 (stv hA (by decide) (run_pick (hA.ev rfl) (fun _ => hA.ev rfl) (fun h => Bool.noConfusion h)) ?_)
          clear hA; intro a hA
          refine LQ ?_
          exact ⟨true, Option.some.inj H184, hM, (((hA.nil.cons (hA.get 19 _ rfl)).cons (hA.get 3 _ rfl)).cons (hA.get 0 _ rfl))⟩
        · replace H184 := ite_f hb188 H184
          have hA := hA.re (t := 14) rfl (congrArg Value.bool hb188)
          refine L1 (gate_on rfl rfl hA (by decide) rfl (stv hA (by decide) (run_move (hA.ev rfl)) ?_))
          clear hA; intro a hA
          refine L1 (gate_on rfl rfl hA (by decide) rfl (stv hA (by decide) (run_move (hA.ev rfl)) ?_))
          clear hA; intro a hA
          obtain ⟨⟨hi189, hj190⟩, H184⟩ := ite_some H184
          refine L1 (gate_on rfl rfl hA (by decide) rfl (stv hA (by decide) (run_index_str Try.underlying9 (hA.ev rfl) (hA.ev rfl) hi189 hj190) ?_))
          clear hA; intro a hA
          refine L1 (gate_on rfl rfl hA (by decide) rfl (stv hA (by decide) (run_bin (hA.ev rfl) (hA.ev rfl) (bin_gtr _ _ _ _)) ?_))
          clear hA; intro a hA
          refine L1 (stv hA (by decide) (run_pick (hA.ev rfl) (fun h => Bool.noConfusion h) (fun _ => hA.ev rfl)) ?_)
          clear hA; intro a hA
          refine LQ ?_
          exact ⟨(decide ((sg s_0 i168) > 122)), Option.some.inj H184, hM, (((hA.nil.cons (hA.get 19 _ rfl)).cons (hA.get 3 _ rfl)).cons (hA.get 0 _ rfl))⟩
      clear hM hA
      rintro a w191 ⟨t183, rfl, hM, hA⟩
      try dsimp only at H170
      refine TN ?_
      refine tcond (b := t183) hA rfl (fun hb192 => ?_) (fun hb192 => ?_)
      · replace H170 := ite_t hb192 H170
        refine wp_seq ?_
        refine wp_region_lit ?_
        refine L1 (stv hA (by decide) (run_assign (hA.ev rfl)) ?_)
        clear hA; intro a hA
        refine LQ ?_
        refine TN ?_
        refine wp_ret ?_
        obtain rfl := Option.some.inj H170
        dsimp only at H
        obtain rfl := Option.some.inj H
        refine BR ?_
        refine TR ?_
        refine TR ?_
        refine BR ?_
        refine TR ?_
        refine TR ?_
        exact ret_post1 (fn := Try.f18) hA rfl rfl ⟨_, rfl, rfl, hM⟩
      · replace H170 := ite_f hb192 H170
        refine wp_skip ?_
        refine BN ?_
        refine TN ?_
        refine wp_region_lit ?_
        refine L1 (stv hA (by decide) (run_move (hA.ev rfl)) ?_)
        clear hA; intro a hA
        refine L1 (stv hA (by decide) (run_bin (hA.ev rfl) (hA.ev rfl) (bin_add _ _ _ _)) ?_)
        clear hA; intro a hA
        refine L1 (stv hA (by decide) (run_assign (hA.ev rfl)) ?_)
        clear hA; intro a hA
        refine LQ ?_
        exact ⟨_, Nat.lt_succ_self m172, IntKind.i64.wrap (i168 + 1), H170, hM, ((hA.nil.cons (hA.get 3 _ rfl)).cons (hA.get 0 _ rfl))⟩
    · replace H170 := ite_f hb174 H170
      refine wp_exit ?_
      refine TX ?_
      refine TX ?_
      refine BX ?_
      exact ⟨Option.some.inj H170, hM, (hA.nil.cons (hA.get 0 _ rfl))⟩
  clear hM hA
  rintro a w193 ⟨rfl, hM, hA⟩
  try dsimp only at H
  refine TN ?_
  refine wp_seq ?_
  obtain ⟨o198, H197, H⟩ := Option.bind_eq_some_iff.1 H
  refine cutC (fun a w => ∃ (t196 : Bool), t196 = o198 ∧ Mem F w0 w [] ∧ Has 28 [(2, (.bool t196))] a) ?_ ?_
  · refine wp_region_lit ?_
    refine L1 (stv hA (by decide) (run_move (hA.ev rfl)) ?_)
    clear hA; intro a hA
    refine L1 (stv hA (by decide) (run_len_str Try.underlying9 (hA.ev rfl)) ?_)
    clear hA; intro a hA
    refine L1 (stv hA (by decide) (run_bin (hA.ev rfl) (hA.ev rfl) (bin_geq _ _ _ _)) ?_)
    clear hA; intro a hA
    refine L1 (stv hA (by decide) (run_move (hA.ev rfl)) ?_)
    clear hA; intro a hA
    refine bsplit (b := (decide (((s_0.size : Nat) : Int) ≥ 1))) (fun hb199 => ?_) (fun hb199 => ?_)
    · replace H197 := ite_t hb199 H197
      have hA := hA.re (t := 23) rfl (congrArg Value.bool hb199)
      refine L1 (gate_on rfl rfl hA (by decide) rfl (stv hA (by decide) (run_move (hA.ev rfl)) ?_))
      clear hA; intro a hA
      refine L1 (gate_on rfl rfl hA (by decide) rfl (stv hA (by decide) (run_len_str Try.underlying9 (hA.ev rfl)) ?_))
      clear hA; intro a hA
      refine L1 (gate_on rfl rfl hA (by decide) rfl (stv hA (by decide) (run_bin (hA.ev rfl) (hA.ev rfl) (bin_leq _ _ _ _)) ?_))
      clear hA; intro a hA
      refine L1 (stv hA (by decide) (run_pick (hA.ev rfl) (fun _ => hA.ev rfl) (fun h => Bool.noConfusion h)) ?_)
      clear hA; intro a hA
      refine L1 (stv hA (by decide) (run_assign (hA.ev rfl)) ?_)
      clear hA; intro a hA
      refine LQ ?_
      exact ⟨(decide (((s_0.size : Nat) : Int) ≤ 10)), Option.some.inj H197, hM, (hA.nil.cons (hA.get 2 _ rfl))⟩
    · replace H197 := ite_f hb199 H197
      have hA := hA.re (t := 23) rfl (congrArg Value.bool hb199)
      refine L1 (gate_off rfl (by decide) rfl hA (by decide) rfl rfl ?_); clear hA; intro a hA
      refine L1 (gate_off rfl (by decide) rfl hA (by decide) rfl rfl ?_); clear hA; intro a hA
      refine L1 (gate_off rfl (by decide) rfl hA (by decide) rfl rfl ?_); clear hA; intro a hA
      refine L1 (stv hA (by decide) (run_pick (hA.ev rfl) (fun h => Bool.noConfusion h) (fun _ => hA.ev rfl)) ?_)
      clear hA; intro a hA
      refine L1 (stv hA (by decide) (run_assign (hA.ev rfl)) ?_)
      clear hA; intro a hA
      refine LQ ?_
      exact ⟨false, Option.some.inj H197, hM, (hA.nil.cons (hA.get 2 _ rfl))⟩
  clear hM hA
  rintro a w200 ⟨t196, rfl, hM, hA⟩
  try dsimp only at H
  refine TN ?_
  refine wp_ret ?_
  obtain rfl := Option.some.inj H
  exact ret_post1 (fn := Try.f18) hA rfl rfl ⟨_, rfl, rfl, hM⟩

def law27_AddressPrefix.f (k : Nat) (s_0 : ByteArray) (n_1 : Int) (at_2 : Int) (by_3 : Int) : Option Bool := ((law27_sane.f k ).bind fun r72 => (if (!r72) = true then (some false) else (if (decide (((s_0.size : Nat) : Int) > 100)) = true then (some true) else ((law27_prefix.f k n_1).bind fun r77 => (if r77.size ≤ 140737488355328 then ((mill_Mod.f k at_2 ((r77.size : Nat) : Int)).bind fun r85 => (if 0 ≤ r85 ∧ r85 < ((r77.size : Nat) : Int) then (Option.bind (α := Bool) ((address_Prefix.f k s_0).bind fun r122 => ((ref27_Prefix.f k s_0).bind fun r125 => (if (r122 == r125) = true then ((law27_prefix.f k n_1).bind fun r129 => ((address_Prefix.f k r129).bind fun r132 => (if r132 = true then ((address_Prefix.f k (ofBytes ((bytesOf r77).set r85.toNat (IntKind.u8.wrap by_3)))).bind fun r136 => ((ref27_Prefix.f k (ofBytes ((bytesOf r77).set r85.toNat (IntKind.u8.wrap by_3)))).bind fun r139 => (some (r136 == r139)))) else (some false)))) else (some false)))) (fun t117 => (some t117))) else none)) else none)))))
set_option maxRecDepth 100000 in
theorem law27_AddressPrefix.calls (k : Nat) (s_0 : ByteArray) (n_1 : Int) (at_2 : Int) (by_3 : Int) (F : List (Option Nat)) (r : Bool) (w0 : World) (hM : Mem F w0 w0 []) (H : law27_AddressPrefix.f k s_0 n_1 at_2 by_3 = some r) :
    Calls Try.prog 4 #[(.string s_0), (.int .i64 n_1), (.int .i64 at_2), (.int .i64 by_3)] w0 fun e w' => ∃ v, e = .returned v ∧ v = (.bool r) ∧ Mem F w0 w' [] := by
  unfold law27_AddressPrefix.f at H
  refine enterL (n := 45) [(.string s_0), (.int .i64 n_1), (.int .i64 at_2), (.int .i64 by_3)] Try.func4 rfl rfl rfl ?_
  intro a hA
  refine wp_seq ?_
  refine wp_region_lit ?_
  refine L1 (stv hA (by decide) (run_assign (hA.ev rfl)) ?_)
  clear hA; intro a hA
  refine LQ ?_
  refine TN ?_
  refine wp_seq ?_
  refine wp_seq ?_
  refine wp_region_lit ?_
  obtain ⟨r72, H73, H⟩ := Option.bind_eq_some_iff.1 H
  refine L1 (st_call Try.call9 hA [] rfl (by decide) (law27_sane.calls _ _ _ _ (hM.front (Ms := [])) H73) ?_)
  clear hA; rintro _ w74 ⟨rfl, hMc⟩ a hA
  have hE := hMc.below; have hM := hM.call (Ms := []) hMc
  clear hMc; simp only [List.cons_append, List.nil_append] at hM
  refine L1 (stv hA (by decide) (run_not (hA.ev rfl)) ?_)
  clear hA; intro a hA
  refine LQ ?_
  refine TN ?_
  refine tcond (b := (!r72)) hA rfl (fun hb75 => ?_) (fun hb75 => ?_)
  · replace H := ite_t hb75 H
    refine wp_seq ?_
    refine wp_region_lit ?_
    refine L1 (stv hA (by decide) (run_assign (hA.ev rfl)) ?_)
    clear hA; intro a hA
    refine LQ ?_
    refine TN ?_
    refine wp_ret ?_
    obtain rfl := Option.some.inj H
    refine TR ?_
    exact ret_post1 (fn := Try.f4) hA rfl rfl ⟨_, rfl, rfl, hM⟩
  · replace H := ite_f hb75 H
    refine wp_skip ?_
    refine TN ?_
    refine wp_seq ?_
    refine wp_seq ?_
    refine wp_region_lit ?_
    refine L1 (stv hA (by decide) (run_move (hA.ev rfl)) ?_)
    clear hA; intro a hA
    refine L1 (stv hA (by decide) (run_len_str Try.underlying9 (hA.ev rfl)) ?_)
    clear hA; intro a hA
    refine L1 (stv hA (by decide) (run_bin (hA.ev rfl) (hA.ev rfl) (bin_gtr _ _ _ _)) ?_)
    clear hA; intro a hA
    refine LQ ?_
    refine TN ?_
    refine tcond (b := (decide (((s_0.size : Nat) : Int) > 100))) hA rfl (fun hb76 => ?_) (fun hb76 => ?_)
    · replace H := ite_t hb76 H
      refine wp_seq ?_
      refine wp_region_lit ?_
      refine L1 (stv hA (by decide) (run_assign (hA.ev rfl)) ?_)
      clear hA; intro a hA
      refine LQ ?_
      refine TN ?_
      refine wp_ret ?_
      obtain rfl := Option.some.inj H
      refine TR ?_
      exact ret_post1 (fn := Try.f4) hA rfl rfl ⟨_, rfl, rfl, hM⟩
    · replace H := ite_f hb76 H
      refine wp_skip ?_
      refine TN ?_
      refine wp_seq ?_
      refine wp_region_lit ?_
      refine L1 (stv hA (by decide) (run_move (hA.ev rfl)) ?_)
      clear hA; intro a hA
      obtain ⟨r77, H78, H⟩ := Option.bind_eq_some_iff.1 H
      refine L1 (st_call Try.call15 hA [(.int .i64 n_1)] rfl (by decide) (law27_prefix.calls _ _ _ _ _ (hM.front (Ms := [])) H78) ?_)
      clear hA; rintro _ w79 ⟨rfl, hMc⟩ a hA
      have hE := hMc.below; have hM := hM.call (Ms := []) hMc
      clear hMc; simp only [List.cons_append, List.nil_append] at hM
      obtain ⟨hs82, H⟩ := ite_some H
      refine L1 (e_str2bytes Try.underlying9 Try.underlying22 Try.underlying5 hM hA rfl hs82 (by decide) ?_)
      clear hM hA; intro w83 g80 c81 hM hE a hA
      refine L1 (stv hA (by decide) (run_assign (hA.ev rfl)) ?_)
      clear hA; intro a hA
      refine LQ ?_
      refine TN ?_
      refine wp_seq ?_
      refine wp_region_lit ?_
      refine L1 (stv hA (by decide) (run_move (hA.ev rfl)) ?_)
      clear hA; intro a hA
      refine L1 (stv hA (by decide) (run_move (hA.ev rfl)) ?_)
      clear hA; intro a hA
      refine L1 (stv hA (by decide) (run_move (hA.ev rfl)) ?_)
      clear hA; intro a hA
      refine L1 (stv hA (by decide) (run_len_slice Try.underlying22 (hA.ev rfl)) ?_)
      clear hA; intro a hA
      obtain ⟨r85, H86, H⟩ := Option.bind_eq_some_iff.1 H
      refine L1 (st_call Try.call16 hA [(.int .i64 at_2), (.int .i64 ((r77.size : Nat) : Int))] rfl (by decide) (mill_Mod.calls _ _ _ _ _ _ (hM.front (Ms := [])) H86) ?_)
      clear hA; rintro _ w87 ⟨rfl, hMc⟩ a hA
      have hE := hMc.below; have hM := hM.call (Ms := []) hMc
      clear hMc; simp only [List.cons_append, List.nil_append] at hM
      refine L1 (stv hA (by decide) (run_move (hA.ev rfl)) ?_)
      clear hA; intro a hA
      refine L1 (stv hA (by decide) (run_conv Try.underlying3 Try.underlying5 (hA.ev rfl)) ?_)
      clear hA; intro a hA
      obtain ⟨⟨hi88, hj89⟩, H⟩ := ite_some H
      obtain ⟨ad90, hq91, hat92⟩ := Row.elem' (p := (Pl.int .u8)) (RowOk.row (hM.row (p := (Pl.int .u8)) .z)) (RowOk.len (hM.row (p := (Pl.int .u8)) .z)) (0 : Int) r85 hi88 hj89
      refine L1 (stv hA (by decide) (run_idx Try.underlying22 Try.sizeOf5 (hA.ev rfl) hq91 (hA.ev rfl) hi88 hj89) ?_)
      clear hA; intro a hA
      refine L1 (e_setrow (x1 := ((bytesOf r77).getD r85.toNat (0 : Int))) (y1 := IntKind.u8.wrap by_3) (off := 0) hM .z Try.sizeOf5 hA rfl rfl hq91 rfl (by first | rfl | simp [Value.cells, Pl.len]) (one_val rfl) hi88 hj89 (getD_getD _ _ _) (by decide) (spl_all (by first | rfl | simp [Value.cells, Pl.len] | (simp only [Value.cells, Pl.len, List.length_cons, List.length_nil]; done))) ?_)
      clear hM hA; intro w93 hM hE a hA
      refine LQ ?_
      refine TN ?_
      refine wp_seq ?_
      obtain ⟨o119, H118, H⟩ := Option.bind_eq_some_iff.1 H
      refine cutC (fun a w => ∃ (t117 : Bool), t117 = o119 ∧ Mem F w0 w [] ∧ Has 45 [(8, (.bool t117))] a) ?_ ?_
      · refine draw (fun w' => Below w93.heap.size w93 w') [] rfl ?_
        intro w120 hw hS; replace hM := hM.ext hS; clear hw
        refine d_takef (i := 0) (L' := #[true, false, false, false, false, false, false, false, false, false, false, false, false, false, false, false, false, false, false, false]) rfl (by kernel_rfl) rfl (fun _ _ _ h => h) hA (by decide) (fun _ => hS) (fun a w' hA => run_move (hA.ev rfl)) ?_; clear hA; intro a hA
        refine d_takef (i := 2) (L' := #[true, false, true, false, false, false, false, false, false, false, false, false, false, false, false, false, false, false, false, false]) rfl (by kernel_rfl) rfl (fun _ _ _ h => h) hA (by decide) (fun _ => hS) (fun a w' hA => run_move (hA.ev rfl)) ?_; clear hA; intro a hA
        obtain ⟨r122, H123, H118⟩ := Option.bind_eq_some_iff.1 H118
        refine d_one (i := 1) (L' := #[true, true, true, false, false, false, false, false, false, false, false, false, false, false, false, false, false, false, false, false]) (by kernel_rfl) rfl rfl (st_call Try.call17 hA [(.string s_0)] rfl (by decide) (address_Prefix.calls _ _ _ _ _ (hM.front (Ms := [])) H123) ?_)
        clear hA; rintro _ w124 ⟨rfl, hMc⟩ a hA
        have hE := hMc.below; have hM := hM.call (Ms := []) hMc
        clear hMc; simp only [List.cons_append, List.nil_append] at hM
        replace hS := hS.trans (hE.mono hS.size)
        refine ⟨fun _ => hS, ?_⟩
        obtain ⟨r125, H126, H118⟩ := Option.bind_eq_some_iff.1 H118
        refine d_one (i := 3) (L' := #[true, true, true, true, false, false, false, false, false, false, false, false, false, false, false, false, false, false, false, false]) (by kernel_rfl) rfl rfl (st_call Try.call18 hA [(.string s_0)] rfl (by decide) (ref27_Prefix.calls _ _ _ _ _ (hM.front (Ms := [])) H126) ?_)
        clear hA; rintro _ w127 ⟨rfl, hMc⟩ a hA
        have hE := hMc.below; have hM := hM.call (Ms := []) hMc
        clear hMc; simp only [List.cons_append, List.nil_append] at hM
        replace hS := hS.trans (hE.mono hS.size)
        refine ⟨fun _ => hS, ?_⟩
        refine d_takef (i := 4) (L' := #[true, true, true, true, true, false, false, false, false, false, false, false, false, false, false, false, false, false, false, false]) rfl (by kernel_rfl) rfl (fun _ _ _ h => h) hA (by decide) (fun _ => hS) (fun a w' hA => run_eqbool Try.underlying4 (hA.ev rfl) (hA.ev rfl)) ?_; clear hA; intro a hA
        refine d_takef (i := 5) (L' := #[true, true, true, true, true, true, false, false, false, false, false, false, false, false, false, false, false, false, false, false]) rfl (by kernel_rfl) rfl (fun _ _ _ h => h) hA (by decide) (fun _ => hS) (fun a w' hA => run_move (hA.ev rfl)) ?_; clear hA; intro a hA
        refine bsplit (b := (r122 == r125)) (fun hb128 => ?_) (fun hb128 => ?_)
        · replace H118 := ite_t hb128 H118
          have hA := hA.re (t := 31) rfl (congrArg Value.bool hb128)
          refine d_takegf (i := 6) (L' := #[true, true, true, true, true, true, true, false, false, false, false, false, false, false, false, false, false, false, false, false]) rfl (by kernel_rfl) rfl (fun _ _ _ h => h) rfl hA (by decide) (by decide) rfl (fun _ => hS) (fun a w' hA => run_move (hA.ev rfl)) ?_; clear hA; intro a hA
          obtain ⟨r129, H130, H118⟩ := Option.bind_eq_some_iff.1 H118
          refine d_one (i := 7) (L' := #[true, true, true, true, true, true, true, true, false, false, false, false, false, false, false, false, false, false, false, false]) (by kernel_rfl) rfl rfl (gate_on rfl rfl hA (by decide) rfl (st_call Try.call15 hA [(.int .i64 n_1)] rfl (by decide) (law27_prefix.calls _ _ _ _ _ (hM.front (Ms := [])) H130) ?_))
          clear hA; rintro _ w131 ⟨rfl, hMc⟩ a hA
          have hE := hMc.below; have hM := hM.call (Ms := []) hMc
          clear hMc; simp only [List.cons_append, List.nil_append] at hM
          replace hS := hS.trans (hE.mono hS.size)
          refine ⟨fun _ => hS, ?_⟩
          obtain ⟨r132, H133, H118⟩ := Option.bind_eq_some_iff.1 H118
          refine d_one (i := 8) (L' := #[true, true, true, true, true, true, true, true, true, false, false, false, false, false, false, false, false, false, false, false]) (by kernel_rfl) rfl rfl (gate_on rfl rfl hA (by decide) rfl (st_call Try.call17 hA [(.string r129)] rfl (by decide) (address_Prefix.calls _ _ _ _ _ (hM.front (Ms := [])) H133) ?_))
          clear hA; rintro _ w134 ⟨rfl, hMc⟩ a hA
          have hE := hMc.below; have hM := hM.call (Ms := []) hMc
          clear hMc; simp only [List.cons_append, List.nil_append] at hM
          replace hS := hS.trans (hE.mono hS.size)
          refine ⟨fun _ => hS, ?_⟩
          refine d_takef (i := 9) (L' := #[true, true, true, true, true, true, true, true, true, true, false, false, false, false, false, false, false, false, false, false]) rfl (by kernel_rfl) rfl (fun _ _ _ h => h) hA (by decide) (fun _ => hS) (fun a w' hA => run_pick (hA.ev rfl) (fun _ => hA.ev rfl) (fun h => Bool.noConfusion h)) ?_; clear hA; intro a hA
          refine d_takef (i := 10) (L' := #[true, true, true, true, true, true, true, true, true, true, true, false, false, false, false, false, false, false, false, false]) rfl (by kernel_rfl) rfl (fun _ _ _ h => h) hA (by decide) (fun _ => hS) (fun a w' hA => run_move (hA.ev rfl)) ?_; clear hA; intro a hA
          refine bsplit (b := r132) (fun hb135 => ?_) (fun hb135 => ?_)
          · replace H118 := ite_t hb135 H118
            have hA := hA.re (t := 36) rfl (congrArg Value.bool hb135)
            refine d_takegf (i := 11) (L' := #[true, true, true, true, true, true, true, true, true, true, true, true, false, false, false, false, false, false, false, false]) rfl (by kernel_rfl) rfl (fun _ _ _ h => h) rfl hA (by decide) (by decide) rfl (fun _ => hS) (fun a w' hA => run_move (hA.ev rfl)) ?_; clear hA; intro a hA
            refine rebase hS ?_; clear hS; intro hS
            refine d_takeg (i := 12) (L' := #[true, true, true, true, true, true, true, true, true, true, true, true, true, false, false, false, false, false, false, false]) rfl (by kernel_rfl) rfl (fun _ _ _ h => h) rfl hA (by decide) (by decide) rfl rfl hS (fun a w' hA hS' => run_bytes2str Try.underlying22 Try.underlying5 Try.underlying9 (hA.ev rfl) (((RowOk.row (hM.row (p := (Pl.int .u8)) .z))).extB hS') (RowOk.len (hM.row (p := (Pl.int .u8)) .z))) ?_; clear hA; intro a hA
            refine d_takegf (i := 14) (L' := #[true, true, true, true, true, true, true, true, true, true, true, true, true, false, true, false, false, false, false, false]) rfl (by kernel_rfl) rfl (fun _ _ _ h => h) rfl hA (by decide) (by decide) rfl (fun _ => hS) (fun a w' hA => run_move (hA.ev rfl)) ?_; clear hA; intro a hA
            refine d_takeg (i := 15) (L' := #[true, true, true, true, true, true, true, true, true, true, true, true, true, false, true, true, false, false, false, false]) rfl (by kernel_rfl) rfl (fun _ _ _ h => h) rfl hA (by decide) (by decide) rfl rfl hS (fun a w' hA hS' => run_bytes2str Try.underlying22 Try.underlying5 Try.underlying9 (hA.ev rfl) (((RowOk.row (hM.row (p := (Pl.int .u8)) .z))).extB hS') (RowOk.len (hM.row (p := (Pl.int .u8)) .z))) ?_; clear hA; intro a hA
            obtain ⟨r136, H137, H118⟩ := Option.bind_eq_some_iff.1 H118
            refine d_one (i := 13) (L' := #[true, true, true, true, true, true, true, true, true, true, true, true, true, true, true, true, false, false, false, false]) (by kernel_rfl) rfl rfl (gate_on rfl rfl hA (by decide) rfl (st_call Try.call17 hA [(.string (ofBytes ((bytesOf r77).set r85.toNat (IntKind.u8.wrap by_3))))] rfl (by decide) (address_Prefix.calls _ _ _ _ _ (hM.front (Ms := [])) H137) ?_))
            clear hA; rintro _ w138 ⟨rfl, hMc⟩ a hA
            have hE := hMc.below; have hM := hM.call (Ms := []) hMc
            clear hMc; simp only [List.cons_append, List.nil_append] at hM
            replace hS := hS.trans (hE.mono hS.size)
            refine ⟨fun _ => hS, ?_⟩
            obtain ⟨r139, H140, H118⟩ := Option.bind_eq_some_iff.1 H118
            refine d_one (i := 16) (L' := #[true, true, true, true, true, true, true, true, true, true, true, true, true, true, true, true, true, false, false, false]) (by kernel_rfl) rfl rfl (gate_on rfl rfl hA (by decide) rfl (st_call Try.call18 hA [(.string (ofBytes ((bytesOf r77).set r85.toNat (IntKind.u8.wrap by_3))))] rfl (by decide) (ref27_Prefix.calls _ _ _ _ _ (hM.front (Ms := [])) H140) ?_))
            clear hA; rintro _ w141 ⟨rfl, hMc⟩ a hA
            have hE := hMc.below; have hM := hM.call (Ms := []) hMc
            clear hMc; simp only [List.cons_append, List.nil_append] at hM
            replace hS := hS.trans (hE.mono hS.size)
            refine ⟨fun _ => hS, ?_⟩
            refine d_takegf (i := 17) (L' := #[true, true, true, true, true, true, true, true, true, true, true, true, true, true, true, true, true, true, false, false]) rfl (by kernel_rfl) rfl (fun _ _ _ h => h) rfl hA (by decide) (by decide) rfl (fun _ => hS) (fun a w' hA => run_eqbool Try.underlying4 (hA.ev rfl) (hA.ev rfl)) ?_; clear hA; intro a hA
            refine d_takef (i := 18) (L' := #[true, true, true, true, true, true, true, true, true, true, true, true, true, true, true, true, true, true, true, false]) rfl (by kernel_rfl) rfl (fun _ _ _ h => h) hA (by decide) (fun _ => hS) (fun a w' hA => run_pick (hA.ev rfl) (fun _ => hA.ev rfl) (fun h => Bool.noConfusion h)) ?_; clear hA; intro a hA
            refine d_takef (i := 19) (L' := #[true, true, true, true, true, true, true, true, true, true, true, true, true, true, true, true, true, true, true, true]) rfl (by kernel_rfl) rfl (fun _ _ _ h => h) hA (by decide) (fun _ => hS) (fun a w' hA => run_assign (hA.ev rfl)) ?_; clear hA; intro a hA
            refine d_done (by kernel_rfl) ?_
            exact ⟨(r136 == r139), Option.some.inj H118, (hM.sel [] rfl (by decide)), (hA.nil.cons (hA.get 8 _ rfl))⟩
          · replace H118 := ite_f hb135 H118
            have hA := hA.re (t := 36) rfl (congrArg Value.bool hb135)
            refine d_skip (i := 11) (L' := #[true, true, true, true, true, true, true, true, true, true, true, true, false, false, false, false, false, false, false, false]) rfl (by kernel_rfl) rfl (fun _ _ _ h => h) rfl hA (by decide) (by decide) rfl rfl (fun _ => hS) ?_; clear hA; intro a hA
            refine d_skip (i := 12) (L' := #[true, true, true, true, true, true, true, true, true, true, true, true, true, false, false, false, false, false, false, false]) rfl (by kernel_rfl) rfl (fun _ _ _ h => h) rfl hA (by decide) (by decide) rfl rfl (fun _ => hS) ?_; clear hA; intro a hA
            refine d_skip (i := 14) (L' := #[true, true, true, true, true, true, true, true, true, true, true, true, true, false, true, false, false, false, false, false]) rfl (by kernel_rfl) rfl (fun _ _ _ h => h) rfl hA (by decide) (by decide) rfl rfl (fun _ => hS) ?_; clear hA; intro a hA
            refine d_skip (i := 15) (L' := #[true, true, true, true, true, true, true, true, true, true, true, true, true, false, true, true, false, false, false, false]) rfl (by kernel_rfl) rfl (fun _ _ _ h => h) rfl hA (by decide) (by decide) rfl rfl (fun _ => hS) ?_; clear hA; intro a hA
            refine d_one (i := 13) (L' := #[true, true, true, true, true, true, true, true, true, true, true, true, true, true, true, true, false, false, false, false]) (by kernel_rfl) rfl rfl (gate_off rfl (by decide) rfl hA (by decide) rfl rfl ?_); clear hA; intro a hA
            refine ⟨fun _ => hS, ?_⟩
            refine d_one (i := 16) (L' := #[true, true, true, true, true, true, true, true, true, true, true, true, true, true, true, true, true, false, false, false]) (by kernel_rfl) rfl rfl (gate_off rfl (by decide) rfl hA (by decide) rfl rfl ?_); clear hA; intro a hA
            refine ⟨fun _ => hS, ?_⟩
            refine d_skip (i := 17) (L' := #[true, true, true, true, true, true, true, true, true, true, true, true, true, true, true, true, true, true, false, false]) rfl (by kernel_rfl) rfl (fun _ _ _ h => h) rfl hA (by decide) (by decide) rfl rfl (fun _ => hS) ?_; clear hA; intro a hA
            refine d_takef (i := 18) (L' := #[true, true, true, true, true, true, true, true, true, true, true, true, true, true, true, true, true, true, true, false]) rfl (by kernel_rfl) rfl (fun _ _ _ h => h) hA (by decide) (fun _ => hS) (fun a w' hA => run_pick (hA.ev rfl) (fun h => Bool.noConfusion h) (fun _ => hA.ev rfl)) ?_; clear hA; intro a hA
            refine d_takef (i := 19) (L' := #[true, true, true, true, true, true, true, true, true, true, true, true, true, true, true, true, true, true, true, true]) rfl (by kernel_rfl) rfl (fun _ _ _ h => h) hA (by decide) (fun _ => hS) (fun a w' hA => run_assign (hA.ev rfl)) ?_; clear hA; intro a hA
            refine d_done (by kernel_rfl) ?_
            exact ⟨false, Option.some.inj H118, (hM.sel [] rfl (by decide)), (hA.nil.cons (hA.get 8 _ rfl))⟩
        · replace H118 := ite_f hb128 H118
          have hA := hA.re (t := 31) rfl (congrArg Value.bool hb128)
          refine d_skip (i := 6) (L' := #[true, true, true, true, true, true, true, false, false, false, false, false, false, false, false, false, false, false, false, false]) rfl (by kernel_rfl) rfl (fun _ _ _ h => h) rfl hA (by decide) (by decide) rfl rfl (fun _ => hS) ?_; clear hA; intro a hA
          refine d_one (i := 7) (L' := #[true, true, true, true, true, true, true, true, false, false, false, false, false, false, false, false, false, false, false, false]) (by kernel_rfl) rfl rfl (gate_off rfl (by decide) rfl hA (by decide) rfl rfl ?_); clear hA; intro a hA
          refine ⟨fun _ => hS, ?_⟩
          refine d_one (i := 8) (L' := #[true, true, true, true, true, true, true, true, true, false, false, false, false, false, false, false, false, false, false, false]) (by kernel_rfl) rfl rfl (gate_off rfl (by decide) rfl hA (by decide) rfl rfl ?_); clear hA; intro a hA
          refine ⟨fun _ => hS, ?_⟩
          refine d_takef (i := 9) (L' := #[true, true, true, true, true, true, true, true, true, true, false, false, false, false, false, false, false, false, false, false]) rfl (by kernel_rfl) rfl (fun _ _ _ h => h) hA (by decide) (fun _ => hS) (fun a w' hA => run_pick (hA.ev rfl) (fun h => Bool.noConfusion h) (fun _ => hA.ev rfl)) ?_; clear hA; intro a hA
          refine d_takef (i := 10) (L' := #[true, true, true, true, true, true, true, true, true, true, true, false, false, false, false, false, false, false, false, false]) rfl (by kernel_rfl) rfl (fun _ _ _ h => h) hA (by decide) (fun _ => hS) (fun a w' hA => run_move (hA.ev rfl)) ?_; clear hA; intro a hA
          refine d_skip (i := 11) (L' := #[true, true, true, true, true, true, true, true, true, true, true, true, false, false, false, false, false, false, false, false]) rfl (by kernel_rfl) rfl (fun _ _ _ h => h) rfl hA (by decide) (by decide) rfl rfl (fun _ => hS) ?_; clear hA; intro a hA
          refine d_skip (i := 12) (L' := #[true, true, true, true, true, true, true, true, true, true, true, true, true, false, false, false, false, false, false, false]) rfl (by kernel_rfl) rfl (fun _ _ _ h => h) rfl hA (by decide) (by decide) rfl rfl (fun _ => hS) ?_; clear hA; intro a hA
          refine d_skip (i := 14) (L' := #[true, true, true, true, true, true, true, true, true, true, true, true, true, false, true, false, false, false, false, false]) rfl (by kernel_rfl) rfl (fun _ _ _ h => h) rfl hA (by decide) (by decide) rfl rfl (fun _ => hS) ?_; clear hA; intro a hA
          refine d_skip (i := 15) (L' := #[true, true, true, true, true, true, true, true, true, true, true, true, true, false, true, true, false, false, false, false]) rfl (by kernel_rfl) rfl (fun _ _ _ h => h) rfl hA (by decide) (by decide) rfl rfl (fun _ => hS) ?_; clear hA; intro a hA
          refine d_one (i := 13) (L' := #[true, true, true, true, true, true, true, true, true, true, true, true, true, true, true, true, false, false, false, false]) (by kernel_rfl) rfl rfl (gate_off rfl (by decide) rfl hA (by decide) rfl rfl ?_); clear hA; intro a hA
          refine ⟨fun _ => hS, ?_⟩
          refine d_one (i := 16) (L' := #[true, true, true, true, true, true, true, true, true, true, true, true, true, true, true, true, true, false, false, false]) (by kernel_rfl) rfl rfl (gate_off rfl (by decide) rfl hA (by decide) rfl rfl ?_); clear hA; intro a hA
          refine ⟨fun _ => hS, ?_⟩
          refine d_skip (i := 17) (L' := #[true, true, true, true, true, true, true, true, true, true, true, true, true, true, true, true, true, true, false, false]) rfl (by kernel_rfl) rfl (fun _ _ _ h => h) rfl hA (by decide) (by decide) rfl rfl (fun _ => hS) ?_; clear hA; intro a hA
          refine d_takef (i := 18) (L' := #[true, true, true, true, true, true, true, true, true, true, true, true, true, true, true, true, true, true, true, false]) rfl (by kernel_rfl) rfl (fun _ _ _ h => h) hA (by decide) (fun _ => hS) (fun a w' hA => run_pick (hA.ev rfl) (fun h => Bool.noConfusion h) (fun _ => hA.ev rfl)) ?_; clear hA; intro a hA
          refine d_takef (i := 19) (L' := #[true, true, true, true, true, true, true, true, true, true, true, true, true, true, true, true, true, true, true, true]) rfl (by kernel_rfl) rfl (fun _ _ _ h => h) hA (by decide) (fun _ => hS) (fun a w' hA => run_assign (hA.ev rfl)) ?_; clear hA; intro a hA
          refine d_done (by kernel_rfl) ?_
          exact ⟨false, Option.some.inj H118, (hM.sel [] rfl (by decide)), (hA.nil.cons (hA.get 8 _ rfl))⟩
      clear hM hA
      rintro a w142 ⟨t117, rfl, hM, hA⟩
      try dsimp only at H
      refine TN ?_
      refine wp_ret ?_
      obtain rfl := Option.some.inj H
      exact ret_post1 (fn := Try.f4) hA rfl rfl ⟨_, rfl, rfl, hM⟩

end Go.Proofs.Ytmopbcfjnnchgaa.G
