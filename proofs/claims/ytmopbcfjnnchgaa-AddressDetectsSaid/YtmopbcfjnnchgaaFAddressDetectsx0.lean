/- The functions that a law of this seat reaches: what each comes to, as a plain function, and that its code comes to it. Conditions: the plain function gives a value (enough fuel, no panic). -/
import Derived.Test.YtmopbcfjnnchgaaChecked
import Derived.Test.YtmopbcfjnnchgaaD
import Derived.Lib.Bytealg
import Derived.Lib.Slices
import Derived.Lib.Strings
import Derived.Lib.Walk
set_option linter.unusedVariables false
set_option linter.unusedSimpArgs false
namespace Go.Proofs.Ytmopbcfjnnchgaa.G
open Go Go.RowKit Go.Proofs
def pA5u32 : Pl (Vector Int 5) := Pl.vec 5 .u32 (by decide)
theorem eq_A5u32 : EqOk Try.prog 53 pA5u32 2 := fun d x y w => eq_vec (by decide) d Try.underlying53 Try.isAgg46 Try.underlying46 (by kernel_rfl) (by kernel_rfl) x y w
def pA6u8 : Pl (Vector Int 6) := Pl.vec 6 .u8 (by decide)
theorem eq_A6u8 : EqOk Try.prog 34 pA6u8 2 := fun d x y w => eq_vec (by decide) d Try.underlying34 Try.isAgg5 Try.underlying5 (by kernel_rfl) (by kernel_rfl) x y w
theorem zero22 : ∀ w, (zeroValue 22).run Try.prog w = .ok (.slice none 0 0) w := run_zero (by kernel_rfl)
theorem zero34 : ∀ w, (zeroValue 34).run Try.prog w = .ok (.agg (pA6u8.enc (Vector.replicate 6 0 : Vector Int 6)).toArray) w := run_zero (by kernel_rfl)
theorem zero53 : ∀ w, (zeroValue 53).run Try.prog w = .ok (.agg (pA5u32.enc (Vector.replicate 5 0 : Vector Int 5)).toArray) w := run_zero (by kernel_rfl)
theorem elt22 : Elt Try.prog (Pl.int .u8) 22 5 (.int .u8 (0 : Int)) 1 := ⟨Try.underlying22, by kernel_rfl, by first | rfl | simp [Value.cells, Pl.len], by decide⟩
theorem elt37 : Elt Try.prog Pl.str 37 9 (.string ByteArray.empty) 16 := ⟨Try.underlying37, by kernel_rfl, by first | rfl | simp [Value.cells, Pl.len], by decide⟩
def address_regroup.l1 (to_2 : Int) : Nat → (List Int) → Int → Int → Option ((List Int) × Int × Int)
  | 0, _, _, _ => none
  | k + 1, xs1047, held1049, bits1051 => (if (decide (bits1051 ≥ to_2)) = true then (if 0 ≤ (IntKind.i64.wrap (bits1051 - to_2)) then (if (xs1047.length + 1) * 1 ≤ 140737488355328 then (if 0 ≤ (IntKind.i64.wrap (bits1051 - to_2)) then (address_regroup.l1 to_2 k (xs1047 ++ [IntKind.u8.wrap (ishr .i64 held1049 (IntKind.i64.wrap (bits1051 - to_2)))]) (iand .i64 held1049 (IntKind.i64.wrap ((ishl .i64 1 (IntKind.i64.wrap (bits1051 - to_2))) - 1))) (IntKind.i64.wrap (bits1051 - to_2))) else none) else none) else none) else (some (xs1047, held1049, bits1051)))
def address_regroup.l0 (b_0 : (List Int)) (from_1 : Int) (to_2 : Int) : Nat → (List Int) → Int → Int → Int → Option ((List Int) × Int × Int)
  | 0, _, _, _, _ => none
  | k + 1, xs944, held946, bits948, t952 => (if (decide (t952 < ((b_0.length : Nat) : Int))) = true then (if 0 ≤ t952 ∧ t952 < ((b_0.length : Nat) : Int) then (if 0 ≤ from_1 then (Option.bind (α := (List Int) × Int × Int) (address_regroup.l1 to_2 k xs944 (ior .i64 (ishl .i64 held946 from_1) (IntKind.i64.wrap (b_0.getD t952.toNat (0 : Int)))) (IntKind.i64.wrap (bits948 + from_1))) (fun st => match st with | (xs1061, held1063, bits1065) => (address_regroup.l0 b_0 from_1 to_2 k xs1061 held1063 bits1065 (IntKind.i64.wrap (t952 + 1))))) else none) else none) else (some (xs944, held946, bits948)))
def address_regroup.f (k : Nat) (b_0 : (List Int)) (from_1 : Int) (to_2 : Int) : Option ((List Int) × Int × Int) := (Option.bind (α := (List Int) × Int × Int) (address_regroup.l0 b_0 from_1 to_2 k ([] : List Int) 0 0 0) (fun st => match st with | (xs958, held960, bits962) => (some (xs958, held960, bits962))))
set_option maxRecDepth 100000 in
theorem address_regroup.calls (k : Nat) (b_0 : (List Int)) (from_1 : Int) (to_2 : Int) (F : List (Option Nat)) (v0 : Value) (r : ((List Int) × Int × Int)) (w0 : World) (h0 : RoV F (Pl.int .u8) w0 v0 b_0) (hM : Mem F w0 w0 []) (H : address_regroup.f k b_0 from_1 to_2 = some r) :
    Calls Try.prog 24 #[v0, (.int .i64 from_1), (.int .i64 to_2)] w0 fun e w' => ∃ v, e = .returned v ∧ ∃ (ur_0 : Value), v = (.tuple #[ur_0, (.int .i64 r.2.1), (.int .i64 r.2.2)]) ∧ Mem F w0 w' [.row 5 (Pl.int .u8).sz ur_0 ((Pl.int .u8).flat r.1)] := by
  unfold address_regroup.f at H
  obtain ⟨A0, c0, rfl, hr0, hc0⟩ := h0
  refine enterL (n := 51) [(.slice A0 b_0.length c0), (.int .i64 from_1), (.int .i64 to_2)] Try.func24 rfl rfl rfl ?_
  intro a hA
  refine wp_seq ?_
  refine wp_region_lit ?_
  refine L1 (stv hA (by decide) (run_assign (hA.ev rfl)) ?_)
  clear hA; intro a hA
  refine L1 (stv hA (by decide) (run_assign (hA.ev rfl)) ?_)
  clear hA; intro a hA
  refine L1 (stv hA (by decide) (run_assign (hA.ev rfl)) ?_)
  clear hA; intro a hA
  refine LQ ?_
  refine TN ?_
  refine wp_seq ?_
  refine wp_region_lit ?_
  refine L1 (stv hA (by decide) (run_assign (hA.ev rfl)) ?_)
  clear hA; intro a hA
  refine LQ ?_
  refine TN ?_
  refine wp_seq ?_
  refine wp_region_lit ?_
  refine L1 (stv hA (by decide) (run_assign (hA.ev rfl)) ?_)
  clear hA; intro a hA
  refine L1 (stv hA (by decide) (run_assign (hA.ev rfl)) ?_)
  clear hA; intro a hA
  refine LQ ?_
  refine TN ?_
  refine wp_seq ?_
  refine wp_seq ?_
  refine wp_region_lit ?_
  refine L1 (stv hA (by decide) (run_move (hA.ev rfl)) ?_)
  clear hA; intro a hA
  refine L1 (stv hA (by decide) (run_len_slice Try.underlying22 (hA.ev rfl)) ?_)
  clear hA; intro a hA
  refine L1 (stv hA (by decide) (run_move (hA.ev rfl)) ?_)
  clear hA; intro a hA
  refine LQ ?_
  refine TN ?_
  obtain ⟨o964, H963, H⟩ := Option.bind_eq_some_iff.1 H
  refine cutC (fun a w => ∃ (xs958 : (List Int)) (held960 : Int) (bits962 : Int) (v955 : Value), (xs958, held960, bits962) = o964 ∧ Mem F w0 w [.row 5 (Pl.int .u8).sz v955 ((Pl.int .u8).flat xs958)] ∧ Has 51 [(9, v955), (10, (.int .i64 held960)), (11, (.int .i64 bits962))] a) ?_ ?_
  · refine wp_block ?_
    have hM := hM.addnil 5 ((Pl.int .u8)).sz
    refine wp_loop_ghost (fun m a w => ∃ (xs944 : (List Int)) (held946 : Int) (bits948 : Int) (t952 : Int) (v941 : Value), address_regroup.l0 b_0 from_1 to_2 m xs944 held946 bits948 t952 = some o964 ∧ Mem F w0 w [.row 5 (Pl.int .u8).sz v941 ((Pl.int .u8).flat xs944)] ∧ Has 51 [(1, (.int .i64 from_1)), (2, (.int .i64 to_2)), (9, v941), (10, (.int .i64 held946)), (11, (.int .i64 bits948)), (14, (.slice A0 b_0.length c0)), (15, (.int .i64 ((b_0.length : Nat) : Int))), (16, (.int .i64 t952))] a) k ⟨([] : List Int), 0, 0, 0, (.slice none 0 0), H963, hM, ((((((((hA.nil.cons (hA.get 16 _ rfl)).cons (hA.get 15 _ rfl)).cons (hA.get 14 _ rfl)).cons (hA.get 11 _ rfl)).cons (hA.get 10 _ rfl)).cons (hA.get 9 _ rfl)).cons (hA.get 2 _ rfl)).cons (hA.get 1 _ rfl))⟩ ?_
    clear hM hA; rintro m966 a w967 ⟨xs944, held946, bits948, t952, v941, H963, hM, hA⟩
    cases m966 with
    | zero => exact absurd H963 (by simp [address_regroup.l0])
    | succ m966 =>
    rw [address_regroup.l0] at H963
    obtain ⟨A942, c943, rfl⟩ := RowOk.form (hM.row (p := (Pl.int .u8)) .z)
    refine wp_seq ?_
    refine wp_region_lit ?_
    refine L1 (stv hA (by decide) (run_bin (hA.ev rfl) (hA.ev rfl) (bin_lss _ _ _ _)) ?_)
    clear hA; intro a hA
    refine LQ ?_
    refine TN ?_
    refine wp_seq ?_
    refine tcond (b := (decide (t952 < ((b_0.length : Nat) : Int)))) hA rfl (fun hb968 => ?_) (fun hb968 => ?_)
    · replace H963 := ite_t hb968 H963
      refine wp_skip ?_
      refine TN ?_
      refine wp_seq ?_
      refine wp_block ?_
      refine wp_seq ?_
      refine wp_region_lit ?_
      obtain ⟨⟨hi969, hj970⟩, H963⟩ := ite_some H963
      obtain ⟨ad971, hq972, hat973⟩ := Row.elem' (p := (Pl.int .u8)) (hM.ro hr0) (Eq.refl b_0.length) (0 : Int) t952 hi969 hj970
      refine L1 (stv hA (by decide) (run_idx Try.underlying22 Try.sizeOf5 (hA.ev rfl) hq972 (hA.ev rfl) hi969 hj970) ?_)
      clear hA; intro a hA
      refine L1 (stv hA (by decide) (run_ld (hA.ev rfl) (run_loadS Try.isAgg5 hat973)) ?_)
      clear hA; intro a hA
      refine L1 (stv hA (by decide) (run_assign (hA.ev rfl)) ?_)
      clear hA; intro a hA
      refine LQ ?_
      refine TN ?_
      refine wp_seq ?_
      refine wp_region_lit ?_
      refine L1 (stv hA (by decide) (run_move (hA.ev rfl)) ?_)
      clear hA; intro a hA
      refine L1 (stv hA (by decide) (run_move (hA.ev rfl)) ?_)
      clear hA; intro a hA
      obtain ⟨hs974, H963⟩ := ite_some H963
      refine L1 (stv hA (by decide) (run_shl (hA.ev rfl) (hA.ev rfl) hs974) ?_)
      clear hA; intro a hA
      refine L1 (stv hA (by decide) (run_move (hA.ev rfl)) ?_)
      clear hA; intro a hA
      refine L1 (stv hA (by decide) (run_conv Try.underlying5 Try.underlying3 (hA.ev rfl)) ?_)
      clear hA; intro a hA
      refine L1 (stv hA (by decide) (run_bin (hA.ev rfl) (hA.ev rfl) (bin_or _ _ _ _)) ?_)
      clear hA; intro a hA
      refine L1 (stv hA (by decide) (run_assign (hA.ev rfl)) ?_)
      clear hA; intro a hA
      refine LQ ?_
      refine TN ?_
      refine wp_seq ?_
      refine wp_region_lit ?_
      refine L1 (stv hA (by decide) (run_move (hA.ev rfl)) ?_)
      clear hA; intro a hA
      refine L1 (stv hA (by decide) (run_move (hA.ev rfl)) ?_)
      clear hA; intro a hA
      refine L1 (stv hA (by decide) (run_bin (hA.ev rfl) (hA.ev rfl) (bin_add _ _ _ _)) ?_)
      clear hA; intro a hA
      refine L1 (stv hA (by decide) (run_assign (hA.ev rfl)) ?_)
      clear hA; intro a hA
      refine LQ ?_
      refine TN ?_
      obtain ⟨o1070, H1069, H963⟩ := Option.bind_eq_some_iff.1 H963
      refine cutC (fun a w => ∃ (xs1061 : (List Int)) (held1063 : Int) (bits1065 : Int) (v1058 : Value), (xs1061, held1063, bits1065) = o1070 ∧ Mem F w0 w [.row 5 (Pl.int .u8).sz v1058 ((Pl.int .u8).flat xs1061)] ∧ Has 51 [(1, (.int .i64 from_1)), (2, (.int .i64 to_2)), (9, v1058), (10, (.int .i64 held1063)), (11, (.int .i64 bits1065)), (14, (.slice A0 b_0.length c0)), (15, (.int .i64 ((b_0.length : Nat) : Int))), (16, (.int .i64 t952))] a) ?_ ?_
      · refine wp_block ?_
        refine wp_loop_ghost (fun m a w => ∃ (xs1047 : (List Int)) (held1049 : Int) (bits1051 : Int) (v1044 : Value), address_regroup.l1 to_2 m xs1047 held1049 bits1051 = some o1070 ∧ Mem F w0 w [.row 5 (Pl.int .u8).sz v1044 ((Pl.int .u8).flat xs1047)] ∧ Has 51 [(1, (.int .i64 from_1)), (2, (.int .i64 to_2)), (9, v1044), (10, (.int .i64 held1049)), (11, (.int .i64 bits1051)), (14, (.slice A0 b_0.length c0)), (15, (.int .i64 ((b_0.length : Nat) : Int))), (16, (.int .i64 t952))] a) m966 ⟨xs944, ior .i64 (ishl .i64 held946 from_1) (IntKind.i64.wrap (b_0.getD t952.toNat (0 : Int))), IntKind.i64.wrap (bits948 + from_1), (.slice A942 xs944.length c943), H1069, hM, ((((((((hA.nil.cons (hA.get 16 _ rfl)).cons (hA.get 15 _ rfl)).cons (hA.get 14 _ rfl)).cons (hA.get 11 _ rfl)).cons (hA.get 10 _ rfl)).cons (hA.get 9 _ rfl)).cons (hA.get 2 _ rfl)).cons (hA.get 1 _ rfl))⟩ ?_
        clear hM hA; rintro m1071 a w1072 ⟨xs1047, held1049, bits1051, v1044, H1069, hM, hA⟩
        cases m1071 with
        | zero => exact absurd H1069 (by simp [address_regroup.l1])
        | succ m1071 =>
        rw [address_regroup.l1] at H1069
        obtain ⟨A1045, c1046, rfl⟩ := RowOk.form (hM.row (p := (Pl.int .u8)) .z)
        refine wp_seq ?_
        refine wp_seq ?_
        refine wp_region_lit ?_
        refine L1 (stv hA (by decide) (run_move (hA.ev rfl)) ?_)
        clear hA; intro a hA
        refine L1 (stv hA (by decide) (run_move (hA.ev rfl)) ?_)
        clear hA; intro a hA
        refine L1 (stv hA (by decide) (run_bin (hA.ev rfl) (hA.ev rfl) (bin_geq _ _ _ _)) ?_)
        clear hA; intro a hA
        refine LQ ?_
        refine TN ?_
        refine tcond (b := (decide (bits1051 ≥ to_2))) hA rfl (fun hb1073 => ?_) (fun hb1073 => ?_)
        · replace H1069 := ite_t hb1073 H1069
          refine wp_skip ?_
          refine TN ?_
          refine wp_block ?_
          refine wp_seq ?_
          refine wp_region_lit ?_
          refine L1 (stv hA (by decide) (run_move (hA.ev rfl)) ?_)
          clear hA; intro a hA
          refine L1 (stv hA (by decide) (run_move (hA.ev rfl)) ?_)
          clear hA; intro a hA
          refine L1 (stv hA (by decide) (run_bin (hA.ev rfl) (hA.ev rfl) (bin_sub _ _ _ _)) ?_)
          clear hA; intro a hA
          refine L1 (stv hA (by decide) (run_assign (hA.ev rfl)) ?_)
          clear hA; intro a hA
          refine LQ ?_
          refine TN ?_
          refine wp_seq ?_
          refine wp_region_lit ?_
          refine L1 (stv hA (by decide) (run_move (hA.ev rfl)) ?_)
          clear hA; intro a hA
          refine L1 (stv hA (by decide) (run_move (hA.ev rfl)) ?_)
          clear hA; intro a hA
          refine L1 (stv hA (by decide) (run_move (hA.ev rfl)) ?_)
          clear hA; intro a hA
          obtain ⟨hs1074, H1069⟩ := ite_some H1069
          refine L1 (stv hA (by decide) (run_shr (hA.ev rfl) (hA.ev rfl) hs1074) ?_)
          clear hA; intro a hA
          refine L1 (stv hA (by decide) (run_conv Try.underlying3 Try.underlying5 (hA.ev rfl)) ?_)
          clear hA; intro a hA
          refine L1 (e_litN [IntKind.u8.wrap (ishr .i64 held1049 (IntKind.i64.wrap (bits1051 - to_2)))] [(.int .u8 (IntKind.u8.wrap (ishr .i64 held1049 (IntKind.i64.wrap (bits1051 - to_2)))))] elt22 hM rfl (by decide) hA rfl rfl (List.cons_ne_nil _ _) (by decide) ?_)
          clear hM hA; intro w1076 g1075 hM hE  a hA
          obtain ⟨hl1080, H1069⟩ := ite_some H1069
          refine L1 (e_append elt22 hM (fun _ => (.s .z)) (Src.row Try.underlying22 (RowOk.row (hM.row (p := (Pl.int .u8)) .z)) (RowOk.len (hM.row (p := (Pl.int .u8)) .z))) hl1080 hA rfl rfl (by decide) ?_)
          clear hM hA; intro w1081 A1078 c1079 hM hE  a hA
          refine L1 (stv hA (by decide) (run_assign (hA.ev rfl)) ?_)
          clear hA; intro a hA
          refine LQ ?_
          refine TN ?_
          refine wp_region_lit ?_
          refine L1 (stv hA (by decide) (run_move (hA.ev rfl)) ?_)
          clear hA; intro a hA
          refine L1 (stv hA (by decide) (run_move (hA.ev rfl)) ?_)
          clear hA; intro a hA
          obtain ⟨hs1082, H1069⟩ := ite_some H1069
          refine L1 (stv hA (by decide) (run_shl (hA.ev rfl) (hA.ev rfl) hs1082) ?_)
          clear hA; intro a hA
          refine L1 (stv hA (by decide) (run_bin (hA.ev rfl) (hA.ev rfl) (bin_sub _ _ _ _)) ?_)
          clear hA; intro a hA
          refine L1 (stv hA (by decide) (run_bin (hA.ev rfl) (hA.ev rfl) (bin_and _ _ _ _)) ?_)
          clear hA; intro a hA
          refine L1 (stv hA (by decide) (run_assign (hA.ev rfl)) ?_)
          clear hA; intro a hA
          refine LQ ?_
          refine BN ?_
          exact ⟨_, Nat.lt_succ_self m1071, (xs1047 ++ [IntKind.u8.wrap (ishr .i64 held1049 (IntKind.i64.wrap (bits1051 - to_2)))]), iand .i64 held1049 (IntKind.i64.wrap ((ishl .i64 1 (IntKind.i64.wrap (bits1051 - to_2))) - 1)), IntKind.i64.wrap (bits1051 - to_2), (.slice A1078 (xs1047.length + 1) c1079), H1069, (hM.sel [1] rfl (by decide)), ((((((((hA.nil.cons (hA.get 16 _ rfl)).cons (hA.get 15 _ rfl)).cons (hA.get 14 _ rfl)).cons (hA.get 11 _ rfl)).cons (hA.get 10 _ rfl)).cons (hA.get 9 _ rfl)).cons (hA.get 2 _ rfl)).cons (hA.get 1 _ rfl))⟩
        · replace H1069 := ite_f hb1073 H1069
          refine wp_exit ?_
          refine TX ?_
          refine TX ?_
          refine BX ?_
          exact ⟨xs1047, held1049, bits1051, (.slice A1045 xs1047.length c1046), Option.some.inj H1069, hM, ((((((((hA.nil.cons (hA.get 16 _ rfl)).cons (hA.get 15 _ rfl)).cons (hA.get 14 _ rfl)).cons (hA.get 11 _ rfl)).cons (hA.get 10 _ rfl)).cons (hA.get 9 _ rfl)).cons (hA.get 2 _ rfl)).cons (hA.get 1 _ rfl))⟩
      clear hM hA
      rintro a w1083 ⟨xs1061, held1063, bits1065, v1058, rfl, hM, hA⟩
      try dsimp only at H963
      obtain ⟨A1059, c1060, rfl⟩ := RowOk.form (hM.row (p := (Pl.int .u8)) .z)
      refine BN ?_
      refine TN ?_
      refine wp_region_lit ?_
      refine L1 (stv hA (by decide) (run_bin (hA.ev rfl) (hA.ev rfl) (bin_add _ _ _ _)) ?_)
      clear hA; intro a hA
      refine L1 (stv hA (by decide) (run_move (hA.ev rfl)) ?_)
      clear hA; intro a hA
      refine LQ ?_
      exact ⟨_, Nat.lt_succ_self m966, xs1061, held1063, bits1065, IntKind.i64.wrap (t952 + 1), (.slice A1059 xs1061.length c1060), H963, hM, ((((((((hA.nil.cons (hA.get 16 _ rfl)).cons (hA.get 15 _ rfl)).cons (hA.get 14 _ rfl)).cons (hA.get 11 _ rfl)).cons (hA.get 10 _ rfl)).cons (hA.get 9 _ rfl)).cons (hA.get 2 _ rfl)).cons (hA.get 1 _ rfl))⟩
    · replace H963 := ite_f hb968 H963
      refine wp_exit ?_
      refine TX ?_
      refine TX ?_
      refine BX ?_
      exact ⟨xs944, held946, bits948, (.slice A942 xs944.length c943), Option.some.inj H963, hM, (((hA.nil.cons (hA.get 11 _ rfl)).cons (hA.get 10 _ rfl)).cons (hA.get 9 _ rfl))⟩
  clear hM hA
  rintro a w1084 ⟨xs958, held960, bits962, v955, rfl, hM, hA⟩
  try dsimp only at H
  obtain ⟨A956, c957, rfl⟩ := RowOk.form (hM.row (p := (Pl.int .u8)) .z)
  refine TN ?_
  refine wp_seq ?_
  refine wp_region_lit ?_
  refine L1 (stv hA (by decide) (run_move (hA.ev rfl)) ?_)
  clear hA; intro a hA
  refine L1 (stv hA (by decide) (run_move (hA.ev rfl)) ?_)
  clear hA; intro a hA
  refine L1 (stv hA (by decide) (run_move (hA.ev rfl)) ?_)
  clear hA; intro a hA
  refine L1 (stv hA (by decide) (run_assign (hA.ev rfl)) ?_)
  clear hA; intro a hA
  refine L1 (stv hA (by decide) (run_assign (hA.ev rfl)) ?_)
  clear hA; intro a hA
  refine L1 (stv hA (by decide) (run_assign (hA.ev rfl)) ?_)
  clear hA; intro a hA
  refine LQ ?_
  refine TN ?_
  refine wp_ret ?_
  obtain rfl := Option.some.inj H
  exact ret_post3 (fn := Try.f24) hA rfl rfl rfl rfl ⟨_, rfl, (.slice A956 xs958.length c957), rfl, hM⟩

def address_Back.l0 (d_0 : (List Int)) : Nat → Int → Option (Out ((List Int) × Int) (Unit))
  | 0, _ => none
  | k + 1, t112 => (if (decide (t112 < ((d_0.length : Nat) : Int))) = true then (if 0 ≤ t112 ∧ t112 < ((d_0.length : Nat) : Int) then (if (decide ((d_0.getD t112.toNat (0 : Int)) > 31)) = true then (some (.ret (([] : List Int), 5))) else (address_Back.l0 d_0 k (IntKind.i64.wrap (t112 + 1)))) else none) else (some (.go ())))
def address_Back.f (k : Nat) (d_0 : (List Int)) : Option ((List Int) × Int) := (Option.bind (α := Out ((List Int) × Int) (Unit)) (address_Back.l0 d_0 k 0) (fun o => match o with | .ret r => some r | .go _ => ((address_regroup.f k d_0 5 8).bind fun r127 => (Option.bind (α := Bool) (if (decide (r127.2.2 ≥ 5)) = true then (some true) else (some (r127.2.1 != 0))) (fun t137 => (if t137 = true then (some (([] : List Int), 3)) else (some (r127.1, 0))))))))
set_option maxRecDepth 100000 in
theorem address_Back.calls (k : Nat) (d_0 : (List Int)) (F : List (Option Nat)) (v0 : Value) (r : ((List Int) × Int)) (w0 : World) (h0 : RoV F (Pl.int .u8) w0 v0 d_0) (hM : Mem F w0 w0 []) (H : address_Back.f k d_0 = some r) :
    Calls Try.prog 11 #[v0] w0 fun e w' => ∃ v, e = .returned v ∧ ∃ (ur_0 : Value), v = (.tuple #[ur_0, (.int .i64 r.2)]) ∧ Mem F w0 w' [.row 5 (Pl.int .u8).sz ur_0 ((Pl.int .u8).flat r.1)] := by
  unfold address_Back.f at H
  obtain ⟨A0, c0, rfl, hr0, hc0⟩ := h0
  refine enterL (n := 31) [(.slice A0 d_0.length c0)] Try.func11 rfl rfl rfl ?_
  intro a hA
  refine wp_seq ?_
  refine wp_region_lit ?_
  refine L1 (stv hA (by decide) (run_assign (hA.ev rfl)) ?_)
  clear hA; intro a hA
  refine L1 (stv hA (by decide) (run_assign (hA.ev rfl)) ?_)
  clear hA; intro a hA
  refine LQ ?_
  refine TN ?_
  refine wp_seq ?_
  refine wp_seq ?_
  refine wp_region_lit ?_
  refine L1 (stv hA (by decide) (run_move (hA.ev rfl)) ?_)
  clear hA; intro a hA
  refine L1 (stv hA (by decide) (run_len_slice Try.underlying22 (hA.ev rfl)) ?_)
  clear hA; intro a hA
  refine L1 (stv hA (by decide) (run_move (hA.ev rfl)) ?_)
  clear hA; intro a hA
  refine LQ ?_
  refine TN ?_
  obtain ⟨o115, H114, H⟩ := Option.bind_eq_some_iff.1 H
  refine cutC (fun a w => (.go ()) = o115 ∧ Mem F w0 w [] ∧ Has 31 [(0, (.slice A0 d_0.length c0))] a) ?_ ?_
  · refine wp_block ?_
    refine wp_loop_ghost (fun m a w => ∃ (t112 : Int), address_Back.l0 d_0 m t112 = some o115 ∧ Mem F w0 w [] ∧ Has 31 [(0, (.slice A0 d_0.length c0)), (9, (.slice A0 d_0.length c0)), (10, (.int .i64 ((d_0.length : Nat) : Int))), (11, (.int .i64 t112))] a) k ⟨0, H114, hM, ((((hA.nil.cons (hA.get 11 _ rfl)).cons (hA.get 10 _ rfl)).cons (hA.get 9 _ rfl)).cons (hA.get 0 _ rfl))⟩ ?_
    clear hM hA; rintro m116 a w117 ⟨t112, H114, hM, hA⟩
    cases m116 with
    | zero => exact absurd H114 (by simp [address_Back.l0])
    | succ m116 =>
    rw [address_Back.l0] at H114
    refine wp_seq ?_
    refine wp_region_lit ?_
    refine L1 (stv hA (by decide) (run_bin (hA.ev rfl) (hA.ev rfl) (bin_lss _ _ _ _)) ?_)
    clear hA; intro a hA
    refine LQ ?_
    refine TN ?_
    refine wp_seq ?_
    refine tcond (b := (decide (t112 < ((d_0.length : Nat) : Int)))) hA rfl (fun hb118 => ?_) (fun hb118 => ?_)
    · replace H114 := ite_t hb118 H114
      refine wp_skip ?_
      refine TN ?_
      refine wp_seq ?_
      refine wp_block ?_
      refine wp_seq ?_
      refine wp_region_lit ?_
      obtain ⟨⟨hi119, hj120⟩, H114⟩ := ite_some H114
      obtain ⟨ad121, hq122, hat123⟩ := Row.elem' (p := (Pl.int .u8)) (hM.ro hr0) (Eq.refl d_0.length) (0 : Int) t112 hi119 hj120
      refine L1 (stv hA (by decide) (run_idx Try.underlying22 Try.sizeOf5 (hA.ev rfl) hq122 (hA.ev rfl) hi119 hj120) ?_)
      clear hA; intro a hA
      refine L1 (stv hA (by decide) (run_ld (hA.ev rfl) (run_loadS Try.isAgg5 hat123)) ?_)
      clear hA; intro a hA
      refine L1 (stv hA (by decide) (run_assign (hA.ev rfl)) ?_)
      clear hA; intro a hA
      refine LQ ?_
      refine TN ?_
      refine wp_seq ?_
      refine wp_region_lit ?_
      refine L1 (stv hA (by decide) (run_move (hA.ev rfl)) ?_)
      clear hA; intro a hA
      refine L1 (stv hA (by decide) (run_bin (hA.ev rfl) (hA.ev rfl) (bin_gtr _ _ _ _)) ?_)
      clear hA; intro a hA
      refine LQ ?_
      refine TN ?_
      refine tcond (b := (decide ((d_0.getD t112.toNat (0 : Int)) > 31))) hA rfl (fun hb124 => ?_) (fun hb124 => ?_)
      · replace H114 := ite_t hb124 H114
        refine wp_seq ?_
        refine wp_region_lit ?_
        refine L1 (stv hA (by decide) (run_assign (hA.ev rfl)) ?_)
        clear hA; intro a hA
        refine L1 (stv hA (by decide) (run_assign (hA.ev rfl)) ?_)
        clear hA; intro a hA
        refine LQ ?_
        refine TN ?_
        refine wp_ret ?_
        have hM := hM.addnil 5 ((Pl.int .u8)).sz
        obtain rfl := Option.some.inj H114
        dsimp only at H
        obtain rfl := Option.some.inj H
        refine BR ?_
        refine TR ?_
        refine TR ?_
        refine BR ?_
        refine TR ?_
        refine TR ?_
        exact ret_post2 (fn := Try.f11) hA rfl rfl rfl ⟨_, rfl, (.slice none 0 0), rfl, hM⟩
      · replace H114 := ite_f hb124 H114
        refine wp_skip ?_
        refine BN ?_
        refine TN ?_
        refine wp_region_lit ?_
        refine L1 (stv hA (by decide) (run_bin (hA.ev rfl) (hA.ev rfl) (bin_add _ _ _ _)) ?_)
        clear hA; intro a hA
        refine L1 (stv hA (by decide) (run_move (hA.ev rfl)) ?_)
        clear hA; intro a hA
        refine LQ ?_
        exact ⟨_, Nat.lt_succ_self m116, IntKind.i64.wrap (t112 + 1), H114, hM, ((((hA.nil.cons (hA.get 11 _ rfl)).cons (hA.get 10 _ rfl)).cons (hA.get 9 _ rfl)).cons (hA.get 0 _ rfl))⟩
    · replace H114 := ite_f hb118 H114
      refine wp_exit ?_
      refine TX ?_
      refine TX ?_
      refine BX ?_
      exact ⟨Option.some.inj H114, hM, (hA.nil.cons (hA.get 0 _ rfl))⟩
  clear hM hA
  rintro a w126 ⟨rfl, hM, hA⟩
  try dsimp only at H
  refine TN ?_
  refine wp_seq ?_
  refine wp_region_lit ?_
  refine L1 (stv hA (by decide) (run_move (hA.ev rfl)) ?_)
  clear hA; intro a hA
  obtain ⟨r127, H128, H⟩ := Option.bind_eq_some_iff.1 H
  refine L1 (st_call Try.call24 hA [(.slice A0 d_0.length c0), (.int .i64 5), (.int .i64 8)] rfl (by decide) (address_regroup.calls _ _ _ _ _ _ _ _ ((RoV.mk (hM.roC (Ms := []) hr0) (Eq.refl d_0.length) hc0)) (hM.front (Ms := [])) H128) ?_)
  clear hA; rintro _ w129 ⟨v130, rfl, hMc⟩ a hA
  have hE := hMc.below; have hM := hM.call (Ms := []) hMc
  clear hMc; simp only [List.cons_append, List.nil_append] at hM
  obtain ⟨A132, c133, rfl⟩ := RowOk.form (hM.row (p := (Pl.int .u8)) .z)
  refine L1 (stv hA (by decide) (run_move (hA.ev rfl)) ?_)
  clear hA; intro a hA
  refine L1 (stv hA (by decide) (run_ext (hA.ev rfl) rfl) ?_)
  clear hA; intro a hA
  refine L1 (stv hA (by decide) (run_ext (hA.ev rfl) rfl) ?_)
  clear hA; intro a hA
  refine L1 (stv hA (by decide) (run_ext (hA.ev rfl) rfl) ?_)
  clear hA; intro a hA
  refine L1 (stv hA (by decide) (run_assign (hA.ev rfl)) ?_)
  clear hA; intro a hA
  refine L1 (stv hA (by decide) (run_assign (hA.ev rfl)) ?_)
  clear hA; intro a hA
  refine L1 (stv hA (by decide) (run_assign (hA.ev rfl)) ?_)
  clear hA; intro a hA
  refine LQ ?_
  refine TN ?_
  refine wp_seq ?_
  refine wp_seq ?_
  obtain ⟨o139, H138, H⟩ := Option.bind_eq_some_iff.1 H
  refine cutC (fun a w => ∃ (t137 : Bool), t137 = o139 ∧ Mem F w0 w [.row 5 (Pl.int .u8).sz (.slice A132 r127.1.length c133) ((Pl.int .u8).flat r127.1)] ∧ Has 31 [(6, (.slice A132 r127.1.length c133)), (29, (.bool t137))] a) ?_ ?_
  · refine wp_region_lit ?_
    refine L1 (stv hA (by decide) (run_move (hA.ev rfl)) ?_)
    clear hA; intro a hA
    refine L1 (stv hA (by decide) (run_bin (hA.ev rfl) (hA.ev rfl) (bin_geq _ _ _ _)) ?_)
    clear hA; intro a hA
    refine L1 (stv hA (by decide) (run_move (hA.ev rfl)) ?_)
    clear hA; intro a hA
    refine bsplit (b := (decide (r127.2.2 ≥ 5))) (fun hb140 => ?_) (fun hb140 => ?_)
    · replace H138 := ite_t hb140 H138
      have hA := hA.re (t := 26) rfl (congrArg Value.bool hb140)
      refine L1 (gate_off rfl (by decide) rfl hA (by decide) rfl rfl ?_); clear hA; intro a hA
      refine L1 (gate_off rfl (by decide) rfl hA (by decide) rfl rfl ?_); clear hA; intro a hA
      refine L1 (stv hA (by decide) (run_pick (hA.ev rfl) (fun _ => hA.ev rfl) (fun h => Bool.noConfusion h)) ?_)
      clear hA; intro a hA
      refine LQ ?_
      exact ⟨true, Option.some.inj H138, hM, ((hA.nil.cons (hA.get 29 _ rfl)).cons (hA.get 6 _ rfl))⟩
    · replace H138 := ite_f hb140 H138
      have hA := hA.re (t := 26) rfl (congrArg Value.bool hb140)
      refine L1 (gate_on rfl rfl hA (by decide) rfl (stv hA (by decide) (run_move (hA.ev rfl)) ?_))
      clear hA; intro a hA
      refine L1 (gate_on rfl rfl hA (by decide) rfl (stv hA (by decide) (run_bin (hA.ev rfl) (hA.ev rfl) (bin_neq _ _ _ _)) ?_))
      clear hA; intro a hA
      refine L1 (stv hA (by decide) (run_pick (hA.ev rfl) (fun h => Bool.noConfusion h) (fun _ => hA.ev rfl)) ?_)
      clear hA; intro a hA
      refine LQ ?_
      exact ⟨(r127.2.1 != 0), Option.some.inj H138, hM, ((hA.nil.cons (hA.get 29 _ rfl)).cons (hA.get 6 _ rfl))⟩
  clear hM hA
  rintro a w141 ⟨t137, rfl, hM, hA⟩
  try dsimp only at H
  refine TN ?_
  refine tcond (b := t137) hA rfl (fun hb142 => ?_) (fun hb142 => ?_)
  · replace H := ite_t hb142 H
    refine wp_seq ?_
    refine wp_region_lit ?_
    refine L1 (stv hA (by decide) (run_assign (hA.ev rfl)) ?_)
    clear hA; intro a hA
    refine L1 (stv hA (by decide) (run_assign (hA.ev rfl)) ?_)
    clear hA; intro a hA
    refine LQ ?_
    refine TN ?_
    refine wp_ret ?_
    have hM := hM.addnil 5 ((Pl.int .u8)).sz
    obtain rfl := Option.some.inj H
    refine TR ?_
    exact ret_post2 (fn := Try.f11) hA rfl rfl rfl ⟨_, rfl, (.slice none 0 0), rfl, (hM.sel [0] rfl (by decide))⟩
  · replace H := ite_f hb142 H
    refine wp_skip ?_
    refine TN ?_
    refine wp_seq ?_
    refine wp_region_lit ?_
    refine L1 (stv hA (by decide) (run_move (hA.ev rfl)) ?_)
    clear hA; intro a hA
    refine L1 (stv hA (by decide) (run_assign (hA.ev rfl)) ?_)
    clear hA; intro a hA
    refine L1 (stv hA (by decide) (run_assign (hA.ev rfl)) ?_)
    clear hA; intro a hA
    refine LQ ?_
    refine TN ?_
    refine wp_ret ?_
    obtain rfl := Option.some.inj H
    exact ret_post2 (fn := Try.f11) hA rfl rfl rfl ⟨_, rfl, (.slice A132 r127.1.length c133), rfl, hM⟩

def address_Convert.f (k : Nat) (b_0 : (List Int)) : Option (List Int) := ((address_regroup.f k b_0 8 5).bind fun r34 => (Option.bind (α := (List Int)) (if (decide (r34.2.2 > 0)) = true then (if 0 ≤ (IntKind.i64.wrap (5 - r34.2.2)) then (if (r34.1.length + 1) * 1 ≤ 140737488355328 then (some (r34.1 ++ [IntKind.u8.wrap (ishl .i64 r34.2.1 (IntKind.i64.wrap (5 - r34.2.2)))])) else none) else none) else (some r34.1)) (fun xs54 => (some xs54))))
set_option maxRecDepth 100000 in
theorem address_Convert.calls (k : Nat) (b_0 : (List Int)) (F : List (Option Nat)) (v0 : Value) (r : (List Int)) (w0 : World) (h0 : RoV F (Pl.int .u8) w0 v0 b_0) (hM : Mem F w0 w0 []) (H : address_Convert.f k b_0 = some r) :
    Calls Try.prog 14 #[v0] w0 fun e w' => ∃ v, e = .returned v ∧ ∃ (ur_0 : Value), v = ur_0 ∧ Mem F w0 w' [.row 5 (Pl.int .u8).sz ur_0 ((Pl.int .u8).flat r)] := by
  unfold address_Convert.f at H
  obtain ⟨A0, c0, rfl, hr0, hc0⟩ := h0
  refine enterL (n := 23) [(.slice A0 b_0.length c0)] Try.func14 rfl rfl rfl ?_
  intro a hA
  refine wp_seq ?_
  refine wp_region_lit ?_
  refine L1 (stv hA (by decide) (run_assign (hA.ev rfl)) ?_)
  clear hA; intro a hA
  refine LQ ?_
  refine TN ?_
  refine wp_seq ?_
  refine wp_region_lit ?_
  refine L1 (stv hA (by decide) (run_move (hA.ev rfl)) ?_)
  clear hA; intro a hA
  obtain ⟨r34, H35, H⟩ := Option.bind_eq_some_iff.1 H
  refine L1 (st_call Try.call24 hA [(.slice A0 b_0.length c0), (.int .i64 8), (.int .i64 5)] rfl (by decide) (address_regroup.calls _ _ _ _ _ _ _ _ ((RoV.mk (hM.roC (Ms := []) hr0) (Eq.refl b_0.length) hc0)) (hM.front (Ms := [])) H35) ?_)
  clear hA; rintro _ w36 ⟨v37, rfl, hMc⟩ a hA
  have hE := hMc.below; have hM := hM.call (Ms := []) hMc
  clear hMc; simp only [List.cons_append, List.nil_append] at hM
  obtain ⟨A39, c40, rfl⟩ := RowOk.form (hM.row (p := (Pl.int .u8)) .z)
  refine L1 (stv hA (by decide) (run_move (hA.ev rfl)) ?_)
  clear hA; intro a hA
  refine L1 (stv hA (by decide) (run_ext (hA.ev rfl) rfl) ?_)
  clear hA; intro a hA
  refine L1 (stv hA (by decide) (run_ext (hA.ev rfl) rfl) ?_)
  clear hA; intro a hA
  refine L1 (stv hA (by decide) (run_ext (hA.ev rfl) rfl) ?_)
  clear hA; intro a hA
  refine L1 (stv hA (by decide) (run_assign (hA.ev rfl)) ?_)
  clear hA; intro a hA
  refine L1 (stv hA (by decide) (run_assign (hA.ev rfl)) ?_)
  clear hA; intro a hA
  refine L1 (stv hA (by decide) (run_assign (hA.ev rfl)) ?_)
  clear hA; intro a hA
  refine LQ ?_
  refine TN ?_
  refine wp_seq ?_
  refine wp_seq ?_
  refine wp_region_lit ?_
  refine L1 (stv hA (by decide) (run_move (hA.ev rfl)) ?_)
  clear hA; intro a hA
  refine L1 (stv hA (by decide) (run_bin (hA.ev rfl) (hA.ev rfl) (bin_gtr _ _ _ _)) ?_)
  clear hA; intro a hA
  refine LQ ?_
  refine TN ?_
  obtain ⟨o56, H55, H⟩ := Option.bind_eq_some_iff.1 H
  refine cutC (fun a w => ∃ (xs54 : (List Int)) (v51 : Value), xs54 = o56 ∧ Mem F w0 w [.row 5 (Pl.int .u8).sz v51 ((Pl.int .u8).flat xs54)] ∧ Has 23 [(3, v51)] a) ?_ ?_
  · refine tcond (b := (decide (r34.2.2 > 0))) hA rfl (fun hb57 => ?_) (fun hb57 => ?_)
    · replace H55 := ite_t hb57 H55
      refine wp_region_lit ?_
      refine L1 (stv hA (by decide) (run_move (hA.ev rfl)) ?_)
      clear hA; intro a hA
      refine L1 (stv hA (by decide) (run_move (hA.ev rfl)) ?_)
      clear hA; intro a hA
      refine L1 (stv hA (by decide) (run_move (hA.ev rfl)) ?_)
      clear hA; intro a hA
      refine L1 (stv hA (by decide) (run_bin (hA.ev rfl) (hA.ev rfl) (bin_sub _ _ _ _)) ?_)
      clear hA; intro a hA
      obtain ⟨hs58, H55⟩ := ite_some H55
      refine L1 (stv hA (by decide) (run_shl (hA.ev rfl) (hA.ev rfl) hs58) ?_)
      clear hA; intro a hA
      refine L1 (stv hA (by decide) (run_conv Try.underlying3 Try.underlying5 (hA.ev rfl)) ?_)
      clear hA; intro a hA
      refine L1 (e_litN [IntKind.u8.wrap (ishl .i64 r34.2.1 (IntKind.i64.wrap (5 - r34.2.2)))] [(.int .u8 (IntKind.u8.wrap (ishl .i64 r34.2.1 (IntKind.i64.wrap (5 - r34.2.2)))))] elt22 hM rfl (by decide) hA rfl rfl (List.cons_ne_nil _ _) (by decide) ?_)
      clear hM hA; intro w60 g59 hM hE  a hA
      obtain ⟨hl64, H55⟩ := ite_some H55
      refine L1 (e_append elt22 hM (fun _ => (.s .z)) (Src.row Try.underlying22 (RowOk.row (hM.row (p := (Pl.int .u8)) .z)) (RowOk.len (hM.row (p := (Pl.int .u8)) .z))) hl64 hA rfl rfl (by decide) ?_)
      clear hM hA; intro w65 A62 c63 hM hE  a hA
      refine L1 (stv hA (by decide) (run_assign (hA.ev rfl)) ?_)
      clear hA; intro a hA
      refine LQ ?_
      exact ⟨(r34.1 ++ [IntKind.u8.wrap (ishl .i64 r34.2.1 (IntKind.i64.wrap (5 - r34.2.2)))]), (.slice A62 (r34.1.length + 1) c63), Option.some.inj H55, (hM.sel [1] rfl (by decide)), (hA.nil.cons (hA.get 3 _ rfl))⟩
    · replace H55 := ite_f hb57 H55
      refine wp_skip ?_
      exact ⟨r34.1, (.slice A39 r34.1.length c40), Option.some.inj H55, hM, (hA.nil.cons (hA.get 3 _ rfl))⟩
  clear hM hA
  rintro a w66 ⟨xs54, v51, rfl, hM, hA⟩
  try dsimp only at H
  obtain ⟨A52, c53, rfl⟩ := RowOk.form (hM.row (p := (Pl.int .u8)) .z)
  refine TN ?_
  refine wp_seq ?_
  refine wp_region_lit ?_
  refine L1 (stv hA (by decide) (run_move (hA.ev rfl)) ?_)
  clear hA; intro a hA
  refine L1 (stv hA (by decide) (run_assign (hA.ev rfl)) ?_)
  clear hA; intro a hA
  refine LQ ?_
  refine TN ?_
  refine wp_ret ?_
  obtain rfl := Option.some.inj H
  exact ret_post1 (fn := Try.f14) hA rfl rfl ⟨_, rfl, (.slice A52 xs54.length c53), rfl, hM⟩

def law27_sane.f (k : Nat)  : Option Bool := ((address_Convert.f k [(255 : Int)]).bind fun r55 => ((address_Back.f k [(31 : Int), (29 : Int)]).bind fun r65 => (Option.bind (α := Bool) (if (((r55.length : Nat) : Int) == 2) = true then (if 0 ≤ (0 : Int) ∧ (0 : Int) < ((r55.length : Nat) : Int) then (if ((r55.getD (0 : Int).toNat (0 : Int)) == 31) = true then (if 0 ≤ (1 : Int) ∧ (1 : Int) < ((r55.length : Nat) : Int) then (if ((r55.getD (1 : Int).toNat (0 : Int)) == 28) = true then (some (r65.2 == 3)) else (some false)) else none) else (some false)) else none) else (some false)) (fun t86 => (some t86)))))
set_option maxRecDepth 100000 in
theorem law27_sane.calls (k : Nat)  (F : List (Option Nat)) (r : Bool) (w0 : World) (hM : Mem F w0 w0 []) (H : law27_sane.f k  = some r) :
    Calls Try.prog 9 #[] w0 fun e w' => ∃ v, e = .returned v ∧ v = (.bool r) ∧ Mem F w0 w' [] := by
  unfold law27_sane.f at H
  refine enterL (n := 30) [] Try.func9 rfl rfl rfl ?_
  intro a hA
  refine wp_seq ?_
  refine wp_region_lit ?_
  refine L1 (stv hA (by decide) (run_assign (hA.ev rfl)) ?_)
  clear hA; intro a hA
  refine LQ ?_
  refine TN ?_
  refine wp_seq ?_
  refine wp_region_lit ?_
  refine L1 (e_litN [(255 : Int)] [(.int .u8 255)] elt22 hM rfl (by decide) hA rfl rfl (List.cons_ne_nil _ _) (by decide) ?_)
  clear hM hA; intro w53 g52 hM hE  a hA
  obtain ⟨r55, H56, H⟩ := Option.bind_eq_some_iff.1 H
  refine L1 (st_call Try.call14 hA [(.slice (some ⟨g52, 0, none⟩) 1 1)] rfl (by decide) (address_Convert.calls _ _ _ _ _ _ ((RoV.mk (hM.rowC (p := (Pl.int .u8)) (Ms := []) .z) (RowOk.len (hM.row (p := (Pl.int .u8)) .z)) (RowOk.cap (hM.row (p := (Pl.int .u8)) .z)))) (hM.front (Ms := [])) H56) ?_)
  clear hA; rintro _ w57 ⟨v58, rfl, hMc⟩ a hA
  have hE := hMc.below; have hM := hM.call (Ms := []) hMc
  clear hMc; simp only [List.cons_append, List.nil_append] at hM
  obtain ⟨A60, c61, rfl⟩ := RowOk.form (hM.row (p := (Pl.int .u8)) .z)
  refine L1 (stv hA (by decide) (run_assign (hA.ev rfl)) ?_)
  clear hA; intro a hA
  refine LQ ?_
  refine TN ?_
  refine wp_seq ?_
  refine wp_region_lit ?_
  refine L1 (e_litN [(31 : Int), (29 : Int)] [(.int .u8 31), (.int .u8 29)] elt22 hM rfl (by decide) hA rfl rfl (List.cons_ne_nil _ _) (by decide) ?_)
  clear hM hA; intro w63 g62 hM hE  a hA
  obtain ⟨r65, H66, H⟩ := Option.bind_eq_some_iff.1 H
  refine L1 (st_call Try.call11 hA [(.slice (some ⟨g62, 0, none⟩) 2 2)] rfl (by decide) (address_Back.calls _ _ _ _ _ _ ((RoV.mk (hM.rowC (p := (Pl.int .u8)) (Ms := []) .z) (RowOk.len (hM.row (p := (Pl.int .u8)) .z)) (RowOk.cap (hM.row (p := (Pl.int .u8)) .z)))) (hM.front (Ms := [])) H66) ?_)
  clear hA; rintro _ w67 ⟨v68, rfl, hMc⟩ a hA
  have hE := hMc.below; have hM := hM.call (Ms := []) hMc
  clear hMc; simp only [List.cons_append, List.nil_append] at hM
  obtain ⟨A70, c71, rfl⟩ := RowOk.form (hM.row (p := (Pl.int .u8)) .z)
  refine L1 (stv hA (by decide) (run_move (hA.ev rfl)) ?_)
  clear hA; intro a hA
  refine L1 (stv hA (by decide) (run_ext (hA.ev rfl) rfl) ?_)
  clear hA; intro a hA
  refine L1 (stv hA (by decide) (run_ext (hA.ev rfl) rfl) ?_)
  clear hA; intro a hA
  refine L1 (stv hA (by decide) (run_assign (hA.ev rfl)) ?_)
  clear hA; intro a hA
  refine L1 (stv hA (by decide) (run_assign (hA.ev rfl)) ?_)
  clear hA; intro a hA
  refine LQ ?_
  refine TN ?_
  refine wp_seq ?_
  obtain ⟨o88, H87, H⟩ := Option.bind_eq_some_iff.1 H
  refine cutC (fun a w => ∃ (t86 : Bool), t86 = o88 ∧ Mem F w0 w [] ∧ Has 30 [(0, (.bool t86))] a) ?_ ?_
  · refine wp_region_lit ?_
    refine L1 (stv hA (by decide) (run_move (hA.ev rfl)) ?_)
    clear hA; intro a hA
    refine L1 (stv hA (by decide) (run_len_slice Try.underlying22 (hA.ev rfl)) ?_)
    clear hA; intro a hA
    refine L1 (stv hA (by decide) (run_bin (hA.ev rfl) (hA.ev rfl) (bin_eql _ _ _ _)) ?_)
    clear hA; intro a hA
    refine L1 (stv hA (by decide) (run_move (hA.ev rfl)) ?_)
    clear hA; intro a hA
    refine bsplit (b := (((r55.length : Nat) : Int) == 2)) (fun hb89 => ?_) (fun hb89 => ?_)
    · replace H87 := ite_t hb89 H87
      have hA := hA.re (t := 14) rfl (congrArg Value.bool hb89)
      refine L1 (gate_on rfl rfl hA (by decide) rfl (stv hA (by decide) (run_move (hA.ev rfl)) ?_))
      clear hA; intro a hA
      obtain ⟨⟨hi90, hj91⟩, H87⟩ := ite_some H87
      obtain ⟨ad92, hq93, hat94⟩ := Row.elem' (p := (Pl.int .u8)) (RowOk.row (hM.row (p := (Pl.int .u8)) (.s (.s .z)))) (RowOk.len (hM.row (p := (Pl.int .u8)) (.s (.s .z)))) (0 : Int) (0 : Int) hi90 hj91
      refine L1 (gate_on rfl rfl hA (by decide) rfl (stv hA (by decide) (run_idx Try.underlying22 Try.sizeOf5 (hA.ev rfl) hq93 (hA.ev rfl) hi90 hj91) ?_))
      clear hA; intro a hA
      refine L1 (gate_on rfl rfl hA (by decide) rfl (stv hA (by decide) (run_ld (hA.ev rfl) (run_loadS Try.isAgg5 hat94)) ?_))
      clear hA; intro a hA
      refine L1 (gate_on rfl rfl hA (by decide) rfl (stv hA (by decide) (run_bin (hA.ev rfl) (hA.ev rfl) (bin_eql _ _ _ _)) ?_))
      clear hA; intro a hA
      refine L1 (stv hA (by decide) (run_pick (hA.ev rfl) (fun _ => hA.ev rfl) (fun h => Bool.noConfusion h)) ?_)
      clear hA; intro a hA
      refine L1 (stv hA (by decide) (run_move (hA.ev rfl)) ?_)
      clear hA; intro a hA
      refine bsplit (b := ((r55.getD (0 : Int).toNat (0 : Int)) == 31)) (fun hb95 => ?_) (fun hb95 => ?_)
      · replace H87 := ite_t hb95 H87
        have hA := hA.re (t := 20) rfl (congrArg Value.bool hb95)
        refine L1 (gate_on rfl rfl hA (by decide) rfl (stv hA (by decide) (run_move (hA.ev rfl)) ?_))
        clear hA; intro a hA
        obtain ⟨⟨hi96, hj97⟩, H87⟩ := ite_some H87
        obtain ⟨ad98, hq99, hat100⟩ := Row.elem' (p := (Pl.int .u8)) (RowOk.row (hM.row (p := (Pl.int .u8)) (.s (.s .z)))) (RowOk.len (hM.row (p := (Pl.int .u8)) (.s (.s .z)))) (0 : Int) (1 : Int) hi96 hj97
        refine L1 (gate_on rfl rfl hA (by decide) rfl (stv hA (by decide) (run_idx Try.underlying22 Try.sizeOf5 (hA.ev rfl) hq99 (hA.ev rfl) hi96 hj97) ?_))
        clear hA; intro a hA
        refine L1 (gate_on rfl rfl hA (by decide) rfl (stv hA (by decide) (run_ld (hA.ev rfl) (run_loadS Try.isAgg5 hat100)) ?_))
        clear hA; intro a hA
        refine L1 (gate_on rfl rfl hA (by decide) rfl (stv hA (by decide) (run_bin (hA.ev rfl) (hA.ev rfl) (bin_eql _ _ _ _)) ?_))
        clear hA; intro a hA
        refine L1 (stv hA (by decide) (run_pick (hA.ev rfl) (fun _ => hA.ev rfl) (fun h => Bool.noConfusion h)) ?_)
        clear hA; intro a hA
        refine L1 (stv hA (by decide) (run_move (hA.ev rfl)) ?_)
        clear hA; intro a hA
        refine bsplit (b := ((r55.getD (1 : Int).toNat (0 : Int)) == 28)) (fun hb101 => ?_) (fun hb101 => ?_)
        · replace H87 := ite_t hb101 H87
          have hA := hA.re (t := 26) rfl (congrArg Value.bool hb101)
          refine L1 (gate_on rfl rfl hA (by decide) rfl (stv hA (by decide) (run_move (hA.ev rfl)) ?_))
          clear hA; intro a hA
          refine L1 (gate_on rfl rfl hA (by decide) rfl (stv hA (by decide) (run_bin (hA.ev rfl) (hA.ev rfl) (bin_eql _ _ _ _)) ?_))
          clear hA; intro a hA
          refine L1 (stv hA (by decide) (run_pick (hA.ev rfl) (fun _ => hA.ev rfl) (fun h => Bool.noConfusion h)) ?_)
          clear hA; intro a hA
          refine L1 (stv hA (by decide) (run_assign (hA.ev rfl)) ?_)
          clear hA; intro a hA
          refine LQ ?_
          exact ⟨(r65.2 == 3), Option.some.inj H87, (hM.sel [] rfl (by decide)), (hA.nil.cons (hA.get 0 _ rfl))⟩
        · replace H87 := ite_f hb101 H87
          have hA := hA.re (t := 26) rfl (congrArg Value.bool hb101)
          refine L1 (gate_off rfl (by decide) rfl hA (by decide) rfl rfl ?_); clear hA; intro a hA
          refine L1 (gate_off rfl (by decide) rfl hA (by decide) rfl rfl ?_); clear hA; intro a hA
          refine L1 (stv hA (by decide) (run_pick (hA.ev rfl) (fun h => Bool.noConfusion h) (fun _ => hA.ev rfl)) ?_)
          clear hA; intro a hA
          refine L1 (stv hA (by decide) (run_assign (hA.ev rfl)) ?_)
          clear hA; intro a hA
          refine LQ ?_
          exact ⟨false, Option.some.inj H87, (hM.sel [] rfl (by decide)), (hA.nil.cons (hA.get 0 _ rfl))⟩
      · replace H87 := ite_f hb95 H87
        have hA := hA.re (t := 20) rfl (congrArg Value.bool hb95)
        refine L1 (gate_off rfl (by decide) rfl hA (by decide) rfl rfl ?_); clear hA; intro a hA
        refine L1 (gate_off rfl (by decide) rfl hA (by decide) rfl rfl ?_); clear hA; intro a hA
        refine L1 (gate_off rfl (by decide) rfl hA (by decide) rfl rfl ?_); clear hA; intro a hA
        refine L1 (gate_off rfl (by decide) rfl hA (by decide) rfl rfl ?_); clear hA; intro a hA
        refine L1 (stv hA (by decide) (run_pick (hA.ev rfl) (fun h => Bool.noConfusion h) (fun _ => hA.ev rfl)) ?_)
        clear hA; intro a hA
        refine L1 (stv hA (by decide) (run_move (hA.ev rfl)) ?_)
        clear hA; intro a hA
        refine L1 (gate_off rfl (by decide) rfl hA (by decide) rfl rfl ?_); clear hA; intro a hA
        refine L1 (gate_off rfl (by decide) rfl hA (by decide) rfl rfl ?_); clear hA; intro a hA
        refine L1 (stv hA (by decide) (run_pick (hA.ev rfl) (fun h => Bool.noConfusion h) (fun _ => hA.ev rfl)) ?_)
        clear hA; intro a hA
        refine L1 (stv hA (by decide) (run_assign (hA.ev rfl)) ?_)
        clear hA; intro a hA
        refine LQ ?_
        exact ⟨false, Option.some.inj H87, (hM.sel [] rfl (by decide)), (hA.nil.cons (hA.get 0 _ rfl))⟩
    · replace H87 := ite_f hb89 H87
      have hA := hA.re (t := 14) rfl (congrArg Value.bool hb89)
      refine L1 (gate_off rfl (by decide) rfl hA (by decide) rfl rfl ?_); clear hA; intro a hA
      refine L1 (gate_off rfl (by decide) rfl hA (by decide) rfl rfl ?_); clear hA; intro a hA
      refine L1 (gate_off rfl (by decide) rfl hA (by decide) rfl rfl ?_); clear hA; intro a hA
      refine L1 (gate_off rfl (by decide) rfl hA (by decide) rfl rfl ?_); clear hA; intro a hA
      refine L1 (stv hA (by decide) (run_pick (hA.ev rfl) (fun h => Bool.noConfusion h) (fun _ => hA.ev rfl)) ?_)
      clear hA; intro a hA
      refine L1 (stv hA (by decide) (run_move (hA.ev rfl)) ?_)
      clear hA; intro a hA
      refine L1 (gate_off rfl (by decide) rfl hA (by decide) rfl rfl ?_); clear hA; intro a hA
      refine L1 (gate_off rfl (by decide) rfl hA (by decide) rfl rfl ?_); clear hA; intro a hA
      refine L1 (gate_off rfl (by decide) rfl hA (by decide) rfl rfl ?_); clear hA; intro a hA
      refine L1 (gate_off rfl (by decide) rfl hA (by decide) rfl rfl ?_); clear hA; intro a hA
      refine L1 (stv hA (by decide) (run_pick (hA.ev rfl) (fun h => Bool.noConfusion h) (fun _ => hA.ev rfl)) ?_)
      clear hA; intro a hA
      refine L1 (stv hA (by decide) (run_move (hA.ev rfl)) ?_)
      clear hA; intro a hA
      refine L1 (gate_off rfl (by decide) rfl hA (by decide) rfl rfl ?_); clear hA; intro a hA
      refine L1 (gate_off rfl (by decide) rfl hA (by decide) rfl rfl ?_); clear hA; intro a hA
      refine L1 (stv hA (by decide) (run_pick (hA.ev rfl) (fun h => Bool.noConfusion h) (fun _ => hA.ev rfl)) ?_)
      clear hA; intro a hA
      refine L1 (stv hA (by decide) (run_assign (hA.ev rfl)) ?_)
      clear hA; intro a hA
      refine LQ ?_
      exact ⟨false, Option.some.inj H87, (hM.sel [] rfl (by decide)), (hA.nil.cons (hA.get 0 _ rfl))⟩
  clear hM hA
  rintro a w102 ⟨t86, rfl, hM, hA⟩
  try dsimp only at H
  refine TN ?_
  refine wp_ret ?_
  obtain rfl := Option.some.inj H
  exact ret_post1 (fn := Try.f9) hA rfl rfl ⟨_, rfl, rfl, hM⟩

def mill_Mod.f (k : Nat) (v_0 : Int) (n_1 : Int) : Option Int := (if ¬ n_1 = 0 then (Option.bind (α := Int) (if (decide ((v_0.tmod n_1) < 0)) = true then (some (IntKind.i64.wrap ((v_0.tmod n_1) + n_1))) else (some (v_0.tmod n_1))) (fun t12 => (some t12))) else none)
set_option maxRecDepth 100000 in
theorem mill_Mod.calls (k : Nat) (v_0 : Int) (n_1 : Int) (F : List (Option Nat)) (r : Int) (w0 : World) (hM : Mem F w0 w0 []) (H : mill_Mod.f k v_0 n_1 = some r) :
    Calls Try.prog 16 #[(.int .i64 v_0), (.int .i64 n_1)] w0 fun e w' => ∃ v, e = .returned v ∧ v = (.int .i64 r) ∧ Mem F w0 w' [] := by
  unfold mill_Mod.f at H
  refine enterL (n := 15) [(.int .i64 v_0), (.int .i64 n_1)] Try.func16 rfl rfl rfl ?_
  intro a hA
  refine wp_seq ?_
  refine wp_region_lit ?_
  refine L1 (stv hA (by decide) (run_assign (hA.ev rfl)) ?_)
  clear hA; intro a hA
  refine LQ ?_
  refine TN ?_
  refine wp_seq ?_
  refine wp_region_lit ?_
  refine L1 (stv hA (by decide) (run_move (hA.ev rfl)) ?_)
  clear hA; intro a hA
  refine L1 (stv hA (by decide) (run_move (hA.ev rfl)) ?_)
  clear hA; intro a hA
  obtain ⟨hd9, H⟩ := ite_some H
  refine L1 (stv hA (by decide) (run_bin (hA.ev rfl) (hA.ev rfl) (bin_rem _ _ _ _ hd9)) ?_)
  clear hA; intro a hA
  refine L1 (stv hA (by decide) (run_assign (hA.ev rfl)) ?_)
  clear hA; intro a hA
  refine LQ ?_
  refine TN ?_
  refine wp_seq ?_
  refine wp_seq ?_
  refine wp_region_lit ?_
  refine L1 (stv hA (by decide) (run_move (hA.ev rfl)) ?_)
  clear hA; intro a hA
  refine L1 (stv hA (by decide) (run_bin (hA.ev rfl) (hA.ev rfl) (bin_lss _ _ _ _)) ?_)
  clear hA; intro a hA
  refine LQ ?_
  refine TN ?_
  obtain ⟨o14, H13, H⟩ := Option.bind_eq_some_iff.1 H
  refine cutC (fun a w => ∃ (t12 : Int), t12 = o14 ∧ Mem F w0 w [] ∧ Has 15 [(5, (.int .i64 t12))] a) ?_ ?_
  · refine tcond (b := (decide ((v_0.tmod n_1) < 0))) hA rfl (fun hb15 => ?_) (fun hb15 => ?_)
    · replace H13 := ite_t hb15 H13
      refine wp_region_lit ?_
      refine L1 (stv hA (by decide) (run_move (hA.ev rfl)) ?_)
      clear hA; intro a hA
      refine L1 (stv hA (by decide) (run_move (hA.ev rfl)) ?_)
      clear hA; intro a hA
      refine L1 (stv hA (by decide) (run_bin (hA.ev rfl) (hA.ev rfl) (bin_add _ _ _ _)) ?_)
      clear hA; intro a hA
      refine L1 (stv hA (by decide) (run_assign (hA.ev rfl)) ?_)
      clear hA; intro a hA
      refine LQ ?_
      exact ⟨IntKind.i64.wrap ((v_0.tmod n_1) + n_1), Option.some.inj H13, hM, (hA.nil.cons (hA.get 5 _ rfl))⟩
    · replace H13 := ite_f hb15 H13
      refine wp_skip ?_
      exact ⟨v_0.tmod n_1, Option.some.inj H13, hM, (hA.nil.cons (hA.get 5 _ rfl))⟩
  clear hM hA
  rintro a w16 ⟨t12, rfl, hM, hA⟩
  try dsimp only at H
  refine TN ?_
  refine wp_seq ?_
  refine wp_region_lit ?_
  refine L1 (stv hA (by decide) (run_move (hA.ev rfl)) ?_)
  clear hA; intro a hA
  refine L1 (stv hA (by decide) (run_assign (hA.ev rfl)) ?_)
  clear hA; intro a hA
  refine LQ ?_
  refine TN ?_
  refine wp_ret ?_
  obtain rfl := Option.some.inj H
  exact ret_post1 (fn := Try.f16) hA rfl rfl ⟨_, rfl, rfl, hM⟩

def law27_prefix.f (k : Nat) (n_0 : Int) : Option ByteArray := ((mill_Mod.f k n_0 5).bind fun r15 => (if 0 ≤ r15 ∧ r15 < ((5 : Nat) : Int) then (some ([(⟨#[108, 99]⟩ : ByteArray), (⟨#[97]⟩ : ByteArray), (⟨#[97, 98, 99, 100, 101, 102, 103, 104, 105, 106]⟩ : ByteArray), (⟨#[122]⟩ : ByteArray), (⟨#[116, 108, 99]⟩ : ByteArray)].getD r15.toNat ByteArray.empty)) else none))
set_option maxRecDepth 100000 in
theorem law27_prefix.calls (k : Nat) (n_0 : Int) (F : List (Option Nat)) (r : ByteArray) (w0 : World) (hM : Mem F w0 w0 []) (H : law27_prefix.f k n_0 = some r) :
    Calls Try.prog 15 #[(.int .i64 n_0)] w0 fun e w' => ∃ v, e = .returned v ∧ v = (.string r) ∧ Mem F w0 w' [] := by
  unfold law27_prefix.f at H
  refine enterL (n := 8) [(.int .i64 n_0)] Try.func15 rfl rfl rfl ?_
  intro a hA
  refine wp_seq ?_
  refine wp_region_lit ?_
  refine L1 (stv hA (by decide) (run_assign (hA.ev rfl)) ?_)
  clear hA; intro a hA
  refine LQ ?_
  refine TN ?_
  refine wp_seq ?_
  refine wp_region_lit ?_
  refine L1 (e_litN [(⟨#[108, 99]⟩ : ByteArray), (⟨#[97]⟩ : ByteArray), (⟨#[97, 98, 99, 100, 101, 102, 103, 104, 105, 106]⟩ : ByteArray), (⟨#[122]⟩ : ByteArray), (⟨#[116, 108, 99]⟩ : ByteArray)] [(.string (⟨#[108, 99]⟩ : ByteArray)), (.string (⟨#[97]⟩ : ByteArray)), (.string (⟨#[97, 98, 99, 100, 101, 102, 103, 104, 105, 106]⟩ : ByteArray)), (.string (⟨#[122]⟩ : ByteArray)), (.string (⟨#[116, 108, 99]⟩ : ByteArray))] elt37 hM rfl (by decide) hA rfl rfl (List.cons_ne_nil _ _) (by decide) ?_)
  clear hM hA; intro w13 g12 hM hE  a hA
  refine L1 (stv hA (by decide) (run_move (hA.ev rfl)) ?_)
  clear hA; intro a hA
  obtain ⟨r15, H16, H⟩ := Option.bind_eq_some_iff.1 H
  refine L1 (st_call Try.call16 hA [(.int .i64 n_0), (.int .i64 5)] rfl (by decide) (mill_Mod.calls _ _ _ _ _ _ (hM.front (Ms := [])) H16) ?_)
  clear hA; rintro _ w17 ⟨rfl, hMc⟩ a hA
  have hE := hMc.below; have hM := hM.call (Ms := []) hMc
  clear hMc; simp only [List.cons_append, List.nil_append] at hM
  obtain ⟨⟨hi18, hj19⟩, H⟩ := ite_some H
  obtain ⟨ad20, hq21, hat22⟩ := Row.elem' (p := Pl.str) (RowOk.row (hM.row (p := Pl.str) .z)) (RowOk.len (hM.row (p := Pl.str) .z)) ByteArray.empty r15 hi18 hj19
  refine L1 (stv hA (by decide) (run_idx Try.underlying37 Try.sizeOf9 (hA.ev rfl) hq21 (hA.ev rfl) hi18 hj19) ?_)
  clear hA; intro a hA
  refine L1 (stv hA (by decide) (run_ld (hA.ev rfl) (run_loadS Try.isAgg9 hat22)) ?_)
  clear hA; intro a hA
  refine L1 (stv hA (by decide) (run_assign (hA.ev rfl)) ?_)
  clear hA; intro a hA
  refine LQ ?_
  refine TN ?_
  refine wp_ret ?_
  obtain rfl := Option.some.inj H
  exact ret_post1 (fn := Try.f15) hA rfl rfl ⟨_, rfl, rfl, (hM.sel [] rfl (by decide))⟩

def address_Prefix.l0 (s_0 : ByteArray) : Nat → Int → Option (Out Bool (Unit))
  | 0, _ => none
  | k + 1, t183 => (if (decide (t183 < ((s_0.size : Nat) : Int))) = true then (Option.bind (α := Bool) (if 0 ≤ t183 ∧ t183 < ((s_0.size : Nat) : Int) then (if (decide ((sg s_0 t183) < 97)) = true then (some true) else (if 0 ≤ t183 ∧ t183 < ((s_0.size : Nat) : Int) then (some (decide ((sg s_0 t183) > 122))) else none)) else none) (fun t199 => (if t199 = true then (some (.ret false)) else (address_Prefix.l0 s_0 k (IntKind.i64.wrap (t183 + 1)))))) else (some (.go ())))
def address_Prefix.f (k : Nat) (s_0 : ByteArray) : Option Bool := (Option.bind (α := Out Bool (Unit)) (address_Prefix.l0 s_0 k 0) (fun o => match o with | .ret r => some r | .go _ => (Option.bind (α := Bool) (if (decide (((s_0.size : Nat) : Int) ≥ 1)) = true then (some (decide (((s_0.size : Nat) : Int) ≤ 10))) else (some false)) (fun t212 => (some t212)))))
set_option maxRecDepth 100000 in
theorem address_Prefix.calls (k : Nat) (s_0 : ByteArray) (F : List (Option Nat)) (r : Bool) (w0 : World) (hM : Mem F w0 w0 []) (H : address_Prefix.f k s_0 = some r) :
    Calls Try.prog 17 #[(.string s_0)] w0 fun e w' => ∃ v, e = .returned v ∧ v = (.bool r) ∧ Mem F w0 w' [] := by
  unfold address_Prefix.f at H
  refine enterL (n := 28) [(.string s_0)] Try.func17 rfl rfl rfl ?_
  intro a hA
  refine wp_seq ?_
  refine wp_region_lit ?_
  refine L1 (stv hA (by decide) (run_assign (hA.ev rfl)) ?_)
  clear hA; intro a hA
  refine LQ ?_
  refine TN ?_
  refine wp_seq ?_
  refine wp_seq ?_
  refine wp_region_lit ?_
  refine L1 (stv hA (by decide) (run_move (hA.ev rfl)) ?_)
  clear hA; intro a hA
  refine L1 (stv hA (by decide) (run_len_str Try.underlying9 (hA.ev rfl)) ?_)
  clear hA; intro a hA
  refine L1 (stv hA (by decide) (run_move (hA.ev rfl)) ?_)
  clear hA; intro a hA
  refine LQ ?_
  refine TN ?_
  obtain ⟨o186, H185, H⟩ := Option.bind_eq_some_iff.1 H
  refine cutC (fun a w => (.go ()) = o186 ∧ Mem F w0 w [] ∧ Has 28 [(0, (.string s_0))] a) ?_ ?_
  · refine wp_block ?_
    refine wp_loop_ghost (fun m a w => ∃ (t183 : Int), address_Prefix.l0 s_0 m t183 = some o186 ∧ Mem F w0 w [] ∧ Has 28 [(0, (.string s_0)), (5, (.int .i64 ((s_0.size : Nat) : Int))), (6, (.int .i64 t183))] a) k ⟨0, H185, hM, (((hA.nil.cons (hA.get 6 _ rfl)).cons (hA.get 5 _ rfl)).cons (hA.get 0 _ rfl))⟩ ?_
    clear hM hA; rintro m187 a w188 ⟨t183, H185, hM, hA⟩
    cases m187 with
    | zero => exact absurd H185 (by simp [address_Prefix.l0])
    | succ m187 =>
    rw [address_Prefix.l0] at H185
    refine wp_seq ?_
    refine wp_region_lit ?_
    refine L1 (stv hA (by decide) (run_bin (hA.ev rfl) (hA.ev rfl) (bin_lss _ _ _ _)) ?_)
    clear hA; intro a hA
    refine LQ ?_
    refine TN ?_
    refine wp_seq ?_
    refine tcond (b := (decide (t183 < ((s_0.size : Nat) : Int)))) hA rfl (fun hb189 => ?_) (fun hb189 => ?_)
    · replace H185 := ite_t hb189 H185
      refine wp_skip ?_
      refine TN ?_
      refine wp_seq ?_
      refine wp_block ?_
      refine wp_seq ?_
      refine wp_region_lit ?_
      refine L1 (stv hA (by decide) (run_move (hA.ev rfl)) ?_)
      clear hA; intro a hA
      refine L1 (stv hA (by decide) (run_assign (hA.ev rfl)) ?_)
      clear hA; intro a hA
      refine LQ ?_
      refine TN ?_
      refine wp_seq ?_
      obtain ⟨o201, H200, H185⟩ := Option.bind_eq_some_iff.1 H185
      refine cutC (fun a w => ∃ (t199 : Bool), t199 = o201 ∧ Mem F w0 w [] ∧ Has 28 [(0, (.string s_0)), (5, (.int .i64 ((s_0.size : Nat) : Int))), (6, (.int .i64 t183)), (18, (.bool t199))] a) ?_ ?_
      · refine wp_region_lit ?_
        refine L1 (stv hA (by decide) (run_move (hA.ev rfl)) ?_)
        clear hA; intro a hA
        refine L1 (stv hA (by decide) (run_move (hA.ev rfl)) ?_)
        clear hA; intro a hA
        obtain ⟨⟨hi202, hj203⟩, H200⟩ := ite_some H200
        refine L1 (stv hA (by decide) (run_index_str Try.underlying9 (hA.ev rfl) (hA.ev rfl) hi202 hj203) ?_)
        clear hA; intro a hA
        refine L1 (stv hA (by decide) (run_bin (hA.ev rfl) (hA.ev rfl) (bin_lss _ _ _ _)) ?_)
        clear hA; intro a hA
        refine L1 (stv hA (by decide) (run_move (hA.ev rfl)) ?_)
        clear hA; intro a hA
        refine bsplit (b := (decide ((sg s_0 t183) < 97))) (fun hb204 => ?_) (fun hb204 => ?_)
        · replace H200 := ite_t hb204 H200
          have hA := hA.re (t := 13) rfl (congrArg Value.bool hb204)
          refine L1 (gate_off rfl (by decide) rfl hA (by decide) rfl rfl ?_); clear hA; intro a hA
          refine L1 (gate_off rfl (by decide) rfl hA (by decide) rfl rfl ?_); clear hA; intro a hA
          refine L1 (gate_off rfl (by decide) rfl hA (by decide) rfl rfl ?_); clear hA; intro a hA
          refine L1 (gate_off rfl (by decide) rfl hA (by decide) rfl rfl ?_); clear hA; intro a hA
          refine L1 (stv hA (by decide) (run_pick (hA.ev rfl) (fun _ => hA.ev rfl) (fun h => Bool.noConfusion h)) ?_)
          clear hA; intro a hA
          refine LQ ?_
          exact ⟨true, Option.some.inj H200, hM, ((((hA.nil.cons (hA.get 18 _ rfl)).cons (hA.get 6 _ rfl)).cons (hA.get 5 _ rfl)).cons (hA.get 0 _ rfl))⟩
        · replace H200 := ite_f hb204 H200
          have hA := hA.re (t := 13) rfl (congrArg Value.bool hb204)
          refine L1 (gate_on rfl rfl hA (by decide) rfl (stv hA (by decide) (run_move (hA.ev rfl)) ?_))
          clear hA; intro a hA
          refine L1 (gate_on rfl rfl hA (by decide) rfl (stv hA (by decide) (run_move (hA.ev rfl)) ?_))
          clear hA; intro a hA
          obtain ⟨⟨hi205, hj206⟩, H200⟩ := ite_some H200
          refine L1 (gate_on rfl rfl hA (by decide) rfl (stv hA (by decide) (run_index_str Try.underlying9 (hA.ev rfl) (hA.ev rfl) hi205 hj206) ?_))
          clear hA; intro a hA
          refine L1 (gate_on rfl rfl hA (by decide) rfl (stv hA (by decide) (run_bin (hA.ev rfl) (hA.ev rfl) (bin_gtr _ _ _ _)) ?_))
          clear hA; intro a hA
          refine L1 (stv hA (by decide) (run_pick (hA.ev rfl) (fun h => Bool.noConfusion h) (fun _ => hA.ev rfl)) ?_)
          clear hA; intro a hA
          refine LQ ?_
          exact ⟨(decide ((sg s_0 t183) > 122)), Option.some.inj H200, hM, ((((hA.nil.cons (hA.get 18 _ rfl)).cons (hA.get 6 _ rfl)).cons (hA.get 5 _ rfl)).cons (hA.get 0 _ rfl))⟩
      clear hM hA
      rintro a w207 ⟨t199, rfl, hM, hA⟩
      try dsimp only at H185
      refine TN ?_
      refine tcond (b := t199) hA rfl (fun hb208 => ?_) (fun hb208 => ?_)
      · replace H185 := ite_t hb208 H185
        refine wp_seq ?_
        refine wp_region_lit ?_
        refine L1 (stv hA (by decide) (run_assign (hA.ev rfl)) ?_)
        clear hA; intro a hA
        refine LQ ?_
        refine TN ?_
        refine wp_ret ?_
        obtain rfl := Option.some.inj H185
        dsimp only at H
        obtain rfl := Option.some.inj H
        refine BR ?_
        refine TR ?_
        refine TR ?_
        refine BR ?_
        refine TR ?_
        refine TR ?_
        exact ret_post1 (fn := Try.f17) hA rfl rfl ⟨_, rfl, rfl, hM⟩
      · replace H185 := ite_f hb208 H185
        refine wp_skip ?_
        refine BN ?_
        refine TN ?_
        refine wp_region_lit ?_
        refine L1 (stv hA (by decide) (run_bin (hA.ev rfl) (hA.ev rfl) (bin_add _ _ _ _)) ?_)
        clear hA; intro a hA
        refine L1 (stv hA (by decide) (run_move (hA.ev rfl)) ?_)
        clear hA; intro a hA
        refine LQ ?_
        exact ⟨_, Nat.lt_succ_self m187, IntKind.i64.wrap (t183 + 1), H185, hM, (((hA.nil.cons (hA.get 6 _ rfl)).cons (hA.get 5 _ rfl)).cons (hA.get 0 _ rfl))⟩
    · replace H185 := ite_f hb189 H185
      refine wp_exit ?_
      refine TX ?_
      refine TX ?_
      refine BX ?_
      exact ⟨Option.some.inj H185, hM, (hA.nil.cons (hA.get 0 _ rfl))⟩
  clear hM hA
  rintro a w209 ⟨rfl, hM, hA⟩
  try dsimp only at H
  refine TN ?_
  refine wp_seq ?_
  obtain ⟨o214, H213, H⟩ := Option.bind_eq_some_iff.1 H
  refine cutC (fun a w => ∃ (t212 : Bool), t212 = o214 ∧ Mem F w0 w [] ∧ Has 28 [(2, (.bool t212))] a) ?_ ?_
  · refine wp_region_lit ?_
    refine L1 (stv hA (by decide) (run_move (hA.ev rfl)) ?_)
    clear hA; intro a hA
    refine L1 (stv hA (by decide) (run_len_str Try.underlying9 (hA.ev rfl)) ?_)
    clear hA; intro a hA
    refine L1 (stv hA (by decide) (run_bin (hA.ev rfl) (hA.ev rfl) (bin_geq _ _ _ _)) ?_)
    clear hA; intro a hA
    refine L1 (stv hA (by decide) (run_move (hA.ev rfl)) ?_)
    clear hA; intro a hA
    refine bsplit (b := (decide (((s_0.size : Nat) : Int) ≥ 1))) (fun hb215 => ?_) (fun hb215 => ?_)
    · replace H213 := ite_t hb215 H213
      have hA := hA.re (t := 23) rfl (congrArg Value.bool hb215)
      refine L1 (gate_on rfl rfl hA (by decide) rfl (stv hA (by decide) (run_move (hA.ev rfl)) ?_))
      clear hA; intro a hA
      refine L1 (gate_on rfl rfl hA (by decide) rfl (stv hA (by decide) (run_len_str Try.underlying9 (hA.ev rfl)) ?_))
      clear hA; intro a hA
      refine L1 (gate_on rfl rfl hA (by decide) rfl (stv hA (by decide) (run_bin (hA.ev rfl) (hA.ev rfl) (bin_leq _ _ _ _)) ?_))
      clear hA; intro a hA
      refine L1 (stv hA (by decide) (run_pick (hA.ev rfl) (fun _ => hA.ev rfl) (fun h => Bool.noConfusion h)) ?_)
      clear hA; intro a hA
      refine L1 (stv hA (by decide) (run_assign (hA.ev rfl)) ?_)
      clear hA; intro a hA
      refine LQ ?_
      exact ⟨(decide (((s_0.size : Nat) : Int) ≤ 10)), Option.some.inj H213, hM, (hA.nil.cons (hA.get 2 _ rfl))⟩
    · replace H213 := ite_f hb215 H213
      have hA := hA.re (t := 23) rfl (congrArg Value.bool hb215)
      refine L1 (gate_off rfl (by decide) rfl hA (by decide) rfl rfl ?_); clear hA; intro a hA
      refine L1 (gate_off rfl (by decide) rfl hA (by decide) rfl rfl ?_); clear hA; intro a hA
      refine L1 (gate_off rfl (by decide) rfl hA (by decide) rfl rfl ?_); clear hA; intro a hA
      refine L1 (stv hA (by decide) (run_pick (hA.ev rfl) (fun h => Bool.noConfusion h) (fun _ => hA.ev rfl)) ?_)
      clear hA; intro a hA
      refine L1 (stv hA (by decide) (run_assign (hA.ev rfl)) ?_)
      clear hA; intro a hA
      refine LQ ?_
      exact ⟨false, Option.some.inj H213, hM, (hA.nil.cons (hA.get 2 _ rfl))⟩
  clear hM hA
  rintro a w216 ⟨t212, rfl, hM, hA⟩
  try dsimp only at H
  refine TN ?_
  refine wp_ret ?_
  obtain rfl := Option.some.inj H
  exact ret_post1 (fn := Try.f17) hA rfl rfl ⟨_, rfl, rfl, hM⟩

def address_remainder.l1 (c852 : Int) : Nat → Int → Int → Option (Int)
  | 0, _, _ => none
  | k + 1, c943, t950 => (if (decide (t950 < 5)) = true then (if 0 ≤ t950 ∧ t950 < ((5 : Nat) : Int) then (if 0 ≤ t950 then (Option.bind (α := Int) (if ((iand .u32 (ishr .u32 (ishr .u32 c852 25) t950) 1) == 1) = true then (some (ixor .u32 c943 (vg (((((((Vector.replicate 5 0 : Vector Int 5).setIfInBounds 0 996825010).setIfInBounds 1 642813549).setIfInBounds 2 513874426).setIfInBounds 3 1027748829).setIfInBounds 4 705979059)) t950))) else (some c943)) (fun c966 => (address_remainder.l1 c852 k c966 (IntKind.i64.wrap (t950 + 1))))) else none) else none) else (some c943))
def address_remainder.l0 (d_0 : (List Int)) : Nat → Int → Int → Option (Int)
  | 0, _, _ => none
  | k + 1, c852, t856 => (if (decide (t856 < ((d_0.length : Nat) : Int))) = true then (if 0 ≤ t856 ∧ t856 < ((d_0.length : Nat) : Int) then (Option.bind (α := Int) (address_remainder.l1 c852 k (ixor .u32 (ishl .u32 (iand .u32 c852 33554431) 5) (IntKind.u32.wrap (d_0.getD t856.toNat (0 : Int)))) 0) (fun c952 => (address_remainder.l0 d_0 k c952 (IntKind.i64.wrap (t856 + 1))))) else none) else (some c852))
def address_remainder.f (k : Nat) (d_0 : (List Int)) : Option Int := (Option.bind (α := Int) (address_remainder.l0 d_0 k 1 0) (fun c858 => (some c858)))
set_option maxRecDepth 100000 in
theorem address_remainder.calls (k : Nat) (d_0 : (List Int)) (F : List (Option Nat)) (v0 : Value) (r : Int) (w0 : World) (h0 : RoV F (Pl.int .u8) w0 v0 d_0) (hM : Mem F w0 w0 []) (H : address_remainder.f k d_0 = some r) :
    Calls Try.prog 25 #[v0] w0 fun e w' => ∃ v, e = .returned v ∧ v = (.int .u32 r) ∧ Mem F w0 w' [] := by
  unfold address_remainder.f at H
  obtain ⟨A0, c0, rfl, hr0, hc0⟩ := h0
  refine enterL (n := 39) [(.slice A0 d_0.length c0)] Try.func25 rfl rfl rfl ?_
  intro a hA
  refine wp_seq ?_
  refine wp_region_lit ?_
  refine L1 (stv hA (by decide) (run_assign (hA.ev rfl)) ?_)
  clear hA; intro a hA
  refine LQ ?_
  refine TN ?_
  refine wp_seq ?_
  refine wp_region_lit ?_
  refine L1 (stv hA (by decide) (run_assign (hA.ev rfl)) ?_)
  clear hA; intro a hA
  refine LQ ?_
  refine TN ?_
  refine wp_seq ?_
  refine wp_seq ?_
  refine wp_region_lit ?_
  refine L1 (stv hA (by decide) (run_move (hA.ev rfl)) ?_)
  clear hA; intro a hA
  refine L1 (stv hA (by decide) (run_len_slice Try.underlying22 (hA.ev rfl)) ?_)
  clear hA; intro a hA
  refine L1 (stv hA (by decide) (run_move (hA.ev rfl)) ?_)
  clear hA; intro a hA
  refine LQ ?_
  refine TN ?_
  obtain ⟨o860, H859, H⟩ := Option.bind_eq_some_iff.1 H
  refine cutC (fun a w => ∃ (c858 : Int), c858 = o860 ∧ Mem F w0 w [] ∧ Has 39 [(3, (.int .u32 c858))] a) ?_ ?_
  · refine wp_block ?_
    refine wp_loop_ghost (fun m a w => ∃ (c852 : Int) (t856 : Int), address_remainder.l0 d_0 m c852 t856 = some o860 ∧ Mem F w0 w [] ∧ Has 39 [(3, (.int .u32 c852)), (9, (.slice A0 d_0.length c0)), (10, (.int .i64 ((d_0.length : Nat) : Int))), (11, (.int .i64 t856))] a) k ⟨1, 0, H859, hM, ((((hA.nil.cons (hA.get 11 _ rfl)).cons (hA.get 10 _ rfl)).cons (hA.get 9 _ rfl)).cons (hA.get 3 _ rfl))⟩ ?_
    clear hM hA; rintro m861 a w862 ⟨c852, t856, H859, hM, hA⟩
    cases m861 with
    | zero => exact absurd H859 (by simp [address_remainder.l0])
    | succ m861 =>
    rw [address_remainder.l0] at H859
    refine wp_seq ?_
    refine wp_region_lit ?_
    refine L1 (stv hA (by decide) (run_bin (hA.ev rfl) (hA.ev rfl) (bin_lss _ _ _ _)) ?_)
    clear hA; intro a hA
    refine LQ ?_
    refine TN ?_
    refine wp_seq ?_
    refine tcond (b := (decide (t856 < ((d_0.length : Nat) : Int)))) hA rfl (fun hb863 => ?_) (fun hb863 => ?_)
    · replace H859 := ite_t hb863 H859
      refine wp_skip ?_
      refine TN ?_
      refine wp_seq ?_
      refine wp_block ?_
      refine wp_seq ?_
      refine wp_region_lit ?_
      obtain ⟨⟨hi864, hj865⟩, H859⟩ := ite_some H859
      obtain ⟨ad866, hq867, hat868⟩ := Row.elem' (p := (Pl.int .u8)) (hM.ro hr0) (Eq.refl d_0.length) (0 : Int) t856 hi864 hj865
      refine L1 (stv hA (by decide) (run_idx Try.underlying22 Try.sizeOf5 (hA.ev rfl) hq867 (hA.ev rfl) hi864 hj865) ?_)
      clear hA; intro a hA
      refine L1 (stv hA (by decide) (run_ld (hA.ev rfl) (run_loadS Try.isAgg5 hat868)) ?_)
      clear hA; intro a hA
      refine L1 (stv hA (by decide) (run_assign (hA.ev rfl)) ?_)
      clear hA; intro a hA
      refine LQ ?_
      refine TN ?_
      refine wp_seq ?_
      refine wp_region_lit ?_
      refine L1 (stv hA (by decide) (run_move (hA.ev rfl)) ?_)
      clear hA; intro a hA
      refine L1 (stv hA (by decide) (run_shr (hA.ev rfl) (hA.ev rfl) (by decide)) ?_)
      clear hA; intro a hA
      refine L1 (stv hA (by decide) (run_assign (hA.ev rfl)) ?_)
      clear hA; intro a hA
      refine LQ ?_
      refine TN ?_
      refine wp_seq ?_
      refine wp_region_lit ?_
      refine L1 (stv hA (by decide) (run_move (hA.ev rfl)) ?_)
      clear hA; intro a hA
      refine L1 (stv hA (by decide) (run_bin (hA.ev rfl) (hA.ev rfl) (bin_and _ _ _ _)) ?_)
      clear hA; intro a hA
      refine L1 (stv hA (by decide) (run_shl (hA.ev rfl) (hA.ev rfl) (by decide)) ?_)
      clear hA; intro a hA
      refine L1 (stv hA (by decide) (run_move (hA.ev rfl)) ?_)
      clear hA; intro a hA
      refine L1 (stv hA (by decide) (run_conv Try.underlying5 Try.underlying46 (hA.ev rfl)) ?_)
      clear hA; intro a hA
      refine L1 (stv hA (by decide) (run_bin (hA.ev rfl) (hA.ev rfl) (bin_xor _ _ _ _)) ?_)
      clear hA; intro a hA
      refine L1 (stv hA (by decide) (run_assign (hA.ev rfl)) ?_)
      clear hA; intro a hA
      refine LQ ?_
      refine TN ?_
      refine wp_seq ?_
      refine wp_region_lit ?_
      refine L1 (stv hA (by decide) (run_build_arr [(0, (.int .u32 996825010)), (1, (.int .u32 642813549)), (2, (.int .u32 513874426)), (3, (.int .u32 1027748829)), (4, (.int .u32 705979059))] zero53 Try.underlying53 Try.sizeOf46 hA rfl (fill_step rfl rfl (enc_fit _ _ rfl) (arr_eq (vec_spl' _ _ _ (by decide))) (fill_step rfl rfl (enc_fit _ _ rfl) (arr_eq (vec_spl' _ _ _ (by decide))) (fill_step rfl rfl (enc_fit _ _ rfl) (arr_eq (vec_spl' _ _ _ (by decide))) (fill_step rfl rfl (enc_fit _ _ rfl) (arr_eq (vec_spl' _ _ _ (by decide))) (fill_step rfl rfl (enc_fit _ _ rfl) (arr_eq (vec_spl' _ _ _ (by decide))) (fill_nil))))))) ?_)
      clear hA; intro a hA
      refine L1 (stv hA (by decide) (run_move (hA.ev rfl)) ?_)
      clear hA; intro a hA
      refine LQ ?_
      refine TN ?_
      obtain ⟨o957, H956, H859⟩ := Option.bind_eq_some_iff.1 H859
      refine cutC (fun a w => ∃ (c952 : Int), c952 = o957 ∧ Mem F w0 w [] ∧ Has 39 [(3, (.int .u32 c952)), (9, (.slice A0 d_0.length c0)), (10, (.int .i64 ((d_0.length : Nat) : Int))), (11, (.int .i64 t856))] a) ?_ ?_
      · refine wp_block ?_
        refine wp_loop_ghost (fun m a w => ∃ (c943 : Int) (t950 : Int), address_remainder.l1 c852 m c943 t950 = some o957 ∧ Mem F w0 w [] ∧ Has 39 [(3, (.int .u32 c943)), (6, (.int .u32 (ishr .u32 c852 25))), (9, (.slice A0 d_0.length c0)), (10, (.int .i64 ((d_0.length : Nat) : Int))), (11, (.int .i64 t856)), (23, (.agg (pA5u32.enc (((((((Vector.replicate 5 0 : Vector Int 5).setIfInBounds 0 996825010).setIfInBounds 1 642813549).setIfInBounds 2 513874426).setIfInBounds 3 1027748829).setIfInBounds 4 705979059))).toArray)), (24, (.int .i64 t950))] a) m861 ⟨ixor .u32 (ishl .u32 (iand .u32 c852 33554431) 5) (IntKind.u32.wrap (d_0.getD t856.toNat (0 : Int))), 0, H956, hM, (((((((hA.nil.cons (hA.get 24 _ rfl)).cons (hA.get 23 _ rfl)).cons (hA.get 11 _ rfl)).cons (hA.get 10 _ rfl)).cons (hA.get 9 _ rfl)).cons (hA.get 6 _ rfl)).cons (hA.get 3 _ rfl))⟩ ?_
        clear hM hA; rintro m958 a w959 ⟨c943, t950, H956, hM, hA⟩
        cases m958 with
        | zero => exact absurd H956 (by simp [address_remainder.l1])
        | succ m958 =>
        rw [address_remainder.l1] at H956
        refine wp_seq ?_
        refine wp_region_lit ?_
        refine L1 (stv hA (by decide) (run_bin (hA.ev rfl) (hA.ev rfl) (bin_lss _ _ _ _)) ?_)
        clear hA; intro a hA
        refine LQ ?_
        refine TN ?_
        refine wp_seq ?_
        refine tcond (b := (decide (t950 < 5))) hA rfl (fun hb960 => ?_) (fun hb960 => ?_)
        · replace H956 := ite_t hb960 H956
          refine wp_skip ?_
          refine TN ?_
          refine wp_seq ?_
          refine wp_block ?_
          refine wp_seq ?_
          refine wp_region_lit ?_
          refine L1 (stv hA (by decide) (run_move (hA.ev rfl)) ?_)
          clear hA; intro a hA
          obtain ⟨⟨hi961, hj962⟩, H956⟩ := ite_some H956
          refine L1 (stv hA (by decide) (run_index_vec Try.underlying53 Try.isAgg46 Try.sizeOf46 (hA.ev rfl) (hA.ev rfl) hi961 hj962) ?_)
          clear hA; intro a hA
          refine L1 (stv hA (by decide) (run_assign (hA.ev rfl)) ?_)
          clear hA; intro a hA
          refine L1 (stv hA (by decide) (run_assign (hA.ev rfl)) ?_)
          clear hA; intro a hA
          refine LQ ?_
          refine TN ?_
          refine wp_seq ?_
          refine wp_region_lit ?_
          refine L1 (stv hA (by decide) (run_move (hA.ev rfl)) ?_)
          clear hA; intro a hA
          refine L1 (stv hA (by decide) (run_move (hA.ev rfl)) ?_)
          clear hA; intro a hA
          obtain ⟨hs963, H956⟩ := ite_some H956
          refine L1 (stv hA (by decide) (run_shr (hA.ev rfl) (hA.ev rfl) hs963) ?_)
          clear hA; intro a hA
          refine L1 (stv hA (by decide) (run_bin (hA.ev rfl) (hA.ev rfl) (bin_and _ _ _ _)) ?_)
          clear hA; intro a hA
          refine L1 (stv hA (by decide) (run_bin (hA.ev rfl) (hA.ev rfl) (bin_eql _ _ _ _)) ?_)
          clear hA; intro a hA
          refine LQ ?_
          refine TN ?_
          obtain ⟨o974, H973, H956⟩ := Option.bind_eq_some_iff.1 H956
          refine cutC (fun a w => ∃ (c966 : Int), c966 = o974 ∧ Mem F w0 w [] ∧ Has 39 [(3, (.int .u32 c966)), (6, (.int .u32 (ishr .u32 c852 25))), (9, (.slice A0 d_0.length c0)), (10, (.int .i64 ((d_0.length : Nat) : Int))), (11, (.int .i64 t856)), (23, (.agg (pA5u32.enc (((((((Vector.replicate 5 0 : Vector Int 5).setIfInBounds 0 996825010).setIfInBounds 1 642813549).setIfInBounds 2 513874426).setIfInBounds 3 1027748829).setIfInBounds 4 705979059))).toArray)), (24, (.int .i64 t950))] a) ?_ ?_
          · refine tcond (b := ((iand .u32 (ishr .u32 (ishr .u32 c852 25) t950) 1) == 1)) hA rfl (fun hb975 => ?_) (fun hb975 => ?_)
            · replace H973 := ite_t hb975 H973
              refine wp_region_lit ?_
              refine L1 (stv hA (by decide) (run_move (hA.ev rfl)) ?_)
              clear hA; intro a hA
              refine L1 (stv hA (by decide) (run_move (hA.ev rfl)) ?_)
              clear hA; intro a hA
              refine L1 (stv hA (by decide) (run_bin (hA.ev rfl) (hA.ev rfl) (bin_xor _ _ _ _)) ?_)
              clear hA; intro a hA
              refine L1 (stv hA (by decide) (run_assign (hA.ev rfl)) ?_)
              clear hA; intro a hA
              refine LQ ?_
              exact ⟨ixor .u32 c943 (vg (((((((Vector.replicate 5 0 : Vector Int 5).setIfInBounds 0 996825010).setIfInBounds 1 642813549).setIfInBounds 2 513874426).setIfInBounds 3 1027748829).setIfInBounds 4 705979059)) t950), Option.some.inj H973, hM, (((((((hA.nil.cons (hA.get 24 _ rfl)).cons (hA.get 23 _ rfl)).cons (hA.get 11 _ rfl)).cons (hA.get 10 _ rfl)).cons (hA.get 9 _ rfl)).cons (hA.get 6 _ rfl)).cons (hA.get 3 _ rfl))⟩
            · replace H973 := ite_f hb975 H973
              refine wp_skip ?_
              exact ⟨c943, Option.some.inj H973, hM, (((((((hA.nil.cons (hA.get 24 _ rfl)).cons (hA.get 23 _ rfl)).cons (hA.get 11 _ rfl)).cons (hA.get 10 _ rfl)).cons (hA.get 9 _ rfl)).cons (hA.get 6 _ rfl)).cons (hA.get 3 _ rfl))⟩
          clear hM hA
          rintro a w976 ⟨c966, rfl, hM, hA⟩
          try dsimp only at H956
          refine BN ?_
          refine TN ?_
          refine wp_region_lit ?_
          refine L1 (stv hA (by decide) (run_bin (hA.ev rfl) (hA.ev rfl) (bin_add _ _ _ _)) ?_)
          clear hA; intro a hA
          refine L1 (stv hA (by decide) (run_move (hA.ev rfl)) ?_)
          clear hA; intro a hA
          refine LQ ?_
          exact ⟨_, Nat.lt_succ_self m958, c966, IntKind.i64.wrap (t950 + 1), H956, hM, (((((((hA.nil.cons (hA.get 24 _ rfl)).cons (hA.get 23 _ rfl)).cons (hA.get 11 _ rfl)).cons (hA.get 10 _ rfl)).cons (hA.get 9 _ rfl)).cons (hA.get 6 _ rfl)).cons (hA.get 3 _ rfl))⟩
        · replace H956 := ite_f hb960 H956
          refine wp_exit ?_
          refine TX ?_
          refine TX ?_
          refine BX ?_
          exact ⟨c943, Option.some.inj H956, hM, ((((hA.nil.cons (hA.get 11 _ rfl)).cons (hA.get 10 _ rfl)).cons (hA.get 9 _ rfl)).cons (hA.get 3 _ rfl))⟩
      clear hM hA
      rintro a w977 ⟨c952, rfl, hM, hA⟩
      try dsimp only at H859
      refine BN ?_
      refine TN ?_
      refine wp_region_lit ?_
      refine L1 (stv hA (by decide) (run_bin (hA.ev rfl) (hA.ev rfl) (bin_add _ _ _ _)) ?_)
      clear hA; intro a hA
      refine L1 (stv hA (by decide) (run_move (hA.ev rfl)) ?_)
      clear hA; intro a hA
      refine LQ ?_
      exact ⟨_, Nat.lt_succ_self m861, c952, IntKind.i64.wrap (t856 + 1), H859, hM, ((((hA.nil.cons (hA.get 11 _ rfl)).cons (hA.get 10 _ rfl)).cons (hA.get 9 _ rfl)).cons (hA.get 3 _ rfl))⟩
    · replace H859 := ite_f hb863 H859
      refine wp_exit ?_
      refine TX ?_
      refine TX ?_
      refine BX ?_
      exact ⟨c852, Option.some.inj H859, hM, (hA.nil.cons (hA.get 3 _ rfl))⟩
  clear hM hA
  rintro a w978 ⟨c858, rfl, hM, hA⟩
  try dsimp only at H
  refine TN ?_
  refine wp_seq ?_
  refine wp_region_lit ?_
  refine L1 (stv hA (by decide) (run_move (hA.ev rfl)) ?_)
  clear hA; intro a hA
  refine L1 (stv hA (by decide) (run_assign (hA.ev rfl)) ?_)
  clear hA; intro a hA
  refine LQ ?_
  refine TN ?_
  refine wp_ret ?_
  obtain rfl := Option.some.inj H
  exact ret_post1 (fn := Try.f25) hA rfl rfl ⟨_, rfl, rfl, hM⟩

def address_Checksum.l0 (prefix_0 : ByteArray) : Nat → (List Int) → Int → Option ((List Int))
  | 0, _, _ => none
  | k + 1, xs436, t439 => (if (decide (t439 < ((prefix_0.size : Nat) : Int))) = true then (if 0 ≤ t439 ∧ t439 < ((prefix_0.size : Nat) : Int) then (if (xs436.length + 1) * 1 ≤ 140737488355328 then (address_Checksum.l0 prefix_0 k (xs436 ++ [ishr .u8 (sg prefix_0 t439) 5]) (IntKind.i64.wrap (t439 + 1))) else none) else none) else (some xs436))
def address_Checksum.l1 (prefix_0 : ByteArray) : Nat → (List Int) → Int → Option ((List Int))
  | 0, _, _ => none
  | k + 1, xs537, t540 => (if (decide (t540 < ((prefix_0.size : Nat) : Int))) = true then (if 0 ≤ t540 ∧ t540 < ((prefix_0.size : Nat) : Int) then (if (xs537.length + 1) * 1 ≤ 140737488355328 then (address_Checksum.l1 prefix_0 k (xs537 ++ [iand .u8 (sg prefix_0 t540) 31]) (IntKind.i64.wrap (t540 + 1))) else none) else none) else (some xs537))
def address_Checksum.l2 (d_1 : (List Int)) : Nat → (List Int) → Int → Option ((List Int))
  | 0, _, _ => none
  | k + 1, xs632, t636 => (if (decide (t636 < ((d_1.length : Nat) : Int))) = true then (if 0 ≤ t636 ∧ t636 < ((d_1.length : Nat) : Int) then (if (xs632.length + 1) * 1 ≤ 140737488355328 then (address_Checksum.l2 d_1 k (xs632 ++ [iand .u8 (d_1.getD t636.toNat (0 : Int)) 31]) (IntKind.i64.wrap (t636 + 1))) else none) else none) else (some xs632))
def address_Checksum.l3 (r668 : Int) : Nat → (Vector Int 6) → Int → Option ((Vector Int 6))
  | 0, _, _ => none
  | k + 1, x707, t710 => (if (decide (t710 < 6)) = true then (if 0 ≤ (IntKind.i64.wrap (25 - (IntKind.i64.wrap (5 * t710)))) then (if 0 ≤ t710 ∧ t710 < ((6 : Nat) : Int) then (Option.bind (some (vs x707 t710 (IntKind.u8.wrap (iand .u32 (ishr .u32 (ixor .u32 r668 1) (IntKind.i64.wrap (25 - (IntKind.i64.wrap (5 * t710))))) 31)))) fun x723 => (address_Checksum.l3 r668 k x723 (IntKind.i64.wrap (t710 + 1)))) else none) else none) else (some x707))
def address_Checksum.f (k : Nat) (prefix_0 : ByteArray) (d_1 : (List Int)) : Option (Vector Int 6) := (Option.bind (α := (List Int)) (address_Checksum.l0 prefix_0 k ([] : List Int) 0) (fun xs448 => (if (xs448.length + 1) * 1 ≤ 140737488355328 then (Option.bind (α := (List Int)) (address_Checksum.l1 prefix_0 k (xs448 ++ [(0 : Int)]) 0) (fun xs547 => (Option.bind (α := (List Int)) (address_Checksum.l2 d_1 k xs547 0) (fun xs642 => (if (xs642.length + 6) * 1 ≤ 140737488355328 then ((address_remainder.f k (xs642 ++ (Vector.replicate 6 0 : Vector Int 6).toList)).bind fun r668 => (Option.bind (α := (Vector Int 6)) (address_Checksum.l3 r668 k (Vector.replicate 6 0 : Vector Int 6) 0) (fun x713 => (some x713)))) else none))))) else none)))
set_option maxRecDepth 100000 in
theorem address_Checksum.calls (k : Nat) (prefix_0 : ByteArray) (d_1 : (List Int)) (F : List (Option Nat)) (v1 : Value) (r : (Vector Int 6)) (w0 : World) (h1 : RoV F (Pl.int .u8) w0 v1 d_1) (hM : Mem F w0 w0 []) (H : address_Checksum.f k prefix_0 d_1 = some r) :
    Calls Try.prog 19 #[(.string prefix_0), v1] w0 fun e w' => ∃ v, e = .returned v ∧ v = (.agg (pA6u8.enc r).toArray) ∧ Mem F w0 w' [] := by
  unfold address_Checksum.f at H
  obtain ⟨A1, c1, rfl, hr1, hc1⟩ := h1
  refine enterL (n := 73) [(.string prefix_0), (.slice A1 d_1.length c1)] Try.func19 rfl rfl rfl ?_
  intro a hA
  refine wp_seq ?_
  refine wp_region_lit ?_
  refine L1 (e_alloc (cs := (pA6u8.enc (Vector.replicate 6 0 : Vector Int 6))) hM zero34 rfl hA (by decide) ?_)
  clear hM hA; intro w365 g364 hM hE  a hA
  refine LQ ?_
  refine TN ?_
  refine wp_seq ?_
  refine wp_region_lit ?_
  refine L1 (stv hA (by decide) (run_assign (hA.ev rfl)) ?_)
  clear hA; intro a hA
  refine LQ ?_
  refine TN ?_
  refine wp_seq ?_
  refine wp_seq ?_
  refine wp_region_lit ?_
  refine L1 (stv hA (by decide) (run_move (hA.ev rfl)) ?_)
  clear hA; intro a hA
  refine L1 (stv hA (by decide) (run_len_str Try.underlying9 (hA.ev rfl)) ?_)
  clear hA; intro a hA
  refine L1 (stv hA (by decide) (run_move (hA.ev rfl)) ?_)
  clear hA; intro a hA
  refine LQ ?_
  refine TN ?_
  obtain ⟨o450, H449, H⟩ := Option.bind_eq_some_iff.1 H
  refine cutC (fun a w => ∃ (xs448 : (List Int)) (v445 : Value), xs448 = o450 ∧ Mem F w0 w [.box g364 34 (pA6u8.enc (Vector.replicate 6 0 : Vector Int 6)), .row 5 (Pl.int .u8).sz v445 ((Pl.int .u8).flat xs448)] ∧ Has 73 [(0, (.string prefix_0)), (1, (.slice A1 d_1.length c1)), (4, (.pointer (some (⟨g364, 0, none⟩)))), (5, v445)] a) ?_ ?_
  · refine wp_block ?_
    have hM := hM.addnil 5 ((Pl.int .u8)).sz
    refine wp_loop_ghost (fun m a w => ∃ (xs436 : (List Int)) (t439 : Int) (v433 : Value), address_Checksum.l0 prefix_0 m xs436 t439 = some o450 ∧ Mem F w0 w [.box g364 34 (pA6u8.enc (Vector.replicate 6 0 : Vector Int 6)), .row 5 (Pl.int .u8).sz v433 ((Pl.int .u8).flat xs436)] ∧ Has 73 [(0, (.string prefix_0)), (1, (.slice A1 d_1.length c1)), (4, (.pointer (some (⟨g364, 0, none⟩)))), (5, v433), (14, (.int .i64 ((prefix_0.size : Nat) : Int))), (15, (.int .i64 t439))] a) k ⟨([] : List Int), 0, (.slice none 0 0), H449, (hM.sel [1, 0] rfl (by decide)), ((((((hA.nil.cons (hA.get 15 _ rfl)).cons (hA.get 14 _ rfl)).cons (hA.get 5 _ rfl)).cons (hA.get 4 _ rfl)).cons (hA.get 1 _ rfl)).cons (hA.get 0 _ rfl))⟩ ?_
    clear hM hA; rintro m452 a w453 ⟨xs436, t439, v433, H449, hM, hA⟩
    cases m452 with
    | zero => exact absurd H449 (by simp [address_Checksum.l0])
    | succ m452 =>
    rw [address_Checksum.l0] at H449
    obtain ⟨A434, c435, rfl⟩ := RowOk.form (hM.row (p := (Pl.int .u8)) (.s .z))
    refine wp_seq ?_
    refine wp_region_lit ?_
    refine L1 (stv hA (by decide) (run_bin (hA.ev rfl) (hA.ev rfl) (bin_lss _ _ _ _)) ?_)
    clear hA; intro a hA
    refine LQ ?_
    refine TN ?_
    refine wp_seq ?_
    refine tcond (b := (decide (t439 < ((prefix_0.size : Nat) : Int)))) hA rfl (fun hb454 => ?_) (fun hb454 => ?_)
    · replace H449 := ite_t hb454 H449
      refine wp_skip ?_
      refine TN ?_
      refine wp_seq ?_
      refine wp_block ?_
      refine wp_seq ?_
      refine wp_region_lit ?_
      refine L1 (stv hA (by decide) (run_move (hA.ev rfl)) ?_)
      clear hA; intro a hA
      refine L1 (stv hA (by decide) (run_assign (hA.ev rfl)) ?_)
      clear hA; intro a hA
      refine LQ ?_
      refine TN ?_
      refine wp_region_lit ?_
      refine L1 (stv hA (by decide) (run_move (hA.ev rfl)) ?_)
      clear hA; intro a hA
      refine L1 (stv hA (by decide) (run_move (hA.ev rfl)) ?_)
      clear hA; intro a hA
      refine L1 (stv hA (by decide) (run_move (hA.ev rfl)) ?_)
      clear hA; intro a hA
      obtain ⟨⟨hi455, hj456⟩, H449⟩ := ite_some H449
      refine L1 (stv hA (by decide) (run_index_str Try.underlying9 (hA.ev rfl) (hA.ev rfl) hi455 hj456) ?_)
      clear hA; intro a hA
      refine L1 (stv hA (by decide) (run_shr (hA.ev rfl) (hA.ev rfl) (by decide)) ?_)
      clear hA; intro a hA
      refine L1 (e_litN [ishr .u8 (sg prefix_0 t439) 5] [(.int .u8 (ishr .u8 (sg prefix_0 t439) 5))] elt22 hM rfl (by decide) hA rfl rfl (List.cons_ne_nil _ _) (by decide) ?_)
      clear hM hA; intro w458 g457 hM hE  a hA
      obtain ⟨hl462, H449⟩ := ite_some H449
      refine L1 (e_append elt22 hM (fun _ => (.s (.s .z))) (Src.row Try.underlying22 (RowOk.row (hM.row (p := (Pl.int .u8)) .z)) (RowOk.len (hM.row (p := (Pl.int .u8)) .z))) hl462 hA rfl rfl (by decide) ?_)
      clear hM hA; intro w463 A460 c461 hM hE  a hA
      refine L1 (stv hA (by decide) (run_assign (hA.ev rfl)) ?_)
      clear hA; intro a hA
      refine LQ ?_
      refine BN ?_
      refine TN ?_
      refine wp_region_lit ?_
      refine L1 (stv hA (by decide) (run_bin (hA.ev rfl) (hA.ev rfl) (bin_add _ _ _ _)) ?_)
      clear hA; intro a hA
      refine L1 (stv hA (by decide) (run_move (hA.ev rfl)) ?_)
      clear hA; intro a hA
      refine LQ ?_
      exact ⟨_, Nat.lt_succ_self m452, (xs436 ++ [ishr .u8 (sg prefix_0 t439) 5]), IntKind.i64.wrap (t439 + 1), (.slice A460 (xs436.length + 1) c461), H449, (hM.sel [1, 2] rfl (by decide)), ((((((hA.nil.cons (hA.get 15 _ rfl)).cons (hA.get 14 _ rfl)).cons (hA.get 5 _ rfl)).cons (hA.get 4 _ rfl)).cons (hA.get 1 _ rfl)).cons (hA.get 0 _ rfl))⟩
    · replace H449 := ite_f hb454 H449
      refine wp_exit ?_
      refine TX ?_
      refine TX ?_
      refine BX ?_
      exact ⟨xs436, (.slice A434 xs436.length c435), Option.some.inj H449, hM, ((((hA.nil.cons (hA.get 5 _ rfl)).cons (hA.get 4 _ rfl)).cons (hA.get 1 _ rfl)).cons (hA.get 0 _ rfl))⟩
  clear hM hA
  rintro a w464 ⟨xs448, v445, rfl, hM, hA⟩
  try dsimp only at H
  obtain ⟨A446, c447, rfl⟩ := RowOk.form (hM.row (p := (Pl.int .u8)) (.s .z))
  refine TN ?_
  refine wp_seq ?_
  refine wp_region_lit ?_
  refine L1 (stv hA (by decide) (run_move (hA.ev rfl)) ?_)
  clear hA; intro a hA
  refine L1 (e_litN [(0 : Int)] [(.int .u8 0)] elt22 hM rfl (by decide) hA rfl rfl (List.cons_ne_nil _ _) (by decide) ?_)
  clear hM hA; intro w466 g465 hM hE  a hA
  obtain ⟨hl470, H⟩ := ite_some H
  refine L1 (e_append elt22 hM (fun _ => (.s (.s .z))) (Src.row Try.underlying22 (RowOk.row (hM.row (p := (Pl.int .u8)) .z)) (RowOk.len (hM.row (p := (Pl.int .u8)) .z))) hl470 hA rfl rfl (by decide) ?_)
  clear hM hA; intro w471 A468 c469 hM hE  a hA
  refine L1 (stv hA (by decide) (run_assign (hA.ev rfl)) ?_)
  clear hA; intro a hA
  refine LQ ?_
  refine TN ?_
  refine wp_seq ?_
  refine wp_seq ?_
  refine wp_region_lit ?_
  refine L1 (stv hA (by decide) (run_move (hA.ev rfl)) ?_)
  clear hA; intro a hA
  refine L1 (stv hA (by decide) (run_len_str Try.underlying9 (hA.ev rfl)) ?_)
  clear hA; intro a hA
  refine L1 (stv hA (by decide) (run_move (hA.ev rfl)) ?_)
  clear hA; intro a hA
  refine LQ ?_
  refine TN ?_
  obtain ⟨o549, H548, H⟩ := Option.bind_eq_some_iff.1 H
  refine cutC (fun a w => ∃ (xs547 : (List Int)) (v544 : Value), xs547 = o549 ∧ Mem F w0 w [.box g364 34 (pA6u8.enc (Vector.replicate 6 0 : Vector Int 6)), .row 5 (Pl.int .u8).sz v544 ((Pl.int .u8).flat xs547)] ∧ Has 73 [(1, (.slice A1 d_1.length c1)), (4, (.pointer (some (⟨g364, 0, none⟩)))), (5, v544)] a) ?_ ?_
  · refine wp_block ?_
    refine wp_loop_ghost (fun m a w => ∃ (xs537 : (List Int)) (t540 : Int) (v534 : Value), address_Checksum.l1 prefix_0 m xs537 t540 = some o549 ∧ Mem F w0 w [.box g364 34 (pA6u8.enc (Vector.replicate 6 0 : Vector Int 6)), .row 5 (Pl.int .u8).sz v534 ((Pl.int .u8).flat xs537)] ∧ Has 73 [(0, (.string prefix_0)), (1, (.slice A1 d_1.length c1)), (4, (.pointer (some (⟨g364, 0, none⟩)))), (5, v534), (30, (.int .i64 ((prefix_0.size : Nat) : Int))), (31, (.int .i64 t540))] a) k ⟨(xs448 ++ [(0 : Int)]), 0, (.slice A468 (xs448.length + 1) c469), H548, (hM.sel [1, 2] rfl (by decide)), ((((((hA.nil.cons (hA.get 31 _ rfl)).cons (hA.get 30 _ rfl)).cons (hA.get 5 _ rfl)).cons (hA.get 4 _ rfl)).cons (hA.get 1 _ rfl)).cons (hA.get 0 _ rfl))⟩ ?_
    clear hM hA; rintro m550 a w551 ⟨xs537, t540, v534, H548, hM, hA⟩
    cases m550 with
    | zero => exact absurd H548 (by simp [address_Checksum.l1])
    | succ m550 =>
    rw [address_Checksum.l1] at H548
    obtain ⟨A535, c536, rfl⟩ := RowOk.form (hM.row (p := (Pl.int .u8)) (.s .z))
    refine wp_seq ?_
    refine wp_region_lit ?_
    refine L1 (stv hA (by decide) (run_bin (hA.ev rfl) (hA.ev rfl) (bin_lss _ _ _ _)) ?_)
    clear hA; intro a hA
    refine LQ ?_
    refine TN ?_
    refine wp_seq ?_
    refine tcond (b := (decide (t540 < ((prefix_0.size : Nat) : Int)))) hA rfl (fun hb552 => ?_) (fun hb552 => ?_)
    · replace H548 := ite_t hb552 H548
      refine wp_skip ?_
      refine TN ?_
      refine wp_seq ?_
      refine wp_block ?_
      refine wp_seq ?_
      refine wp_region_lit ?_
      refine L1 (stv hA (by decide) (run_move (hA.ev rfl)) ?_)
      clear hA; intro a hA
      refine L1 (stv hA (by decide) (run_assign (hA.ev rfl)) ?_)
      clear hA; intro a hA
      refine LQ ?_
      refine TN ?_
      refine wp_region_lit ?_
      refine L1 (stv hA (by decide) (run_move (hA.ev rfl)) ?_)
      clear hA; intro a hA
      refine L1 (stv hA (by decide) (run_move (hA.ev rfl)) ?_)
      clear hA; intro a hA
      refine L1 (stv hA (by decide) (run_move (hA.ev rfl)) ?_)
      clear hA; intro a hA
      obtain ⟨⟨hi553, hj554⟩, H548⟩ := ite_some H548
      refine L1 (stv hA (by decide) (run_index_str Try.underlying9 (hA.ev rfl) (hA.ev rfl) hi553 hj554) ?_)
      clear hA; intro a hA
      refine L1 (stv hA (by decide) (run_bin (hA.ev rfl) (hA.ev rfl) (bin_and _ _ _ _)) ?_)
      clear hA; intro a hA
      refine L1 (e_litN [iand .u8 (sg prefix_0 t540) 31] [(.int .u8 (iand .u8 (sg prefix_0 t540) 31))] elt22 hM rfl (by decide) hA rfl rfl (List.cons_ne_nil _ _) (by decide) ?_)
      clear hM hA; intro w556 g555 hM hE  a hA
      obtain ⟨hl560, H548⟩ := ite_some H548
      refine L1 (e_append elt22 hM (fun _ => (.s (.s .z))) (Src.row Try.underlying22 (RowOk.row (hM.row (p := (Pl.int .u8)) .z)) (RowOk.len (hM.row (p := (Pl.int .u8)) .z))) hl560 hA rfl rfl (by decide) ?_)
      clear hM hA; intro w561 A558 c559 hM hE  a hA
      refine L1 (stv hA (by decide) (run_assign (hA.ev rfl)) ?_)
      clear hA; intro a hA
      refine LQ ?_
      refine BN ?_
      refine TN ?_
      refine wp_region_lit ?_
      refine L1 (stv hA (by decide) (run_bin (hA.ev rfl) (hA.ev rfl) (bin_add _ _ _ _)) ?_)
      clear hA; intro a hA
      refine L1 (stv hA (by decide) (run_move (hA.ev rfl)) ?_)
      clear hA; intro a hA
      refine LQ ?_
      exact ⟨_, Nat.lt_succ_self m550, (xs537 ++ [iand .u8 (sg prefix_0 t540) 31]), IntKind.i64.wrap (t540 + 1), (.slice A558 (xs537.length + 1) c559), H548, (hM.sel [1, 2] rfl (by decide)), ((((((hA.nil.cons (hA.get 31 _ rfl)).cons (hA.get 30 _ rfl)).cons (hA.get 5 _ rfl)).cons (hA.get 4 _ rfl)).cons (hA.get 1 _ rfl)).cons (hA.get 0 _ rfl))⟩
    · replace H548 := ite_f hb552 H548
      refine wp_exit ?_
      refine TX ?_
      refine TX ?_
      refine BX ?_
      exact ⟨xs537, (.slice A535 xs537.length c536), Option.some.inj H548, hM, (((hA.nil.cons (hA.get 5 _ rfl)).cons (hA.get 4 _ rfl)).cons (hA.get 1 _ rfl))⟩
  clear hM hA
  rintro a w562 ⟨xs547, v544, rfl, hM, hA⟩
  try dsimp only at H
  obtain ⟨A545, c546, rfl⟩ := RowOk.form (hM.row (p := (Pl.int .u8)) (.s .z))
  refine TN ?_
  refine wp_seq ?_
  refine wp_seq ?_
  refine wp_region_lit ?_
  refine L1 (stv hA (by decide) (run_move (hA.ev rfl)) ?_)
  clear hA; intro a hA
  refine L1 (stv hA (by decide) (run_len_slice Try.underlying22 (hA.ev rfl)) ?_)
  clear hA; intro a hA
  refine L1 (stv hA (by decide) (run_move (hA.ev rfl)) ?_)
  clear hA; intro a hA
  refine LQ ?_
  refine TN ?_
  obtain ⟨o644, H643, H⟩ := Option.bind_eq_some_iff.1 H
  refine cutC (fun a w => ∃ (xs642 : (List Int)) (v639 : Value), xs642 = o644 ∧ Mem F w0 w [.box g364 34 (pA6u8.enc (Vector.replicate 6 0 : Vector Int 6)), .row 5 (Pl.int .u8).sz v639 ((Pl.int .u8).flat xs642)] ∧ Has 73 [(4, (.pointer (some (⟨g364, 0, none⟩)))), (5, v639)] a) ?_ ?_
  · refine wp_block ?_
    refine wp_loop_ghost (fun m a w => ∃ (xs632 : (List Int)) (t636 : Int) (v629 : Value), address_Checksum.l2 d_1 m xs632 t636 = some o644 ∧ Mem F w0 w [.box g364 34 (pA6u8.enc (Vector.replicate 6 0 : Vector Int 6)), .row 5 (Pl.int .u8).sz v629 ((Pl.int .u8).flat xs632)] ∧ Has 73 [(4, (.pointer (some (⟨g364, 0, none⟩)))), (5, v629), (42, (.slice A1 d_1.length c1)), (43, (.int .i64 ((d_1.length : Nat) : Int))), (44, (.int .i64 t636))] a) k ⟨xs547, 0, (.slice A545 xs547.length c546), H643, hM, (((((hA.nil.cons (hA.get 44 _ rfl)).cons (hA.get 43 _ rfl)).cons (hA.get 42 _ rfl)).cons (hA.get 5 _ rfl)).cons (hA.get 4 _ rfl))⟩ ?_
    clear hM hA; rintro m645 a w646 ⟨xs632, t636, v629, H643, hM, hA⟩
    cases m645 with
    | zero => exact absurd H643 (by simp [address_Checksum.l2])
    | succ m645 =>
    rw [address_Checksum.l2] at H643
    obtain ⟨A630, c631, rfl⟩ := RowOk.form (hM.row (p := (Pl.int .u8)) (.s .z))
    refine wp_seq ?_
    refine wp_region_lit ?_
    refine L1 (stv hA (by decide) (run_bin (hA.ev rfl) (hA.ev rfl) (bin_lss _ _ _ _)) ?_)
    clear hA; intro a hA
    refine LQ ?_
    refine TN ?_
    refine wp_seq ?_
    refine tcond (b := (decide (t636 < ((d_1.length : Nat) : Int)))) hA rfl (fun hb647 => ?_) (fun hb647 => ?_)
    · replace H643 := ite_t hb647 H643
      refine wp_skip ?_
      refine TN ?_
      refine wp_seq ?_
      refine wp_block ?_
      refine wp_seq ?_
      refine wp_region_lit ?_
      obtain ⟨⟨hi648, hj649⟩, H643⟩ := ite_some H643
      obtain ⟨ad650, hq651, hat652⟩ := Row.elem' (p := (Pl.int .u8)) (hM.ro hr1) (Eq.refl d_1.length) (0 : Int) t636 hi648 hj649
      refine L1 (stv hA (by decide) (run_idx Try.underlying22 Try.sizeOf5 (hA.ev rfl) hq651 (hA.ev rfl) hi648 hj649) ?_)
      clear hA; intro a hA
      refine L1 (stv hA (by decide) (run_ld (hA.ev rfl) (run_loadS Try.isAgg5 hat652)) ?_)
      clear hA; intro a hA
      refine L1 (stv hA (by decide) (run_assign (hA.ev rfl)) ?_)
      clear hA; intro a hA
      refine LQ ?_
      refine TN ?_
      refine wp_region_lit ?_
      refine L1 (stv hA (by decide) (run_move (hA.ev rfl)) ?_)
      clear hA; intro a hA
      refine L1 (stv hA (by decide) (run_move (hA.ev rfl)) ?_)
      clear hA; intro a hA
      refine L1 (stv hA (by decide) (run_bin (hA.ev rfl) (hA.ev rfl) (bin_and _ _ _ _)) ?_)
      clear hA; intro a hA
      refine L1 (e_litN [iand .u8 (d_1.getD t636.toNat (0 : Int)) 31] [(.int .u8 (iand .u8 (d_1.getD t636.toNat (0 : Int)) 31))] elt22 hM rfl (by decide) hA rfl rfl (List.cons_ne_nil _ _) (by decide) ?_)
      clear hM hA; intro w654 g653 hM hE  a hA
      obtain ⟨hl658, H643⟩ := ite_some H643
      refine L1 (e_append elt22 hM (fun _ => (.s (.s .z))) (Src.row Try.underlying22 (RowOk.row (hM.row (p := (Pl.int .u8)) .z)) (RowOk.len (hM.row (p := (Pl.int .u8)) .z))) hl658 hA rfl rfl (by decide) ?_)
      clear hM hA; intro w659 A656 c657 hM hE  a hA
      refine L1 (stv hA (by decide) (run_assign (hA.ev rfl)) ?_)
      clear hA; intro a hA
      refine LQ ?_
      refine BN ?_
      refine TN ?_
      refine wp_region_lit ?_
      refine L1 (stv hA (by decide) (run_bin (hA.ev rfl) (hA.ev rfl) (bin_add _ _ _ _)) ?_)
      clear hA; intro a hA
      refine L1 (stv hA (by decide) (run_move (hA.ev rfl)) ?_)
      clear hA; intro a hA
      refine LQ ?_
      exact ⟨_, Nat.lt_succ_self m645, (xs632 ++ [iand .u8 (d_1.getD t636.toNat (0 : Int)) 31]), IntKind.i64.wrap (t636 + 1), (.slice A656 (xs632.length + 1) c657), H643, (hM.sel [1, 2] rfl (by decide)), (((((hA.nil.cons (hA.get 44 _ rfl)).cons (hA.get 43 _ rfl)).cons (hA.get 42 _ rfl)).cons (hA.get 5 _ rfl)).cons (hA.get 4 _ rfl))⟩
    · replace H643 := ite_f hb647 H643
      refine wp_exit ?_
      refine TX ?_
      refine TX ?_
      refine BX ?_
      exact ⟨xs632, (.slice A630 xs632.length c631), Option.some.inj H643, hM, ((hA.nil.cons (hA.get 5 _ rfl)).cons (hA.get 4 _ rfl))⟩
  clear hM hA
  rintro a w660 ⟨xs642, v639, rfl, hM, hA⟩
  try dsimp only at H
  obtain ⟨A640, c641, rfl⟩ := RowOk.form (hM.row (p := (Pl.int .u8)) (.s .z))
  refine TN ?_
  refine wp_seq ?_
  refine wp_region_lit ?_
  refine L1 (e_alloc (cs := (pA6u8.enc (Vector.replicate 6 0 : Vector Int 6))) hM zero34 rfl hA (by decide) ?_)
  clear hM hA; intro w662 g661 hM hE  a hA
  refine LQ ?_
  refine TN ?_
  refine wp_seq ?_
  refine wp_region_lit ?_
  refine L1 (stv hA (by decide) (run_move (hA.ev rfl)) ?_)
  clear hA; intro a hA
  refine L1 (stv hA (by decide) (run_arr0 Try.underlying34 Try.sizeOf5 6 (fun z hz => by cases hz) (fun _ => rfl) (fun z hz => by cases hz) (fun _ => rfl) (hA.ev rfl) (by decide)) ?_)
  clear hA; intro a hA
  obtain ⟨hl666, H⟩ := ite_some H
  refine L1 (e_append elt22 hM (fun _ => (.s (.s .z))) (Src.row Try.underlying22 (Row.arr (hM.box .z)) (vlen (Vector.replicate 6 0 : Vector Int 6))) hl666 hA rfl rfl (by decide) ?_)
  clear hM hA; intro w667 A664 c665 hM hE  a hA
  obtain ⟨r668, H669, H⟩ := Option.bind_eq_some_iff.1 H
  refine L1 (st_call Try.call25 hA [(.slice A664 (xs642.length + 6) c665)] rfl (by decide) (address_remainder.calls _ _ _ _ _ _ ((RoV.mk (hM.rowC (p := (Pl.int .u8)) (Ms := []) (.s (.s .z))) (RowOk.len (hM.row (p := (Pl.int .u8)) (.s (.s .z)))) (RowOk.cap (hM.row (p := (Pl.int .u8)) (.s (.s .z)))))) (hM.front (Ms := [])) H669) ?_)
  clear hA; rintro _ w670 ⟨rfl, hMc⟩ a hA
  have hE := hMc.below; have hM := hM.call (Ms := []) hMc
  clear hMc; simp only [List.cons_append, List.nil_append] at hM
  refine L1 (stv hA (by decide) (run_bin (hA.ev rfl) (hA.ev rfl) (bin_xor _ _ _ _)) ?_)
  clear hA; intro a hA
  refine L1 (stv hA (by decide) (run_assign (hA.ev rfl)) ?_)
  clear hA; intro a hA
  refine LQ ?_
  refine TN ?_
  refine wp_seq ?_
  refine wp_seq ?_
  refine wp_region_lit ?_
  refine L1 (stv hA (by decide) (run_move (hA.ev rfl)) ?_)
  clear hA; intro a hA
  refine LQ ?_
  refine TN ?_
  obtain ⟨o715, H714, H⟩ := Option.bind_eq_some_iff.1 H
  refine cutC (fun a w => ∃ (x713 : (Vector Int 6)), x713 = o715 ∧ Mem F w0 w [.box g364 34 (pA6u8.enc (Vector.replicate 6 0 : Vector Int 6)), .box g661 34 (pA6u8.enc x713)] ∧ Has 73 [(4, (.pointer (some (⟨g364, 0, none⟩)))), (10, (.pointer (some (⟨g661, 0, none⟩))))] a) ?_ ?_
  · refine wp_block ?_
    refine wp_loop_ghost (fun m a w => ∃ (x707 : (Vector Int 6)) (t710 : Int), address_Checksum.l3 r668 m x707 t710 = some o715 ∧ Mem F w0 w [.box g364 34 (pA6u8.enc (Vector.replicate 6 0 : Vector Int 6)), .box g661 34 (pA6u8.enc x707)] ∧ Has 73 [(4, (.pointer (some (⟨g364, 0, none⟩)))), (10, (.pointer (some (⟨g661, 0, none⟩)))), (11, (.int .u32 (ixor .u32 r668 1))), (59, (.int .i64 t710))] a) k ⟨(Vector.replicate 6 0 : Vector Int 6), 0, H714, (hM.sel [1, 0] rfl (by decide)), ((((hA.nil.cons (hA.get 59 _ rfl)).cons (hA.get 11 _ rfl)).cons (hA.get 10 _ rfl)).cons (hA.get 4 _ rfl))⟩ ?_
    clear hM hA; rintro m716 a w717 ⟨x707, t710, H714, hM, hA⟩
    cases m716 with
    | zero => exact absurd H714 (by simp [address_Checksum.l3])
    | succ m716 =>
    rw [address_Checksum.l3] at H714
    refine wp_seq ?_
    refine wp_region_lit ?_
    refine L1 (stv hA (by decide) (run_bin (hA.ev rfl) (hA.ev rfl) (bin_lss _ _ _ _)) ?_)
    clear hA; intro a hA
    refine LQ ?_
    refine TN ?_
    refine wp_seq ?_
    refine tcond (b := (decide (t710 < 6))) hA rfl (fun hb718 => ?_) (fun hb718 => ?_)
    · replace H714 := ite_t hb718 H714
      refine wp_skip ?_
      refine TN ?_
      refine wp_seq ?_
      refine wp_block ?_
      refine wp_seq ?_
      refine wp_region_lit ?_
      refine L1 (stv hA (by decide) (run_move (hA.ev rfl)) ?_)
      clear hA; intro a hA
      refine L1 (stv hA (by decide) (run_assign (hA.ev rfl)) ?_)
      clear hA; intro a hA
      refine LQ ?_
      refine TN ?_
      refine wp_region_lit ?_
      refine L1 (stv hA (by decide) (run_move (hA.ev rfl)) ?_)
      clear hA; intro a hA
      refine L1 (stv hA (by decide) (run_move (hA.ev rfl)) ?_)
      clear hA; intro a hA
      refine L1 (stv hA (by decide) (run_move (hA.ev rfl)) ?_)
      clear hA; intro a hA
      refine L1 (stv hA (by decide) (run_bin (hA.ev rfl) (hA.ev rfl) (bin_mul _ _ _ _)) ?_)
      clear hA; intro a hA
      refine L1 (stv hA (by decide) (run_bin (hA.ev rfl) (hA.ev rfl) (bin_sub _ _ _ _)) ?_)
      clear hA; intro a hA
      obtain ⟨hs719, H714⟩ := ite_some H714
      refine L1 (stv hA (by decide) (run_shr (hA.ev rfl) (hA.ev rfl) hs719) ?_)
      clear hA; intro a hA
      refine L1 (stv hA (by decide) (run_bin (hA.ev rfl) (hA.ev rfl) (bin_and _ _ _ _)) ?_)
      clear hA; intro a hA
      refine L1 (stv hA (by decide) (run_conv Try.underlying46 Try.underlying5 (hA.ev rfl)) ?_)
      clear hA; intro a hA
      obtain ⟨⟨hi720, hj721⟩, H714⟩ := ite_some H714
      refine L1 (stv hA (by decide) (run_idxarr Try.underlying34 Try.sizeOf5 (hA.ev rfl) (hA.ev rfl) hi720 hj721) ?_)
      clear hA; intro a hA
      refine L1 (e_store (g := g661) (off := (t710.toNat * 1)) (cur := (pA6u8.enc x707)) (cs' := (pA6u8.enc (vs x707 t710 (IntKind.u8.wrap (iand .u32 (ishr .u32 (ixor .u32 r668 1) (IntKind.i64.wrap (25 - (IntKind.i64.wrap (5 * t710))))) 31))))) hM (.s .z) Try.sizeOf5 hA rfl (by simp [add_mk]) rfl (by first | rfl | simp [Value.cells, Pl.len]) (one_val rfl) (by have hh1 := hj721; have hh0 := hi720; rw [Pl.len]; show _ ≤ 6; omega) (vec_spl _ _ hi720 hj721) ?_)
      clear hM hA; intro w722  hM hE  a hA
      obtain ⟨x723, hx724, H714⟩ := Option.bind_eq_some_iff.1 H714
      rw [Option.some.inj hx724] at hM
      refine LQ ?_
      refine BN ?_
      refine TN ?_
      refine wp_region_lit ?_
      refine L1 (stv hA (by decide) (run_bin (hA.ev rfl) (hA.ev rfl) (bin_add _ _ _ _)) ?_)
      clear hA; intro a hA
      refine L1 (stv hA (by decide) (run_move (hA.ev rfl)) ?_)
      clear hA; intro a hA
      refine LQ ?_
      exact ⟨_, Nat.lt_succ_self m716, x723, IntKind.i64.wrap (t710 + 1), H714, hM, ((((hA.nil.cons (hA.get 59 _ rfl)).cons (hA.get 11 _ rfl)).cons (hA.get 10 _ rfl)).cons (hA.get 4 _ rfl))⟩
    · replace H714 := ite_f hb718 H714
      refine wp_exit ?_
      refine TX ?_
      refine TX ?_
      refine BX ?_
      exact ⟨x707, Option.some.inj H714, hM, ((hA.nil.cons (hA.get 10 _ rfl)).cons (hA.get 4 _ rfl))⟩
  clear hM hA
  rintro a w725 ⟨x713, rfl, hM, hA⟩
  try dsimp only at H
  refine TN ?_
  refine wp_seq ?_
  refine wp_region_lit ?_
  refine L1 (stv hA (by decide) (run_ld (hA.ev rfl) (run_loadP Try.isAgg34 Try.sizeOf34 (hM.box (.s .z)))) ?_)
  clear hA; intro a hA
  refine L1 (e_store (g := g364) (off := 0) (cur := (pA6u8.enc (Vector.replicate 6 0 : Vector Int 6))) (cs' := (pA6u8.enc x713)) hM .z Try.sizeOf34 hA rfl (by simp [add_mk]) rfl (agg_size _ _) (agg_one _ _) (Nat.le_of_ble_eq_true (enc_fitL _ _ rfl)) (spl_all (by first | rfl | simp [Value.cells, Pl.len])) ?_)
  clear hM hA; intro w726  hM hE  a hA
  refine LQ ?_
  refine TN ?_
  refine wp_ret ?_
  obtain rfl := Option.some.inj H
  exact ret_cell (fn := Try.f19) hA rfl rfl (run_loadP Try.isAgg34 Try.sizeOf34 (hM.box .z)) ⟨_, rfl, rfl, (hM.sel [] rfl (by decide))⟩

def slices_Concat_byte.f (k : Nat) (slices_0_0 : (List Int)) (slices_0_1 : (List Int)) : Option (List Int) := (if (decide ((IntKind.i64.wrap (0 + ((slices_0_0.length : Nat) : Int))) < 0)) = true then none else (if (decide ((IntKind.i64.wrap ((IntKind.i64.wrap (0 + ((slices_0_0.length : Nat) : Int))) + ((slices_0_1.length : Nat) : Int))) < 0)) = true then none else (Option.bind (α := (List Int)) (if (decide ((IntKind.i64.wrap ((IntKind.i64.wrap ((IntKind.i64.wrap (0 + ((slices_0_0.length : Nat) : Int))) + ((slices_0_1.length : Nat) : Int))) - 0)) > 0)) = true then (if 0 ≤ (IntKind.i64.wrap ((IntKind.i64.wrap ((IntKind.i64.wrap (0 + ((slices_0_0.length : Nat) : Int))) + ((slices_0_1.length : Nat) : Int))) - 0)) ∧ (0 + (IntKind.i64.wrap ((IntKind.i64.wrap ((IntKind.i64.wrap (0 + ((slices_0_0.length : Nat) : Int))) + ((slices_0_1.length : Nat) : Int))) - 0)).toNat) * 1 ≤ 140737488355328 then (if 0 ≤ (0 : Int) ∧ (0 : Int) ≤ (((0 + (IntKind.i64.wrap ((IntKind.i64.wrap ((IntKind.i64.wrap (0 + ((slices_0_0.length : Nat) : Int))) + ((slices_0_1.length : Nat) : Int))) - 0)).toNat) : Nat) : Int) then (some ((([] : List Int) ++ List.replicate (IntKind.i64.wrap ((IntKind.i64.wrap ((IntKind.i64.wrap (0 + ((slices_0_0.length : Nat) : Int))) + ((slices_0_1.length : Nat) : Int))) - 0)).toNat (0 : Int)).take ((0 : Int).toNat))) else none) else none) else (some ([] : List Int))) (fun xs167 => (if (xs167.length + slices_0_0.length) * 1 ≤ 140737488355328 then (if ((xs167.length + slices_0_0.length) + slices_0_1.length) * 1 ≤ 140737488355328 then (some ((xs167 ++ slices_0_0) ++ slices_0_1)) else none) else none)))))
set_option maxRecDepth 100000 in
theorem slices_Concat_byte.calls (k : Nat) (slices_0_0 : (List Int)) (slices_0_1 : (List Int)) (F : List (Option Nat)) (g0 : Nat) (v0_0 : Value) (v0_1 : Value) (r : (List Int)) (w0 : World) (h0_0 : RoV F (Pl.int .u8) w0 v0_0 slices_0_0) (h0_1 : RoV F (Pl.int .u8) w0 v0_1 slices_0_1) (hM : Mem F w0 w0 [.box g0 22 (List.flatten [[v0_0], [v0_1]])]) (H : slices_Concat_byte.f k slices_0_0 slices_0_1 = some r) :
    Calls Try.prog 27 #[(.slice (some ⟨g0, 0, none⟩) 2 2)] w0 fun e w' => ∃ v, e = .returned v ∧ ∃ (ur_0 : Value), v = ur_0 ∧ Mem F w0 w' [.box g0 22 (List.flatten [[v0_0], [v0_1]]), .row 5 (Pl.int .u8).sz ur_0 ((Pl.int .u8).flat r)] := by
  unfold slices_Concat_byte.f at H
  obtain ⟨A0_0, c0_0, rfl, hr0_0, hc0_0⟩ := h0_0
  obtain ⟨A0_1, c0_1, rfl, hr0_1, hc0_1⟩ := h0_1
  refine enterL (n := 36) [(.slice (some ⟨g0, 0, none⟩) 2 2)] Try.func27 rfl rfl rfl ?_
  intro a hA
  refine wp_seq ?_
  refine wp_region_lit ?_
  refine L1 (stv hA (by decide) (run_assign (hA.ev rfl)) ?_)
  clear hA; intro a hA
  refine LQ ?_
  refine TN ?_
  refine wp_seq ?_
  refine wp_region_lit ?_
  refine L1 (stv hA (by decide) (run_assign (hA.ev rfl)) ?_)
  clear hA; intro a hA
  refine LQ ?_
  refine TN ?_
  refine wp_seq ?_
  refine wp_seq ?_
  refine wp_region_lit ?_
  refine L1 (stv hA (by decide) (run_move (hA.ev rfl)) ?_)
  clear hA; intro a hA
  refine L1 (stv hA (by decide) (run_len_slice Try.underlying25 (hA.ev rfl)) ?_)
  clear hA; intro a hA
  refine L1 (stv hA (by decide) (run_move (hA.ev rfl)) ?_)
  clear hA; intro a hA
  refine LQ ?_
  refine TN ?_
  refine wp_block ?_; refine wp_loop_rounds 40 ?_; refine rounds_s ?_
  refine wp_seq ?_
  refine wp_region_lit ?_
  refine L1 (stv hA (by decide) (run_bin (hA.ev rfl) (hA.ev rfl) (bin_lss _ _ _ _)) ?_)
  clear hA; intro a hA
  refine LQ ?_
  refine TN ?_
  refine wp_seq ?_
  refine tcond_t hA rfl ?_
  refine wp_skip ?_
  refine TN ?_
  refine wp_seq ?_
  refine wp_block ?_
  refine wp_seq ?_
  refine wp_region_lit ?_
  refine L1 (stv hA (by decide) (run_idx Try.underlying25 Try.sizeOf22 (hA.ev rfl) rfl (hA.ev rfl) (by decide) (by decide)) ?_)
  clear hA; intro a hA
  refine L1 (stv hA (by decide) (run_ld (hA.ev rfl) (run_loadS Try.isAgg22 (At.seg (segs := [[(.slice A0_0 slices_0_0.length c0_0)], [(.slice A0_1 slices_0_1.length c0_1)]]) (hM.box .z) 0 rfl rfl))) ?_)
  clear hA; intro a hA
  refine L1 (stv hA (by decide) (run_assign (hA.ev rfl)) ?_)
  clear hA; intro a hA
  refine LQ ?_
  refine TN ?_
  refine wp_seq ?_
  refine wp_region_lit ?_
  refine L1 (stv hA (by decide) (run_move (hA.ev rfl)) ?_)
  clear hA; intro a hA
  refine L1 (stv hA (by decide) (run_move (hA.ev rfl)) ?_)
  clear hA; intro a hA
  refine L1 (stv hA (by decide) (run_len_slice Try.underlying22 (hA.ev rfl)) ?_)
  clear hA; intro a hA
  refine L1 (stv hA (by decide) (run_bin (hA.ev rfl) (hA.ev rfl) (bin_add _ _ _ _)) ?_)
  clear hA; intro a hA
  refine L1 (stv hA (by decide) (run_assign (hA.ev rfl)) ?_)
  clear hA; intro a hA
  refine LQ ?_
  refine TN ?_
  refine wp_seq ?_
  refine wp_region_lit ?_
  refine L1 (stv hA (by decide) (run_move (hA.ev rfl)) ?_)
  clear hA; intro a hA
  refine L1 (stv hA (by decide) (run_bin (hA.ev rfl) (hA.ev rfl) (bin_lss _ _ _ _)) ?_)
  clear hA; intro a hA
  refine LQ ?_
  refine TN ?_
  refine tcond (b := (decide ((IntKind.i64.wrap (0 + ((slices_0_0.length : Nat) : Int))) < 0))) hA rfl (fun hb116 => ?_) (fun hb116 => ?_)
  · replace H := ite_t hb116 H
    cases H
  · replace H := ite_f hb116 H
    refine wp_skip ?_
    refine BN ?_
    refine TN ?_
    refine wp_region_lit ?_
    refine L1 (stv hA (by decide) (run_bin (hA.ev rfl) (hA.ev rfl) (bin_add _ _ _ _)) ?_)
    clear hA; intro a hA
    refine L1 (stv hA (by decide) (run_move (hA.ev rfl)) ?_)
    clear hA; intro a hA
    refine LQ ?_
    refine TN ?_; refine rounds_s ?_
    refine wp_seq ?_
    refine wp_region_lit ?_
    refine L1 (stv hA (by decide) (run_bin (hA.ev rfl) (hA.ev rfl) (bin_lss _ _ _ _)) ?_)
    clear hA; intro a hA
    refine LQ ?_
    refine TN ?_
    refine wp_seq ?_
    refine tcond_t hA rfl ?_
    refine wp_skip ?_
    refine TN ?_
    refine wp_seq ?_
    refine wp_block ?_
    refine wp_seq ?_
    refine wp_region_lit ?_
    refine L1 (stv hA (by decide) (run_idx Try.underlying25 Try.sizeOf22 (hA.ev rfl) rfl (hA.ev rfl) (by decide) (by decide)) ?_)
    clear hA; intro a hA
    refine L1 (stv hA (by decide) (run_ld (hA.ev rfl) (run_loadS Try.isAgg22 (At.seg (segs := [[(.slice A0_0 slices_0_0.length c0_0)], [(.slice A0_1 slices_0_1.length c0_1)]]) (hM.box .z) 1 rfl rfl))) ?_)
    clear hA; intro a hA
    refine L1 (stv hA (by decide) (run_assign (hA.ev rfl)) ?_)
    clear hA; intro a hA
    refine LQ ?_
    refine TN ?_
    refine wp_seq ?_
    refine wp_region_lit ?_
    refine L1 (stv hA (by decide) (run_move (hA.ev rfl)) ?_)
    clear hA; intro a hA
    refine L1 (stv hA (by decide) (run_move (hA.ev rfl)) ?_)
    clear hA; intro a hA
    refine L1 (stv hA (by decide) (run_len_slice Try.underlying22 (hA.ev rfl)) ?_)
    clear hA; intro a hA
    refine L1 (stv hA (by decide) (run_bin (hA.ev rfl) (hA.ev rfl) (bin_add _ _ _ _)) ?_)
    clear hA; intro a hA
    refine L1 (stv hA (by decide) (run_assign (hA.ev rfl)) ?_)
    clear hA; intro a hA
    refine LQ ?_
    refine TN ?_
    refine wp_seq ?_
    refine wp_region_lit ?_
    refine L1 (stv hA (by decide) (run_move (hA.ev rfl)) ?_)
    clear hA; intro a hA
    refine L1 (stv hA (by decide) (run_bin (hA.ev rfl) (hA.ev rfl) (bin_lss _ _ _ _)) ?_)
    clear hA; intro a hA
    refine LQ ?_
    refine TN ?_
    refine tcond (b := (decide ((IntKind.i64.wrap ((IntKind.i64.wrap (0 + ((slices_0_0.length : Nat) : Int))) + ((slices_0_1.length : Nat) : Int))) < 0))) hA rfl (fun hb119 => ?_) (fun hb119 => ?_)
    · replace H := ite_t hb119 H
      cases H
    · replace H := ite_f hb119 H
      refine wp_skip ?_
      refine BN ?_
      refine TN ?_
      refine wp_region_lit ?_
      refine L1 (stv hA (by decide) (run_bin (hA.ev rfl) (hA.ev rfl) (bin_add _ _ _ _)) ?_)
      clear hA; intro a hA
      refine L1 (stv hA (by decide) (run_move (hA.ev rfl)) ?_)
      clear hA; intro a hA
      refine LQ ?_
      refine TN ?_; refine rounds_s ?_
      refine wp_seq ?_
      refine wp_region_lit ?_
      refine L1 (stv hA (by decide) (run_bin (hA.ev rfl) (hA.ev rfl) (bin_lss _ _ _ _)) ?_)
      clear hA; intro a hA
      refine LQ ?_
      refine TN ?_
      refine wp_seq ?_
      refine tcond_f hA rfl ?_
      refine wp_exit ?_
      refine TX ?_
      refine TX ?_
      refine BX ?_
      refine TN ?_
      refine wp_seq ?_
      refine wp_region_lit ?_
      refine L1 (stv hA (by decide) (run_move (hA.ev rfl)) ?_)
      clear hA; intro a hA
      refine L1 (inl_call Try.call32 hA [(.slice none 0 0), (.int .i64 (IntKind.i64.wrap ((IntKind.i64.wrap (0 + ((slices_0_0.length : Nat) : Int))) + ((slices_0_1.length : Nat) : Int))))] rfl (by decide) ?_)
      refine enterL (n := 27) [(.slice none 0 0), (.int .i64 (IntKind.i64.wrap ((IntKind.i64.wrap (0 + ((slices_0_0.length : Nat) : Int))) + ((slices_0_1.length : Nat) : Int))))] Try.func32 rfl rfl rfl ?_
      clear hA; intro a hA
      refine wp_seq ?_
      refine wp_region_lit ?_
      refine L1 (stv hA (by decide) (run_assign (hA.ev rfl)) ?_)
      clear hA; intro a hA
      refine LQ ?_
      refine TN ?_
      refine wp_seq ?_
      refine wp_seq ?_
      refine wp_region_lit ?_
      refine L1 (stv hA (by decide) (run_move (hA.ev rfl)) ?_)
      clear hA; intro a hA
      refine L1 (stv hA (by decide) (run_bin (hA.ev rfl) (hA.ev rfl) (bin_lss _ _ _ _)) ?_)
      clear hA; intro a hA
      refine LQ ?_
      refine TN ?_
      refine tcond_kf hA rfl hb119 ?_
      refine wp_skip ?_
      refine TN ?_
      refine wp_seq ?_
      refine wp_seq ?_
      refine wp_region_lit ?_
      refine L1 (stv hA (by decide) (run_move (hA.ev rfl)) ?_)
      clear hA; intro a hA
      refine L1 (stv hA (by decide) (run_move (hA.ev rfl)) ?_)
      clear hA; intro a hA
      refine L1 (stv hA (by decide) (run_cap_slice Try.underlying22 (hA.ev rfl)) ?_)
      clear hA; intro a hA
      refine L1 (stv hA (by decide) (run_move (hA.ev rfl)) ?_)
      clear hA; intro a hA
      refine L1 (stv hA (by decide) (run_len_slice Try.underlying22 (hA.ev rfl)) ?_)
      clear hA; intro a hA
      refine L1 (stv hA (by decide) (run_bin (hA.ev rfl) (hA.ev rfl) (bin_sub _ _ _ _)) ?_)
      clear hA; intro a hA
      refine L1 (stv hA (by decide) (run_bin (hA.ev rfl) (hA.ev rfl) (bin_sub _ _ _ _)) ?_)
      clear hA; intro a hA
      refine L1 (stv hA (by decide) (run_assign (hA.ev rfl)) ?_)
      clear hA; intro a hA
      refine LQ ?_
      refine TN ?_
      refine wp_seq ?_
      refine wp_region_lit ?_
      refine L1 (stv hA (by decide) (run_move (hA.ev rfl)) ?_)
      clear hA; intro a hA
      refine L1 (stv hA (by decide) (run_bin (hA.ev rfl) (hA.ev rfl) (bin_gtr _ _ _ _)) ?_)
      clear hA; intro a hA
      refine LQ ?_
      refine TN ?_
      obtain ⟨o169, H168, H⟩ := Option.bind_eq_some_iff.1 H
      refine cutC (fun a w => ∃ (xs167 : (List Int)) (v164 : Value), xs167 = o169 ∧ Mem F w0 w [.row 5 (Pl.int .u8).sz v164 ((Pl.int .u8).flat xs167), .box g0 22 (List.flatten [[(.slice A0_0 slices_0_0.length c0_0)], [(.slice A0_1 slices_0_1.length c0_1)]])] ∧ Has 27 [(0, v164)] a) ?_ ?_
      · refine tcond (b := (decide ((IntKind.i64.wrap ((IntKind.i64.wrap ((IntKind.i64.wrap (0 + ((slices_0_0.length : Nat) : Int))) + ((slices_0_1.length : Nat) : Int))) - 0)) > 0))) hA rfl (fun hb170 => ?_) (fun hb170 => ?_)
        · replace H168 := ite_t hb170 H168
          refine wp_region_lit ?_
          refine L1 (stv hA (by decide) (run_move (hA.ev rfl)) ?_)
          clear hA; intro a hA
          refine L1 (stv hA (by decide) (run_move (hA.ev rfl)) ?_)
          clear hA; intro a hA
          refine L1 (stv hA (by decide) (run_cap_slice Try.underlying22 (hA.ev rfl)) ?_)
          clear hA; intro a hA
          refine L1 (stv hA (by decide) (run_hi Try.underlying22 Try.sizeOf5 (Nat.le_refl 0) (by decide) (by decide) (hA.ev rfl) (hA.ev rfl)) ?_)
          clear hA; intro a hA
          refine L1 (stv hA (by decide) (run_move (hA.ev rfl)) ?_)
          clear hA; intro a hA
          have hM := hM.addnil 5 ((Pl.int .u8)).sz
          obtain ⟨⟨hi174, hl175⟩, H168⟩ := ite_some H168
          refine L1 (e_appendz (xs := ([] : List Int)) elt22 rfl Try.underlying3 hM (fun _ => .z) hi174 hl175 hA rfl rfl (by decide) ?_)
          clear hM hA; intro w176 A171 c172 hM hE  a hA
          refine L1 (stv hA (by decide) (run_move (hA.ev rfl)) ?_)
          clear hA; intro a hA
          refine L1 (stv hA (by decide) (run_len_slice Try.underlying22 (hA.ev rfl)) ?_)
          clear hA; intro a hA
          obtain ⟨⟨hi177, hj178⟩, H168⟩ := ite_some H168
          refine L1 (stv hA (by decide) (run_hi Try.underlying22 Try.sizeOf5 (RowOk.cap (hM.row (p := (Pl.int .u8)) .z)) hi177 hj178 (hA.ev rfl) (hA.ev rfl)) ?_)
          clear hA; intro a hA
          refine L1 (stv hA (by decide) (run_assign (hA.ev rfl)) ?_)
          clear hA; intro a hA
          refine LQ ?_
          have hM := hM.re (y := .row 5 (Pl.int .u8).sz (.slice A171 ((0 : Int).toNat) c172) ((Pl.int .u8).flat ((([] : List Int) ++ List.replicate (IntKind.i64.wrap ((IntKind.i64.wrap ((IntKind.i64.wrap (0 + ((slices_0_0.length : Nat) : Int))) + ((slices_0_1.length : Nat) : Int))) - 0)).toNat (0 : Int)).take ((0 : Int).toNat)))) .z (fun h => RowOk.cuthi h (by omega)) (key_hi _ _ _ _ _)
          exact ⟨((([] : List Int) ++ List.replicate (IntKind.i64.wrap ((IntKind.i64.wrap ((IntKind.i64.wrap (0 + ((slices_0_0.length : Nat) : Int))) + ((slices_0_1.length : Nat) : Int))) - 0)).toNat (0 : Int)).take ((0 : Int).toNat)), (.slice A171 ((0 : Int).toNat) c172), Option.some.inj H168, hM, (hA.nil.cons (hA.get 0 _ rfl))⟩
        · replace H168 := ite_f hb170 H168
          refine wp_skip ?_
          have hM := hM.addnil 5 ((Pl.int .u8)).sz
          exact ⟨([] : List Int), (.slice none 0 0), Option.some.inj H168, hM, (hA.nil.cons (hA.get 0 _ rfl))⟩
      clear hM hA
      rintro a w180 ⟨xs167, v164, rfl, hM, hA⟩
      try dsimp only at H
      obtain ⟨A165, c166, rfl⟩ := RowOk.form (hM.row (p := (Pl.int .u8)) .z)
      refine TN ?_
      refine wp_seq ?_
      refine wp_region_lit ?_
      refine L1 (stv hA (by decide) (run_move (hA.ev rfl)) ?_)
      clear hA; intro a hA
      refine L1 (stv hA (by decide) (run_assign (hA.ev rfl)) ?_)
      clear hA; intro a hA
      refine LQ ?_
      refine TN ?_
      refine wp_ret ?_
      refine ret_post1 (fn := Try.f32) hA rfl rfl ⟨_, rfl, ?_⟩; clear hA; intro a hA
      refine L1 (stv hA (by decide) (run_assign (hA.ev rfl)) ?_)
      clear hA; intro a hA
      refine LQ ?_
      refine TN ?_
      refine wp_seq ?_
      refine wp_seq ?_
      refine wp_region_lit ?_
      refine L1 (stv hA (by decide) (run_move (hA.ev rfl)) ?_)
      clear hA; intro a hA
      refine L1 (stv hA (by decide) (run_len_slice Try.underlying25 (hA.ev rfl)) ?_)
      clear hA; intro a hA
      refine L1 (stv hA (by decide) (run_move (hA.ev rfl)) ?_)
      clear hA; intro a hA
      refine LQ ?_
      refine TN ?_
      refine wp_block ?_; refine wp_loop_rounds 40 ?_; refine rounds_s ?_
      refine wp_seq ?_
      refine wp_region_lit ?_
      refine L1 (stv hA (by decide) (run_bin (hA.ev rfl) (hA.ev rfl) (bin_lss _ _ _ _)) ?_)
      clear hA; intro a hA
      refine LQ ?_
      refine TN ?_
      refine wp_seq ?_
      refine tcond_t hA rfl ?_
      refine wp_skip ?_
      refine TN ?_
      refine wp_seq ?_
      refine wp_block ?_
      refine wp_seq ?_
      refine wp_region_lit ?_
      refine L1 (stv hA (by decide) (run_idx Try.underlying25 Try.sizeOf22 (hA.ev rfl) rfl (hA.ev rfl) (by decide) (by decide)) ?_)
      clear hA; intro a hA
      refine L1 (stv hA (by decide) (run_ld (hA.ev rfl) (run_loadS Try.isAgg22 (At.seg (segs := [[(.slice A0_0 slices_0_0.length c0_0)], [(.slice A0_1 slices_0_1.length c0_1)]]) (hM.box (.s .z)) 0 rfl rfl))) ?_)
      clear hA; intro a hA
      refine L1 (stv hA (by decide) (run_assign (hA.ev rfl)) ?_)
      clear hA; intro a hA
      refine LQ ?_
      refine TN ?_
      refine wp_region_lit ?_
      refine L1 (stv hA (by decide) (run_move (hA.ev rfl)) ?_)
      clear hA; intro a hA
      refine L1 (stv hA (by decide) (run_move (hA.ev rfl)) ?_)
      clear hA; intro a hA
      obtain ⟨hl184, H⟩ := ite_some H
      refine L1 (e_append elt22 hM (fun _ => .z) (Src.row Try.underlying22 (hM.ro hr0_0) (Eq.refl slices_0_0.length)) hl184 hA rfl rfl (by decide) ?_)
      clear hM hA; intro w185 A182 c183 hM hE  a hA
      refine L1 (stv hA (by decide) (run_assign (hA.ev rfl)) ?_)
      clear hA; intro a hA
      refine LQ ?_
      refine BN ?_
      refine TN ?_
      refine wp_region_lit ?_
      refine L1 (stv hA (by decide) (run_bin (hA.ev rfl) (hA.ev rfl) (bin_add _ _ _ _)) ?_)
      clear hA; intro a hA
      refine L1 (stv hA (by decide) (run_move (hA.ev rfl)) ?_)
      clear hA; intro a hA
      refine LQ ?_
      refine TN ?_; refine rounds_s ?_
      refine wp_seq ?_
      refine wp_region_lit ?_
      refine L1 (stv hA (by decide) (run_bin (hA.ev rfl) (hA.ev rfl) (bin_lss _ _ _ _)) ?_)
      clear hA; intro a hA
      refine LQ ?_
      refine TN ?_
      refine wp_seq ?_
      refine tcond_t hA rfl ?_
      refine wp_skip ?_
      refine TN ?_
      refine wp_seq ?_
      refine wp_block ?_
      refine wp_seq ?_
      refine wp_region_lit ?_
      refine L1 (stv hA (by decide) (run_idx Try.underlying25 Try.sizeOf22 (hA.ev rfl) rfl (hA.ev rfl) (by decide) (by decide)) ?_)
      clear hA; intro a hA
      refine L1 (stv hA (by decide) (run_ld (hA.ev rfl) (run_loadS Try.isAgg22 (At.seg (segs := [[(.slice A0_0 slices_0_0.length c0_0)], [(.slice A0_1 slices_0_1.length c0_1)]]) (hM.box (.s .z)) 1 rfl rfl))) ?_)
      clear hA; intro a hA
      refine L1 (stv hA (by decide) (run_assign (hA.ev rfl)) ?_)
      clear hA; intro a hA
      refine LQ ?_
      refine TN ?_
      refine wp_region_lit ?_
      refine L1 (stv hA (by decide) (run_move (hA.ev rfl)) ?_)
      clear hA; intro a hA
      refine L1 (stv hA (by decide) (run_move (hA.ev rfl)) ?_)
      clear hA; intro a hA
      obtain ⟨hl189, H⟩ := ite_some H
      refine L1 (e_append elt22 hM (fun _ => .z) (Src.row Try.underlying22 (hM.ro hr0_1) (Eq.refl slices_0_1.length)) hl189 hA rfl rfl (by decide) ?_)
      clear hM hA; intro w190 A187 c188 hM hE  a hA
      refine L1 (stv hA (by decide) (run_assign (hA.ev rfl)) ?_)
      clear hA; intro a hA
      refine LQ ?_
      refine BN ?_
      refine TN ?_
      refine wp_region_lit ?_
      refine L1 (stv hA (by decide) (run_bin (hA.ev rfl) (hA.ev rfl) (bin_add _ _ _ _)) ?_)
      clear hA; intro a hA
      refine L1 (stv hA (by decide) (run_move (hA.ev rfl)) ?_)
      clear hA; intro a hA
      refine LQ ?_
      refine TN ?_; refine rounds_s ?_
      refine wp_seq ?_
      refine wp_region_lit ?_
      refine L1 (stv hA (by decide) (run_bin (hA.ev rfl) (hA.ev rfl) (bin_lss _ _ _ _)) ?_)
      clear hA; intro a hA
      refine LQ ?_
      refine TN ?_
      refine wp_seq ?_
      refine tcond_f hA rfl ?_
      refine wp_exit ?_
      refine TX ?_
      refine TX ?_
      refine BX ?_
      refine TN ?_
      refine wp_seq ?_
      refine wp_region_lit ?_
      refine L1 (stv hA (by decide) (run_move (hA.ev rfl)) ?_)
      clear hA; intro a hA
      refine L1 (stv hA (by decide) (run_assign (hA.ev rfl)) ?_)
      clear hA; intro a hA
      refine LQ ?_
      refine TN ?_
      refine wp_ret ?_
      obtain rfl := Option.some.inj H
      exact ret_post1 (fn := Try.f27) hA rfl rfl ⟨_, rfl, (.slice A187 ((xs167.length + slices_0_0.length) + slices_0_1.length) c188), rfl, (hM.sel [1, 0] rfl (by decide))⟩

def address_Encode.l0 (r165 : (List Int)) : Nat → (List Int) → Int → Option ((List Int))
  | 0, _, _ => none
  | k + 1, xs243, t247 => (if (decide (t247 < ((r165.length : Nat) : Int))) = true then (if 0 ≤ t247 ∧ t247 < ((r165.length : Nat) : Int) then (if 0 ≤ (r165.getD t247.toNat (0 : Int)) ∧ (r165.getD t247.toNat (0 : Int)) < (((⟨#[113, 112, 122, 114, 121, 57, 120, 56, 103, 102, 50, 116, 118, 100, 119, 48, 115, 51, 106, 110, 53, 52, 107, 104, 99, 101, 54, 109, 117, 97, 55, 108]⟩ : ByteArray).size : Nat) : Int) then (if (xs243.length + 1) * 1 ≤ 140737488355328 then (address_Encode.l0 r165 k (xs243 ++ [sg (⟨#[113, 112, 122, 114, 121, 57, 120, 56, 103, 102, 50, 116, 118, 100, 119, 48, 115, 51, 106, 110, 53, 52, 107, 104, 99, 101, 54, 109, 117, 97, 55, 108]⟩ : ByteArray) (r165.getD t247.toNat (0 : Int))]) (IntKind.i64.wrap (t247 + 1))) else none) else none) else none) else (some xs243))
def address_Encode.f (k : Nat) (prefix_0 : ByteArray) (b_1 : (List Int)) : Option (ByteArray × Int) := ((address_Prefix.f k prefix_0).bind fun r137 => (if (!r137) = true then (some ((⟨#[]⟩ : ByteArray), 270)) else (if (decide (((b_1.length : Nat) : Int) > 100)) = true then (some ((⟨#[]⟩ : ByteArray), 4)) else ((address_Convert.f k b_1).bind fun r142 => ((address_Checksum.f k prefix_0 r142).bind fun r149 => (if prefix_0.size + (⟨#[49]⟩ : ByteArray).size ≤ 140737488355328 then (if (prefix_0 ++ (⟨#[49]⟩ : ByteArray)).size ≤ 140737488355328 then ((slices_Concat_byte.f k r142 r149.toList).bind fun r165 => (Option.bind (α := (List Int)) (address_Encode.l0 r165 k (bytesOf (prefix_0 ++ (⟨#[49]⟩ : ByteArray))) 0) (fun xs252 => (some ((ofBytes xs252), 0))))) else none) else none))))))
set_option maxRecDepth 100000 in
theorem address_Encode.calls (k : Nat) (prefix_0 : ByteArray) (b_1 : (List Int)) (F : List (Option Nat)) (v1 : Value) (r : (ByteArray × Int)) (w0 : World) (h1 : RoV F (Pl.int .u8) w0 v1 b_1) (hM : Mem F w0 w0 []) (H : address_Encode.f k prefix_0 b_1 = some r) :
    Calls Try.prog 21 #[(.string prefix_0), v1] w0 fun e w' => ∃ v, e = .returned v ∧ v = (.tuple #[(.string r.1), (.int .i64 r.2)]) ∧ Mem F w0 w' [] := by
  unfold address_Encode.f at H
  obtain ⟨A1, c1, rfl, hr1, hc1⟩ := h1
  refine enterL (n := 42) [(.string prefix_0), (.slice A1 b_1.length c1)] Try.func21 rfl rfl rfl ?_
  intro a hA
  refine wp_seq ?_
  refine wp_region_lit ?_
  refine L1 (stv hA (by decide) (run_assign (hA.ev rfl)) ?_)
  clear hA; intro a hA
  refine L1 (stv hA (by decide) (run_assign (hA.ev rfl)) ?_)
  clear hA; intro a hA
  refine LQ ?_
  refine TN ?_
  refine wp_seq ?_
  refine wp_seq ?_
  refine wp_region_lit ?_
  refine L1 (stv hA (by decide) (run_move (hA.ev rfl)) ?_)
  clear hA; intro a hA
  obtain ⟨r137, H138, H⟩ := Option.bind_eq_some_iff.1 H
  refine L1 (st_call Try.call17 hA [(.string prefix_0)] rfl (by decide) (address_Prefix.calls _ _ _ _ _ (hM.front (Ms := [])) H138) ?_)
  clear hA; rintro _ w139 ⟨rfl, hMc⟩ a hA
  have hE := hMc.below; have hM := hM.call (Ms := []) hMc
  clear hMc; simp only [List.cons_append, List.nil_append] at hM
  refine L1 (stv hA (by decide) (run_not (hA.ev rfl)) ?_)
  clear hA; intro a hA
  refine LQ ?_
  refine TN ?_
  refine tcond (b := (!r137)) hA rfl (fun hb140 => ?_) (fun hb140 => ?_)
  · replace H := ite_t hb140 H
    refine wp_seq ?_
    refine wp_region_lit ?_
    refine L1 (stv hA (by decide) (run_assign (hA.ev rfl)) ?_)
    clear hA; intro a hA
    refine L1 (stv hA (by decide) (run_assign (hA.ev rfl)) ?_)
    clear hA; intro a hA
    refine LQ ?_
    refine TN ?_
    refine wp_ret ?_
    obtain rfl := Option.some.inj H
    refine TR ?_
    exact ret_post2 (fn := Try.f21) hA rfl rfl rfl ⟨_, rfl, rfl, hM⟩
  · replace H := ite_f hb140 H
    refine wp_skip ?_
    refine TN ?_
    refine wp_seq ?_
    refine wp_seq ?_
    refine wp_region_lit ?_
    refine L1 (stv hA (by decide) (run_move (hA.ev rfl)) ?_)
    clear hA; intro a hA
    refine L1 (stv hA (by decide) (run_len_slice Try.underlying22 (hA.ev rfl)) ?_)
    clear hA; intro a hA
    refine L1 (stv hA (by decide) (run_bin (hA.ev rfl) (hA.ev rfl) (bin_gtr _ _ _ _)) ?_)
    clear hA; intro a hA
    refine LQ ?_
    refine TN ?_
    refine tcond (b := (decide (((b_1.length : Nat) : Int) > 100))) hA rfl (fun hb141 => ?_) (fun hb141 => ?_)
    · replace H := ite_t hb141 H
      refine wp_seq ?_
      refine wp_region_lit ?_
      refine L1 (stv hA (by decide) (run_assign (hA.ev rfl)) ?_)
      clear hA; intro a hA
      refine L1 (stv hA (by decide) (run_assign (hA.ev rfl)) ?_)
      clear hA; intro a hA
      refine LQ ?_
      refine TN ?_
      refine wp_ret ?_
      obtain rfl := Option.some.inj H
      refine TR ?_
      exact ret_post2 (fn := Try.f21) hA rfl rfl rfl ⟨_, rfl, rfl, hM⟩
    · replace H := ite_f hb141 H
      refine wp_skip ?_
      refine TN ?_
      refine wp_seq ?_
      refine wp_region_lit ?_
      refine L1 (stv hA (by decide) (run_move (hA.ev rfl)) ?_)
      clear hA; intro a hA
      obtain ⟨r142, H143, H⟩ := Option.bind_eq_some_iff.1 H
      refine L1 (st_call Try.call14 hA [(.slice A1 b_1.length c1)] rfl (by decide) (address_Convert.calls _ _ _ _ _ _ ((RoV.mk (hM.roC (Ms := []) hr1) (Eq.refl b_1.length) hc1)) (hM.front (Ms := [])) H143) ?_)
      clear hA; rintro _ w144 ⟨v145, rfl, hMc⟩ a hA
      have hE := hMc.below; have hM := hM.call (Ms := []) hMc
      clear hMc; simp only [List.cons_append, List.nil_append] at hM
      obtain ⟨A147, c148, rfl⟩ := RowOk.form (hM.row (p := (Pl.int .u8)) .z)
      refine L1 (stv hA (by decide) (run_assign (hA.ev rfl)) ?_)
      clear hA; intro a hA
      refine LQ ?_
      refine TN ?_
      refine wp_seq ?_
      refine wp_region_lit ?_
      refine L1 (stv hA (by decide) (run_move (hA.ev rfl)) ?_)
      clear hA; intro a hA
      refine L1 (stv hA (by decide) (run_move (hA.ev rfl)) ?_)
      clear hA; intro a hA
      obtain ⟨r149, H150, H⟩ := Option.bind_eq_some_iff.1 H
      refine L1 (st_call Try.call19 hA [(.string prefix_0), (.slice A147 r142.length c148)] rfl (by decide) (address_Checksum.calls _ _ _ _ _ _ _ ((RoV.mk (hM.rowC (p := (Pl.int .u8)) (Ms := []) .z) (RowOk.len (hM.row (p := (Pl.int .u8)) .z)) (RowOk.cap (hM.row (p := (Pl.int .u8)) .z)))) (hM.front (Ms := [])) H150) ?_)
      clear hA; rintro _ w151 ⟨rfl, hMc⟩ a hA
      have hE := hMc.below; have hM := hM.call (Ms := []) hMc
      clear hMc; simp only [List.cons_append, List.nil_append] at hM
      refine L1 (e_alloc (cs := (pA6u8.enc (Vector.replicate 6 0 : Vector Int 6))) hM zero34 rfl hA (by decide) ?_)
      clear hM hA; intro w153 g152 hM hE  a hA
      refine L1 (e_store (g := g152) (off := 0) (cur := (pA6u8.enc (Vector.replicate 6 0 : Vector Int 6))) (cs' := (pA6u8.enc r149)) hM .z Try.sizeOf34 hA rfl (by simp [add_mk]) rfl (agg_size _ _) (agg_one _ _) (Nat.le_of_ble_eq_true (enc_fitL _ _ rfl)) (spl_all (by first | rfl | simp [Value.cells, Pl.len])) ?_)
      clear hM hA; intro w155  hM hE  a hA
      refine LQ ?_
      refine TN ?_
      refine wp_seq ?_
      refine wp_region_lit ?_
      refine L1 (stv hA (by decide) (run_move (hA.ev rfl)) ?_)
      clear hA; intro a hA
      obtain ⟨hs156, H⟩ := ite_some H
      refine L1 (stv hA (by decide) (run_catstr (hA.ev rfl) (hA.ev rfl) hs156) ?_)
      clear hA; intro a hA
      obtain ⟨hs159, H⟩ := ite_some H
      refine L1 (e_str2bytes Try.underlying9 Try.underlying22 Try.underlying5 hM hA rfl hs159 (by decide) ?_)
      clear hM hA; intro w160 g157 c158 hM hE  a hA
      refine L1 (stv hA (by decide) (run_assign (hA.ev rfl)) ?_)
      clear hA; intro a hA
      refine LQ ?_
      refine TN ?_
      refine wp_seq ?_
      refine wp_seq ?_
      refine wp_region_lit ?_
      refine L1 (stv hA (by decide) (run_move (hA.ev rfl)) ?_)
      clear hA; intro a hA
      refine L1 (stv hA (by decide) (run_arr0 Try.underlying34 Try.sizeOf5 6 (fun z hz => by cases hz) (fun _ => rfl) (fun z hz => by cases hz) (fun _ => rfl) (hA.ev rfl) (by decide)) ?_)
      clear hA; intro a hA
      refine L1 (e_litW (cs := (List.flatten [[(.slice A147 r142.length c148)], [(.slice (some (⟨g152, 0, none⟩)) 6 6)]])) [(.slice A147 r142.length c148), (.slice (some (⟨g152, 0, none⟩)) 6 6)] Try.underlying25 zero22 Try.sizeOf22 hM rfl rfl rfl hA rfl (by simp [Value.cells, Pl.len]) (by simp [Value.cells]) (by decide) ?_)
      clear hM hA; intro w163 g162 hM hE  a hA
      obtain ⟨r165, H166, H⟩ := Option.bind_eq_some_iff.1 H
      refine L1 (st_call Try.call27 hA [(.slice (some ⟨g162, 0, none⟩) 2 2)] rfl (by decide) (slices_Concat_byte.calls _ _ _ _ _ _ _ _ _ ((RoV.mk (hM.rowC (p := (Pl.int .u8)) (Ms := [_]) (.s (.s .z))) (RowOk.len (hM.row (p := (Pl.int .u8)) (.s (.s (.s .z))))) (RowOk.cap (hM.row (p := (Pl.int .u8)) (.s (.s (.s .z))))))) ((RoV.mk (hM.arrC (Ms := [_]) (.s .z) rfl (Row.arr (hM.box (.s (.s .z))))) (vlen r149) (Nat.le_refl 6))) (hM.front (Ms := [_])) H166) ?_)
      clear hA; rintro _ w167 ⟨v168, rfl, hMc⟩ a hA
      have hM := hM.call (Ms := [_]) hMc
      clear hMc; simp only [List.cons_append, List.nil_append] at hM
      obtain ⟨A170, c171, rfl⟩ := RowOk.form (hM.row (p := (Pl.int .u8)) (.s .z))
      refine L1 (stv hA (by decide) (run_len_slice Try.underlying22 (hA.ev rfl)) ?_)
      clear hA; intro a hA
      refine L1 (stv hA (by decide) (run_move (hA.ev rfl)) ?_)
      clear hA; intro a hA
      refine LQ ?_
      refine TN ?_
      obtain ⟨o254, H253, H⟩ := Option.bind_eq_some_iff.1 H
      refine cutC (fun a w => ∃ (xs252 : (List Int)) (v249 : Value), xs252 = o254 ∧ Mem F w0 w [.row 5 (Pl.int .u8).sz v249 ((Pl.int .u8).flat xs252)] ∧ Has 42 [(8, v249)] a) ?_ ?_
      · refine wp_block ?_
        refine wp_loop_ghost (fun m a w => ∃ (xs243 : (List Int)) (t247 : Int) (v240 : Value), address_Encode.l0 r165 m xs243 t247 = some o254 ∧ Mem F w0 w [.row 5 (Pl.int .u8).sz v240 ((Pl.int .u8).flat xs243), .row 5 (Pl.int .u8).sz (.slice A170 r165.length c171) ((Pl.int .u8).flat r165)] ∧ Has 42 [(8, v240), (28, (.slice A170 r165.length c171)), (29, (.int .i64 ((r165.length : Nat) : Int))), (30, (.int .i64 t247))] a) k ⟨(bytesOf (prefix_0 ++ (⟨#[49]⟩ : ByteArray))), 0, (.slice (some ⟨g157, 0, none⟩) ((prefix_0 ++ (⟨#[49]⟩ : ByteArray)).size) c158), H253, (hM.sel [2, 1] rfl (by decide)), ((((hA.nil.cons (hA.get 30 _ rfl)).cons (hA.get 29 _ rfl)).cons (hA.get 28 _ rfl)).cons (hA.get 8 _ rfl))⟩ ?_
        clear hM hA; rintro m255 a w256 ⟨xs243, t247, v240, H253, hM, hA⟩
        cases m255 with
        | zero => exact absurd H253 (by simp [address_Encode.l0])
        | succ m255 =>
        rw [address_Encode.l0] at H253
        obtain ⟨A241, c242, rfl⟩ := RowOk.form (hM.row (p := (Pl.int .u8)) .z)
        refine wp_seq ?_
        refine wp_region_lit ?_
        refine L1 (stv hA (by decide) (run_bin (hA.ev rfl) (hA.ev rfl) (bin_lss _ _ _ _)) ?_)
        clear hA; intro a hA
        refine LQ ?_
        refine TN ?_
        refine wp_seq ?_
        refine tcond (b := (decide (t247 < ((r165.length : Nat) : Int)))) hA rfl (fun hb257 => ?_) (fun hb257 => ?_)
        · replace H253 := ite_t hb257 H253
          refine wp_skip ?_
          refine TN ?_
          refine wp_seq ?_
          refine wp_block ?_
          refine wp_seq ?_
          refine wp_region_lit ?_
          obtain ⟨⟨hi258, hj259⟩, H253⟩ := ite_some H253
          obtain ⟨ad260, hq261, hat262⟩ := Row.elem' (p := (Pl.int .u8)) (RowOk.row (hM.row (p := (Pl.int .u8)) (.s .z))) (RowOk.len (hM.row (p := (Pl.int .u8)) (.s .z))) (0 : Int) t247 hi258 hj259
          refine L1 (stv hA (by decide) (run_idx Try.underlying22 Try.sizeOf5 (hA.ev rfl) hq261 (hA.ev rfl) hi258 hj259) ?_)
          clear hA; intro a hA
          refine L1 (stv hA (by decide) (run_ld (hA.ev rfl) (run_loadS Try.isAgg5 hat262)) ?_)
          clear hA; intro a hA
          refine L1 (stv hA (by decide) (run_assign (hA.ev rfl)) ?_)
          clear hA; intro a hA
          refine LQ ?_
          refine TN ?_
          refine wp_region_lit ?_
          refine L1 (stv hA (by decide) (run_move (hA.ev rfl)) ?_)
          clear hA; intro a hA
          refine L1 (stv hA (by decide) (run_move (hA.ev rfl)) ?_)
          clear hA; intro a hA
          obtain ⟨⟨hi263, hj264⟩, H253⟩ := ite_some H253
          refine L1 (stv hA (by decide) (run_index_str Try.underlying9 (hA.ev rfl) (hA.ev rfl) hi263 hj264) ?_)
          clear hA; intro a hA
          refine L1 (e_litN [sg (⟨#[113, 112, 122, 114, 121, 57, 120, 56, 103, 102, 50, 116, 118, 100, 119, 48, 115, 51, 106, 110, 53, 52, 107, 104, 99, 101, 54, 109, 117, 97, 55, 108]⟩ : ByteArray) (r165.getD t247.toNat (0 : Int))] [(.int .u8 (sg (⟨#[113, 112, 122, 114, 121, 57, 120, 56, 103, 102, 50, 116, 118, 100, 119, 48, 115, 51, 106, 110, 53, 52, 107, 104, 99, 101, 54, 109, 117, 97, 55, 108]⟩ : ByteArray) (r165.getD t247.toNat (0 : Int))))] elt22 hM rfl (by decide) hA rfl rfl (List.cons_ne_nil _ _) (by decide) ?_)
          clear hM hA; intro w266 g265 hM hE  a hA
          obtain ⟨hl270, H253⟩ := ite_some H253
          refine L1 (e_append elt22 hM (fun _ => (.s .z)) (Src.row Try.underlying22 (RowOk.row (hM.row (p := (Pl.int .u8)) .z)) (RowOk.len (hM.row (p := (Pl.int .u8)) .z))) hl270 hA rfl rfl (by decide) ?_)
          clear hM hA; intro w271 A268 c269 hM hE  a hA
          refine L1 (stv hA (by decide) (run_assign (hA.ev rfl)) ?_)
          clear hA; intro a hA
          refine LQ ?_
          refine BN ?_
          refine TN ?_
          refine wp_region_lit ?_
          refine L1 (stv hA (by decide) (run_bin (hA.ev rfl) (hA.ev rfl) (bin_add _ _ _ _)) ?_)
          clear hA; intro a hA
          refine L1 (stv hA (by decide) (run_move (hA.ev rfl)) ?_)
          clear hA; intro a hA
          refine LQ ?_
          exact ⟨_, Nat.lt_succ_self m255, (xs243 ++ [sg (⟨#[113, 112, 122, 114, 121, 57, 120, 56, 103, 102, 50, 116, 118, 100, 119, 48, 115, 51, 106, 110, 53, 52, 107, 104, 99, 101, 54, 109, 117, 97, 55, 108]⟩ : ByteArray) (r165.getD t247.toNat (0 : Int))]), IntKind.i64.wrap (t247 + 1), (.slice A268 (xs243.length + 1) c269), H253, (hM.sel [1, 2] rfl (by decide)), ((((hA.nil.cons (hA.get 30 _ rfl)).cons (hA.get 29 _ rfl)).cons (hA.get 28 _ rfl)).cons (hA.get 8 _ rfl))⟩
        · replace H253 := ite_f hb257 H253
          refine wp_exit ?_
          refine TX ?_
          refine TX ?_
          refine BX ?_
          exact ⟨xs243, (.slice A241 xs243.length c242), Option.some.inj H253, (hM.sel [0] rfl (by decide)), (hA.nil.cons (hA.get 8 _ rfl))⟩
      clear hM hA
      rintro a w272 ⟨xs252, v249, rfl, hM, hA⟩
      try dsimp only at H
      obtain ⟨A250, c251, rfl⟩ := RowOk.form (hM.row (p := (Pl.int .u8)) .z)
      refine TN ?_
      refine wp_seq ?_
      refine wp_region_lit ?_
      refine L1 (stv hA (by decide) (run_move (hA.ev rfl)) ?_)
      clear hA; intro a hA
      refine L1 (stv hA (by decide) (run_bytes2str Try.underlying22 Try.underlying5 Try.underlying9 (hA.ev rfl) (RowOk.row (hM.row (p := (Pl.int .u8)) .z)) (RowOk.len (hM.row (p := (Pl.int .u8)) .z))) ?_)
      clear hA; intro a hA
      refine L1 (stv hA (by decide) (run_assign (hA.ev rfl)) ?_)
      clear hA; intro a hA
      refine L1 (stv hA (by decide) (run_assign (hA.ev rfl)) ?_)
      clear hA; intro a hA
      refine LQ ?_
      refine TN ?_
      refine wp_ret ?_
      obtain rfl := Option.some.inj H
      exact ret_post2 (fn := Try.f21) hA rfl rfl rfl ⟨_, rfl, rfl, (hM.sel [] rfl (by decide))⟩

def address_lower.l0 (s_0 : ByteArray) : Nat → Bool → Bool → (List Int) → Int → Option (Bool × Bool × (List Int))
  | 0, _, _, _, _ => none
  | k + 1, small646, capital648, xs650, t654 => (if (decide (t654 < ((s_0.size : Nat) : Int))) = true then (if 0 ≤ t654 ∧ t654 < ((s_0.size : Nat) : Int) then (Option.bind (α := Bool) (if (decide ((xs650.getD t654.toNat (0 : Int)) ≥ 97)) = true then (some (decide ((xs650.getD t654.toNat (0 : Int)) ≤ 122))) else (some false)) (fun t681 => (Option.bind (α := Bool × Bool × (List Int)) (if t681 = true then (some (true, capital648, xs650)) else (Option.bind (α := Bool) (if (decide ((xs650.getD t654.toNat (0 : Int)) ≥ 65)) = true then (some (decide ((xs650.getD t654.toNat (0 : Int)) ≤ 90))) else (some false)) (fun t731 => (if t731 = true then (if 0 ≤ t654 ∧ t654 < ((s_0.size : Nat) : Int) then (some (small646, true, (xs650.set t654.toNat (IntKind.u8.wrap ((IntKind.u8.wrap ((xs650.getD t654.toNat (0 : Int)) + 97)) - 65))))) else none) else (some (small646, capital648, xs650)))))) (fun st => match st with | (small710, capital712, xs714) => (address_lower.l0 s_0 k small710 capital712 xs714 (IntKind.i64.wrap (t654 + 1))))))) else none) else (some (small646, capital648, xs650)))
def address_lower.f (k : Nat) (s_0 : ByteArray) : Option (ByteArray × Bool) := (if s_0.size ≤ 140737488355328 then (Option.bind (α := Bool × Bool × (List Int)) (address_lower.l0 s_0 k false false (bytesOf s_0) 0) (fun st => match st with | (small656, capital658, xs660) => (Option.bind (α := Bool) (if small656 = true then (some capital658) else (some false)) (fun t748 => (some ((ofBytes xs660), t748)))))) else none)
set_option maxRecDepth 100000 in
theorem address_lower.calls (k : Nat) (s_0 : ByteArray) (F : List (Option Nat)) (r : (ByteArray × Bool)) (w0 : World) (hM : Mem F w0 w0 []) (H : address_lower.f k s_0 = some r) :
    Calls Try.prog 28 #[(.string s_0)] w0 fun e w' => ∃ v, e = .returned v ∧ v = (.tuple #[(.string r.1), (.bool r.2)]) ∧ Mem F w0 w' [] := by
  unfold address_lower.f at H
  refine enterL (n := 45) [(.string s_0)] Try.func28 rfl rfl rfl ?_
  intro a hA
  refine wp_seq ?_
  refine wp_region_lit ?_
  refine L1 (stv hA (by decide) (run_assign (hA.ev rfl)) ?_)
  clear hA; intro a hA
  refine L1 (stv hA (by decide) (run_assign (hA.ev rfl)) ?_)
  clear hA; intro a hA
  refine LQ ?_
  refine TN ?_
  refine wp_seq ?_
  refine wp_region_lit ?_
  refine L1 (stv hA (by decide) (run_assign (hA.ev rfl)) ?_)
  clear hA; intro a hA
  refine L1 (stv hA (by decide) (run_assign (hA.ev rfl)) ?_)
  clear hA; intro a hA
  refine LQ ?_
  refine TN ?_
  refine wp_seq ?_
  refine wp_region_lit ?_
  refine L1 (stv hA (by decide) (run_move (hA.ev rfl)) ?_)
  clear hA; intro a hA
  obtain ⟨hs379, H⟩ := ite_some H
  refine L1 (e_str2bytes Try.underlying9 Try.underlying22 Try.underlying5 hM hA rfl hs379 (by decide) ?_)
  clear hM hA; intro w380 g377 c378 hM hE  a hA
  refine L1 (stv hA (by decide) (run_assign (hA.ev rfl)) ?_)
  clear hA; intro a hA
  refine LQ ?_
  refine TN ?_
  refine wp_seq ?_
  refine wp_seq ?_
  refine wp_region_lit ?_
  refine L1 (stv hA (by decide) (run_move (hA.ev rfl)) ?_)
  clear hA; intro a hA
  refine L1 (stv hA (by decide) (run_len_slice Try.underlying22 (hA.ev rfl)) ?_)
  clear hA; intro a hA
  refine L1 (stv hA (by decide) (run_move (hA.ev rfl)) ?_)
  clear hA; intro a hA
  refine LQ ?_
  refine TN ?_
  obtain ⟨o662, H661, H⟩ := Option.bind_eq_some_iff.1 H
  refine cutC (fun a w => ∃ (small656 : Bool) (capital658 : Bool) (xs660 : (List Int)), (small656, capital658, xs660) = o662 ∧ Mem F w0 w [.row 5 (Pl.int .u8).sz (.slice (some ⟨g377, 0, none⟩) s_0.size c378) ((Pl.int .u8).flat xs660)] ∧ Has 45 [(4, (.bool small656)), (5, (.bool capital658)), (6, (.slice (some ⟨g377, 0, none⟩) s_0.size c378))] a) ?_ ?_
  · refine wp_block ?_
    refine wp_loop_ghost (fun m a w => ∃ (small646 : Bool) (capital648 : Bool) (xs650 : (List Int)) (t654 : Int), address_lower.l0 s_0 m small646 capital648 xs650 t654 = some o662 ∧ Mem F w0 w [.row 5 (Pl.int .u8).sz (.slice (some ⟨g377, 0, none⟩) s_0.size c378) ((Pl.int .u8).flat xs650)] ∧ Has 45 [(4, (.bool small646)), (5, (.bool capital648)), (6, (.slice (some ⟨g377, 0, none⟩) s_0.size c378)), (11, (.slice (some ⟨g377, 0, none⟩) s_0.size c378)), (12, (.int .i64 ((s_0.size : Nat) : Int))), (13, (.int .i64 t654))] a) k ⟨false, false, (bytesOf s_0), 0, H661, hM, ((((((hA.nil.cons (hA.get 13 _ rfl)).cons (hA.get 12 _ rfl)).cons (hA.get 11 _ rfl)).cons (hA.get 6 _ rfl)).cons (hA.get 5 _ rfl)).cons (hA.get 4 _ rfl))⟩ ?_
    clear hM hA; rintro m663 a w664 ⟨small646, capital648, xs650, t654, H661, hM, hA⟩
    cases m663 with
    | zero => exact absurd H661 (by simp [address_lower.l0])
    | succ m663 =>
    rw [address_lower.l0] at H661
    refine wp_seq ?_
    refine wp_region_lit ?_
    refine L1 (stv hA (by decide) (run_bin (hA.ev rfl) (hA.ev rfl) (bin_lss _ _ _ _)) ?_)
    clear hA; intro a hA
    refine LQ ?_
    refine TN ?_
    refine wp_seq ?_
    refine tcond (b := (decide (t654 < ((s_0.size : Nat) : Int)))) hA rfl (fun hb665 => ?_) (fun hb665 => ?_)
    · replace H661 := ite_t hb665 H661
      refine wp_skip ?_
      refine TN ?_
      refine wp_seq ?_
      refine wp_block ?_
      refine wp_seq ?_
      refine wp_region_lit ?_
      refine L1 (stv hA (by decide) (run_move (hA.ev rfl)) ?_)
      clear hA; intro a hA
      obtain ⟨⟨hi666, hj667⟩, H661⟩ := ite_some H661
      obtain ⟨ad668, hq669, hat670⟩ := Row.elem' (p := (Pl.int .u8)) (RowOk.row (hM.row (p := (Pl.int .u8)) .z)) (RowOk.len (hM.row (p := (Pl.int .u8)) .z)) (0 : Int) t654 hi666 hj667
      refine L1 (stv hA (by decide) (run_idx Try.underlying22 Try.sizeOf5 (hA.ev rfl) hq669 (hA.ev rfl) hi666 hj667) ?_)
      clear hA; intro a hA
      refine L1 (stv hA (by decide) (run_ld (hA.ev rfl) (run_loadS Try.isAgg5 hat670)) ?_)
      clear hA; intro a hA
      refine L1 (stv hA (by decide) (run_assign (hA.ev rfl)) ?_)
      clear hA; intro a hA
      refine L1 (stv hA (by decide) (run_assign (hA.ev rfl)) ?_)
      clear hA; intro a hA
      refine LQ ?_
      refine TN ?_
      refine wp_block ?_
      refine wp_seq ?_
      obtain ⟨o683, H682, H661⟩ := Option.bind_eq_some_iff.1 H661
      refine cutC (fun a w => ∃ (t681 : Bool), t681 = o683 ∧ Mem F w0 w [.row 5 (Pl.int .u8).sz (.slice (some ⟨g377, 0, none⟩) s_0.size c378) ((Pl.int .u8).flat xs650)] ∧ Has 45 [(4, (.bool small646)), (5, (.bool capital648)), (6, (.slice (some ⟨g377, 0, none⟩) s_0.size c378)), (7, (.int .i64 t654)), (8, (.int .u8 (xs650.getD t654.toNat (0 : Int)))), (11, (.slice (some ⟨g377, 0, none⟩) s_0.size c378)), (12, (.int .i64 ((s_0.size : Nat) : Int))), (13, (.int .i64 t654)), (18, (.bool t681))] a) ?_ ?_
      · refine wp_region_lit ?_
        refine L1 (stv hA (by decide) (run_move (hA.ev rfl)) ?_)
        clear hA; intro a hA
        refine L1 (stv hA (by decide) (run_bin (hA.ev rfl) (hA.ev rfl) (bin_geq _ _ _ _)) ?_)
        clear hA; intro a hA
        refine L1 (stv hA (by decide) (run_move (hA.ev rfl)) ?_)
        clear hA; intro a hA
        refine bsplit (b := (decide ((xs650.getD t654.toNat (0 : Int)) ≥ 97))) (fun hb684 => ?_) (fun hb684 => ?_)
        · replace H682 := ite_t hb684 H682
          have hA := hA.re (t := 21) rfl (congrArg Value.bool hb684)
          refine L1 (gate_on rfl rfl hA (by decide) rfl (stv hA (by decide) (run_move (hA.ev rfl)) ?_))
          clear hA; intro a hA
          refine L1 (gate_on rfl rfl hA (by decide) rfl (stv hA (by decide) (run_bin (hA.ev rfl) (hA.ev rfl) (bin_leq _ _ _ _)) ?_))
          clear hA; intro a hA
          refine L1 (stv hA (by decide) (run_pick (hA.ev rfl) (fun _ => hA.ev rfl) (fun h => Bool.noConfusion h)) ?_)
          clear hA; intro a hA
          refine L1 (stv hA (by decide) (run_assign (hA.ev rfl)) ?_)
          clear hA; intro a hA
          refine LQ ?_
          exact ⟨(decide ((xs650.getD t654.toNat (0 : Int)) ≤ 122)), Option.some.inj H682, hM, (((((((((hA.nil.cons (hA.get 18 _ rfl)).cons (hA.get 13 _ rfl)).cons (hA.get 12 _ rfl)).cons (hA.get 11 _ rfl)).cons (hA.get 8 _ rfl)).cons (hA.get 7 _ rfl)).cons (hA.get 6 _ rfl)).cons (hA.get 5 _ rfl)).cons (hA.get 4 _ rfl))⟩
        · replace H682 := ite_f hb684 H682
          have hA := hA.re (t := 21) rfl (congrArg Value.bool hb684)
          refine L1 (gate_off rfl (by decide) rfl hA (by decide) rfl rfl ?_); clear hA; intro a hA
          refine L1 (gate_off rfl (by decide) rfl hA (by decide) rfl rfl ?_); clear hA; intro a hA
          refine L1 (stv hA (by decide) (run_pick (hA.ev rfl) (fun h => Bool.noConfusion h) (fun _ => hA.ev rfl)) ?_)
          clear hA; intro a hA
          refine L1 (stv hA (by decide) (run_assign (hA.ev rfl)) ?_)
          clear hA; intro a hA
          refine LQ ?_
          exact ⟨false, Option.some.inj H682, hM, (((((((((hA.nil.cons (hA.get 18 _ rfl)).cons (hA.get 13 _ rfl)).cons (hA.get 12 _ rfl)).cons (hA.get 11 _ rfl)).cons (hA.get 8 _ rfl)).cons (hA.get 7 _ rfl)).cons (hA.get 6 _ rfl)).cons (hA.get 5 _ rfl)).cons (hA.get 4 _ rfl))⟩
      clear hM hA
      rintro a w685 ⟨t681, rfl, hM, hA⟩
      try dsimp only at H661
      refine TN ?_
      obtain ⟨o719, H718, H661⟩ := Option.bind_eq_some_iff.1 H661
      refine cutC (fun a w => ∃ (small710 : Bool) (capital712 : Bool) (xs714 : (List Int)), (small710, capital712, xs714) = o719 ∧ Mem F w0 w [.row 5 (Pl.int .u8).sz (.slice (some ⟨g377, 0, none⟩) s_0.size c378) ((Pl.int .u8).flat xs714)] ∧ Has 45 [(4, (.bool small710)), (5, (.bool capital712)), (6, (.slice (some ⟨g377, 0, none⟩) s_0.size c378)), (11, (.slice (some ⟨g377, 0, none⟩) s_0.size c378)), (12, (.int .i64 ((s_0.size : Nat) : Int))), (13, (.int .i64 t654))] a) ?_ ?_
      · refine tcond (b := t681) hA rfl (fun hb720 => ?_) (fun hb720 => ?_)
        · replace H718 := ite_t hb720 H718
          refine wp_region_lit ?_
          refine L1 (stv hA (by decide) (run_assign (hA.ev rfl)) ?_)
          clear hA; intro a hA
          refine LQ ?_
          exact ⟨true, capital648, xs650, Option.some.inj H718, hM, ((((((hA.nil.cons (hA.get 13 _ rfl)).cons (hA.get 12 _ rfl)).cons (hA.get 11 _ rfl)).cons (hA.get 6 _ rfl)).cons (hA.get 5 _ rfl)).cons (hA.get 4 _ rfl))⟩
        · replace H718 := ite_f hb720 H718
          refine wp_seq ?_
          obtain ⟨o733, H732, H718⟩ := Option.bind_eq_some_iff.1 H718
          refine cutC (fun a w => ∃ (t731 : Bool), t731 = o733 ∧ Mem F w0 w [.row 5 (Pl.int .u8).sz (.slice (some ⟨g377, 0, none⟩) s_0.size c378) ((Pl.int .u8).flat xs650)] ∧ Has 45 [(4, (.bool small646)), (5, (.bool capital648)), (6, (.slice (some ⟨g377, 0, none⟩) s_0.size c378)), (7, (.int .i64 t654)), (8, (.int .u8 (xs650.getD t654.toNat (0 : Int)))), (11, (.slice (some ⟨g377, 0, none⟩) s_0.size c378)), (12, (.int .i64 ((s_0.size : Nat) : Int))), (13, (.int .i64 t654)), (25, (.bool t731))] a) ?_ ?_
          · refine wp_region_lit ?_
            refine L1 (stv hA (by decide) (run_move (hA.ev rfl)) ?_)
            clear hA; intro a hA
            refine L1 (stv hA (by decide) (run_bin (hA.ev rfl) (hA.ev rfl) (bin_geq _ _ _ _)) ?_)
            clear hA; intro a hA
            refine L1 (stv hA (by decide) (run_move (hA.ev rfl)) ?_)
            clear hA; intro a hA
            refine bsplit (b := (decide ((xs650.getD t654.toNat (0 : Int)) ≥ 65))) (fun hb734 => ?_) (fun hb734 => ?_)
            · replace H732 := ite_t hb734 H732
              have hA := hA.re (t := 28) rfl (congrArg Value.bool hb734)
              refine L1 (gate_on rfl rfl hA (by decide) rfl (stv hA (by decide) (run_move (hA.ev rfl)) ?_))
              clear hA; intro a hA
              refine L1 (gate_on rfl rfl hA (by decide) rfl (stv hA (by decide) (run_bin (hA.ev rfl) (hA.ev rfl) (bin_leq _ _ _ _)) ?_))
              clear hA; intro a hA
              refine L1 (stv hA (by decide) (run_pick (hA.ev rfl) (fun _ => hA.ev rfl) (fun h => Bool.noConfusion h)) ?_)
              clear hA; intro a hA
              refine L1 (stv hA (by decide) (run_assign (hA.ev rfl)) ?_)
              clear hA; intro a hA
              refine LQ ?_
              exact ⟨(decide ((xs650.getD t654.toNat (0 : Int)) ≤ 90)), Option.some.inj H732, hM, (((((((((hA.nil.cons (hA.get 25 _ rfl)).cons (hA.get 13 _ rfl)).cons (hA.get 12 _ rfl)).cons (hA.get 11 _ rfl)).cons (hA.get 8 _ rfl)).cons (hA.get 7 _ rfl)).cons (hA.get 6 _ rfl)).cons (hA.get 5 _ rfl)).cons (hA.get 4 _ rfl))⟩
            · replace H732 := ite_f hb734 H732
              have hA := hA.re (t := 28) rfl (congrArg Value.bool hb734)
              refine L1 (gate_off rfl (by decide) rfl hA (by decide) rfl rfl ?_); clear hA; intro a hA
              refine L1 (gate_off rfl (by decide) rfl hA (by decide) rfl rfl ?_); clear hA; intro a hA
              refine L1 (stv hA (by decide) (run_pick (hA.ev rfl) (fun h => Bool.noConfusion h) (fun _ => hA.ev rfl)) ?_)
              clear hA; intro a hA
              refine L1 (stv hA (by decide) (run_assign (hA.ev rfl)) ?_)
              clear hA; intro a hA
              refine LQ ?_
              exact ⟨false, Option.some.inj H732, hM, (((((((((hA.nil.cons (hA.get 25 _ rfl)).cons (hA.get 13 _ rfl)).cons (hA.get 12 _ rfl)).cons (hA.get 11 _ rfl)).cons (hA.get 8 _ rfl)).cons (hA.get 7 _ rfl)).cons (hA.get 6 _ rfl)).cons (hA.get 5 _ rfl)).cons (hA.get 4 _ rfl))⟩
          clear hM hA
          rintro a w735 ⟨t731, rfl, hM, hA⟩
          try dsimp only at H718
          refine TN ?_
          refine tcond (b := t731) hA rfl (fun hb736 => ?_) (fun hb736 => ?_)
          · replace H718 := ite_t hb736 H718
            refine wp_seq ?_
            refine wp_region_lit ?_
            refine L1 (stv hA (by decide) (run_assign (hA.ev rfl)) ?_)
            clear hA; intro a hA
            refine LQ ?_
            refine TN ?_
            refine wp_region_lit ?_
            refine L1 (stv hA (by decide) (run_move (hA.ev rfl)) ?_)
            clear hA; intro a hA
            refine L1 (stv hA (by decide) (run_move (hA.ev rfl)) ?_)
            clear hA; intro a hA
            refine L1 (stv hA (by decide) (run_move (hA.ev rfl)) ?_)
            clear hA; intro a hA
            refine L1 (stv hA (by decide) (run_bin (hA.ev rfl) (hA.ev rfl) (bin_add _ _ _ _)) ?_)
            clear hA; intro a hA
            refine L1 (stv hA (by decide) (run_bin (hA.ev rfl) (hA.ev rfl) (bin_sub _ _ _ _)) ?_)
            clear hA; intro a hA
            obtain ⟨⟨hi737, hj738⟩, H718⟩ := ite_some H718
            obtain ⟨ad739, hq740, hat741⟩ := Row.elem' (p := (Pl.int .u8)) (RowOk.row (hM.row (p := (Pl.int .u8)) .z)) (RowOk.len (hM.row (p := (Pl.int .u8)) .z)) (0 : Int) t654 hi737 hj738
            refine L1 (stv hA (by decide) (run_idx Try.underlying22 Try.sizeOf5 (hA.ev rfl) hq740 (hA.ev rfl) hi737 hj738) ?_)
            clear hA; intro a hA
            refine L1 (e_setrow (x1 := (xs650.getD t654.toNat (0 : Int))) (y1 := IntKind.u8.wrap ((IntKind.u8.wrap ((xs650.getD t654.toNat (0 : Int)) + 97)) - 65)) (off := 0) hM .z Try.sizeOf5 hA rfl rfl hq740 rfl (by first | rfl | simp [Value.cells, Pl.len]) (one_val rfl) hi737 hj738 (getD_getD _ _ _) (by decide) (spl_all (by first | rfl | simp [Value.cells, Pl.len] | (simp only [Value.cells, Pl.len, List.length_cons, List.length_nil]; done))) ?_)
            clear hM hA; intro w742  hM hE  a hA
            refine LQ ?_
            exact ⟨small646, true, (xs650.set t654.toNat (IntKind.u8.wrap ((IntKind.u8.wrap ((xs650.getD t654.toNat (0 : Int)) + 97)) - 65))), Option.some.inj H718, hM, ((((((hA.nil.cons (hA.get 13 _ rfl)).cons (hA.get 12 _ rfl)).cons (hA.get 11 _ rfl)).cons (hA.get 6 _ rfl)).cons (hA.get 5 _ rfl)).cons (hA.get 4 _ rfl))⟩
          · replace H718 := ite_f hb736 H718
            refine wp_skip ?_
            exact ⟨small646, capital648, xs650, Option.some.inj H718, hM, ((((((hA.nil.cons (hA.get 13 _ rfl)).cons (hA.get 12 _ rfl)).cons (hA.get 11 _ rfl)).cons (hA.get 6 _ rfl)).cons (hA.get 5 _ rfl)).cons (hA.get 4 _ rfl))⟩
      clear hM hA
      rintro a w743 ⟨small710, capital712, xs714, rfl, hM, hA⟩
      try dsimp only at H661
      refine BN ?_
      refine BN ?_
      refine TN ?_
      refine wp_region_lit ?_
      refine L1 (stv hA (by decide) (run_bin (hA.ev rfl) (hA.ev rfl) (bin_add _ _ _ _)) ?_)
      clear hA; intro a hA
      refine L1 (stv hA (by decide) (run_move (hA.ev rfl)) ?_)
      clear hA; intro a hA
      refine LQ ?_
      exact ⟨_, Nat.lt_succ_self m663, small710, capital712, xs714, IntKind.i64.wrap (t654 + 1), H661, hM, ((((((hA.nil.cons (hA.get 13 _ rfl)).cons (hA.get 12 _ rfl)).cons (hA.get 11 _ rfl)).cons (hA.get 6 _ rfl)).cons (hA.get 5 _ rfl)).cons (hA.get 4 _ rfl))⟩
    · replace H661 := ite_f hb665 H661
      refine wp_exit ?_
      refine TX ?_
      refine TX ?_
      refine BX ?_
      exact ⟨small646, capital648, xs650, Option.some.inj H661, hM, (((hA.nil.cons (hA.get 6 _ rfl)).cons (hA.get 5 _ rfl)).cons (hA.get 4 _ rfl))⟩
  clear hM hA
  rintro a w744 ⟨small656, capital658, xs660, rfl, hM, hA⟩
  try dsimp only at H
  refine TN ?_
  refine wp_seq ?_
  obtain ⟨o750, H749, H⟩ := Option.bind_eq_some_iff.1 H
  refine cutC (fun a w => ∃ (t748 : Bool), t748 = o750 ∧ Mem F w0 w [] ∧ Has 45 [(2, (.string (ofBytes xs660))), (3, (.bool t748))] a) ?_ ?_
  · refine wp_region_lit ?_
    refine L1 (stv hA (by decide) (run_move (hA.ev rfl)) ?_)
    clear hA; intro a hA
    refine L1 (stv hA (by decide) (run_bytes2str Try.underlying22 Try.underlying5 Try.underlying9 (hA.ev rfl) (RowOk.row (hM.row (p := (Pl.int .u8)) .z)) (RowOk.len (hM.row (p := (Pl.int .u8)) .z))) ?_)
    clear hA; intro a hA
    refine L1 (stv hA (by decide) (run_move (hA.ev rfl)) ?_)
    clear hA; intro a hA
    refine L1 (stv hA (by decide) (run_move (hA.ev rfl)) ?_)
    clear hA; intro a hA
    refine bsplit (b := small656) (fun hb751 => ?_) (fun hb751 => ?_)
    · replace H749 := ite_t hb751 H749
      have hA := hA.re (t := 42) rfl (congrArg Value.bool hb751)
      refine L1 (gate_on rfl rfl hA (by decide) rfl (stv hA (by decide) (run_move (hA.ev rfl)) ?_))
      clear hA; intro a hA
      refine L1 (stv hA (by decide) (run_pick (hA.ev rfl) (fun _ => hA.ev rfl) (fun h => Bool.noConfusion h)) ?_)
      clear hA; intro a hA
      refine L1 (stv hA (by decide) (run_assign (hA.ev rfl)) ?_)
      clear hA; intro a hA
      refine L1 (stv hA (by decide) (run_assign (hA.ev rfl)) ?_)
      clear hA; intro a hA
      refine LQ ?_
      exact ⟨capital658, Option.some.inj H749, (hM.sel [] rfl (by decide)), ((hA.nil.cons (hA.get 3 _ rfl)).cons (hA.get 2 _ rfl))⟩
    · replace H749 := ite_f hb751 H749
      have hA := hA.re (t := 42) rfl (congrArg Value.bool hb751)
      refine L1 (gate_off rfl (by decide) rfl hA (by decide) rfl rfl ?_); clear hA; intro a hA
      refine L1 (stv hA (by decide) (run_pick (hA.ev rfl) (fun h => Bool.noConfusion h) (fun _ => hA.ev rfl)) ?_)
      clear hA; intro a hA
      refine L1 (stv hA (by decide) (run_assign (hA.ev rfl)) ?_)
      clear hA; intro a hA
      refine L1 (stv hA (by decide) (run_assign (hA.ev rfl)) ?_)
      clear hA; intro a hA
      refine LQ ?_
      exact ⟨false, Option.some.inj H749, (hM.sel [] rfl (by decide)), ((hA.nil.cons (hA.get 3 _ rfl)).cons (hA.get 2 _ rfl))⟩
  clear hM hA
  rintro a w752 ⟨t748, rfl, hM, hA⟩
  try dsimp only at H
  refine TN ?_
  refine wp_ret ?_
  obtain rfl := Option.some.inj H
  exact ret_post2 (fn := Try.f28) hA rfl rfl rfl ⟨_, rfl, rfl, hM⟩

def stringslite_HasPrefix.f (k : Nat) (s_0 : ByteArray) (prefix_1 : ByteArray) : Option Bool := (Option.bind (α := Bool) (if (decide (((s_0.size : Nat) : Int) ≥ ((prefix_1.size : Nat) : Int))) = true then (if 0 ≤ ((prefix_1.size : Nat) : Int) ∧ ((prefix_1.size : Nat) : Int) ≤ ((s_0.size : Nat) : Int) then (some ((s_0.extract 0 ((prefix_1.size : Nat) : Int).toNat).toList == prefix_1.toList)) else none) else (some false)) (fun t16 => (some t16)))
set_option maxRecDepth 100000 in
theorem stringslite_HasPrefix.calls (k : Nat) (s_0 : ByteArray) (prefix_1 : ByteArray) (F : List (Option Nat)) (r : Bool) (w0 : World) (hM : Mem F w0 w0 []) (H : stringslite_HasPrefix.f k s_0 prefix_1 = some r) :
    Calls Try.prog 35 #[(.string s_0), (.string prefix_1)] w0 fun e w' => ∃ v, e = .returned v ∧ v = (.bool r) ∧ Mem F w0 w' [] := by
  unfold stringslite_HasPrefix.f at H
  refine enterL (n := 18) [(.string s_0), (.string prefix_1)] Try.func35 rfl rfl rfl ?_
  intro a hA
  refine wp_seq ?_
  refine wp_region_lit ?_
  refine L1 (stv hA (by decide) (run_assign (hA.ev rfl)) ?_)
  clear hA; intro a hA
  refine LQ ?_
  refine TN ?_
  refine wp_seq ?_
  obtain ⟨o18, H17, H⟩ := Option.bind_eq_some_iff.1 H
  refine cutC (fun a w => ∃ (t16 : Bool), t16 = o18 ∧ Mem F w0 w [] ∧ Has 18 [(4, (.bool t16))] a) ?_ ?_
  · refine wp_region_lit ?_
    refine L1 (stv hA (by decide) (run_move (hA.ev rfl)) ?_)
    clear hA; intro a hA
    refine L1 (stv hA (by decide) (run_len_str Try.underlying9 (hA.ev rfl)) ?_)
    clear hA; intro a hA
    refine L1 (stv hA (by decide) (run_move (hA.ev rfl)) ?_)
    clear hA; intro a hA
    refine L1 (stv hA (by decide) (run_len_str Try.underlying9 (hA.ev rfl)) ?_)
    clear hA; intro a hA
    refine L1 (stv hA (by decide) (run_bin (hA.ev rfl) (hA.ev rfl) (bin_geq _ _ _ _)) ?_)
    clear hA; intro a hA
    refine L1 (stv hA (by decide) (run_move (hA.ev rfl)) ?_)
    clear hA; intro a hA
    refine bsplit (b := (decide (((s_0.size : Nat) : Int) ≥ ((prefix_1.size : Nat) : Int)))) (fun hb19 => ?_) (fun hb19 => ?_)
    · replace H17 := ite_t hb19 H17
      have hA := hA.re (t := 10) rfl (congrArg Value.bool hb19)
      refine L1 (gate_on rfl rfl hA (by decide) rfl (stv hA (by decide) (run_move (hA.ev rfl)) ?_))
      clear hA; intro a hA
      refine L1 (gate_on rfl rfl hA (by decide) rfl (stv hA (by decide) (run_move (hA.ev rfl)) ?_))
      clear hA; intro a hA
      refine L1 (gate_on rfl rfl hA (by decide) rfl (stv hA (by decide) (run_len_str Try.underlying9 (hA.ev rfl)) ?_))
      clear hA; intro a hA
      obtain ⟨⟨hi20, hj21⟩, H17⟩ := ite_some H17
      refine L1 (gate_on rfl rfl hA (by decide) rfl (stv hA (by decide) (run_strhi Try.underlying9 hi20 hj21 (hA.ev rfl) (hA.ev rfl)) ?_))
      clear hA; intro a hA
      refine L1 (gate_on rfl rfl hA (by decide) rfl (stv hA (by decide) (run_move (hA.ev rfl)) ?_))
      clear hA; intro a hA
      refine L1 (gate_on rfl rfl hA (by decide) rfl (stv hA (by decide) (run_eqstr (hA.ev rfl) (hA.ev rfl)) ?_))
      clear hA; intro a hA
      refine L1 (stv hA (by decide) (run_pick (hA.ev rfl) (fun _ => hA.ev rfl) (fun h => Bool.noConfusion h)) ?_)
      clear hA; intro a hA
      refine L1 (stv hA (by decide) (run_assign (hA.ev rfl)) ?_)
      clear hA; intro a hA
      refine LQ ?_
      exact ⟨((s_0.extract 0 ((prefix_1.size : Nat) : Int).toNat).toList == prefix_1.toList), Option.some.inj H17, hM, (hA.nil.cons (hA.get 4 _ rfl))⟩
    · replace H17 := ite_f hb19 H17
      have hA := hA.re (t := 10) rfl (congrArg Value.bool hb19)
      refine L1 (gate_off rfl (by decide) rfl hA (by decide) rfl rfl ?_); clear hA; intro a hA
      refine L1 (gate_off rfl (by decide) rfl hA (by decide) rfl rfl ?_); clear hA; intro a hA
      refine L1 (gate_off rfl (by decide) rfl hA (by decide) rfl rfl ?_); clear hA; intro a hA
      refine L1 (gate_off rfl (by decide) rfl hA (by decide) rfl rfl ?_); clear hA; intro a hA
      refine L1 (gate_off rfl (by decide) rfl hA (by decide) rfl rfl ?_); clear hA; intro a hA
      refine L1 (gate_off rfl (by decide) rfl hA (by decide) rfl rfl ?_); clear hA; intro a hA
      refine L1 (stv hA (by decide) (run_pick (hA.ev rfl) (fun h => Bool.noConfusion h) (fun _ => hA.ev rfl)) ?_)
      clear hA; intro a hA
      refine L1 (stv hA (by decide) (run_assign (hA.ev rfl)) ?_)
      clear hA; intro a hA
      refine LQ ?_
      exact ⟨false, Option.some.inj H17, hM, (hA.nil.cons (hA.get 4 _ rfl))⟩
  clear hM hA
  rintro a w22 ⟨t16, rfl, hM, hA⟩
  try dsimp only at H
  refine TN ?_
  refine wp_ret ?_
  obtain rfl := Option.some.inj H
  exact ret_post1 (fn := Try.f35) hA rfl rfl ⟨_, rfl, rfl, hM⟩

def stringslite_CutPrefix.f (k : Nat) (s_0 : ByteArray) (prefix_1 : ByteArray) : Option (ByteArray × Bool) := ((stringslite_HasPrefix.f k s_0 prefix_1).bind fun r7 => (if (!r7) = true then (some (s_0, false)) else (if 0 ≤ ((prefix_1.size : Nat) : Int) ∧ ((prefix_1.size : Nat) : Int) ≤ ((s_0.size : Nat) : Int) then (some ((s_0.extract ((prefix_1.size : Nat) : Int).toNat s_0.size), true)) else none)))
set_option maxRecDepth 100000 in
theorem stringslite_CutPrefix.calls (k : Nat) (s_0 : ByteArray) (prefix_1 : ByteArray) (F : List (Option Nat)) (r : (ByteArray × Bool)) (w0 : World) (hM : Mem F w0 w0 []) (H : stringslite_CutPrefix.f k s_0 prefix_1 = some r) :
    Calls Try.prog 33 #[(.string s_0), (.string prefix_1)] w0 fun e w' => ∃ v, e = .returned v ∧ v = (.tuple #[(.string r.1), (.bool r.2)]) ∧ Mem F w0 w' [] := by
  unfold stringslite_CutPrefix.f at H
  refine enterL (n := 15) [(.string s_0), (.string prefix_1)] Try.func33 rfl rfl rfl ?_
  intro a hA
  refine wp_seq ?_
  refine wp_region_lit ?_
  refine L1 (stv hA (by decide) (run_assign (hA.ev rfl)) ?_)
  clear hA; intro a hA
  refine L1 (stv hA (by decide) (run_assign (hA.ev rfl)) ?_)
  clear hA; intro a hA
  refine LQ ?_
  refine TN ?_
  refine wp_seq ?_
  refine wp_seq ?_
  refine wp_region_lit ?_
  refine L1 (stv hA (by decide) (run_move (hA.ev rfl)) ?_)
  clear hA; intro a hA
  refine L1 (stv hA (by decide) (run_move (hA.ev rfl)) ?_)
  clear hA; intro a hA
  obtain ⟨r7, H8, H⟩ := Option.bind_eq_some_iff.1 H
  refine L1 (st_call Try.call35 hA [(.string s_0), (.string prefix_1)] rfl (by decide) (stringslite_HasPrefix.calls _ _ _ _ _ _ (hM.front (Ms := [])) H8) ?_)
  clear hA; rintro _ w9 ⟨rfl, hMc⟩ a hA
  have hE := hMc.below; have hM := hM.call (Ms := []) hMc
  clear hMc; simp only [List.cons_append, List.nil_append] at hM
  refine L1 (stv hA (by decide) (run_not (hA.ev rfl)) ?_)
  clear hA; intro a hA
  refine LQ ?_
  refine TN ?_
  refine tcond (b := (!r7)) hA rfl (fun hb10 => ?_) (fun hb10 => ?_)
  · replace H := ite_t hb10 H
    refine wp_seq ?_
    refine wp_region_lit ?_
    refine L1 (stv hA (by decide) (run_move (hA.ev rfl)) ?_)
    clear hA; intro a hA
    refine L1 (stv hA (by decide) (run_assign (hA.ev rfl)) ?_)
    clear hA; intro a hA
    refine L1 (stv hA (by decide) (run_assign (hA.ev rfl)) ?_)
    clear hA; intro a hA
    refine LQ ?_
    refine TN ?_
    refine wp_ret ?_
    obtain rfl := Option.some.inj H
    refine TR ?_
    exact ret_post2 (fn := Try.f33) hA rfl rfl rfl ⟨_, rfl, rfl, hM⟩
  · replace H := ite_f hb10 H
    refine wp_skip ?_
    refine TN ?_
    refine wp_seq ?_
    refine wp_region_lit ?_
    refine L1 (stv hA (by decide) (run_move (hA.ev rfl)) ?_)
    clear hA; intro a hA
    refine L1 (stv hA (by decide) (run_move (hA.ev rfl)) ?_)
    clear hA; intro a hA
    refine L1 (stv hA (by decide) (run_len_str Try.underlying9 (hA.ev rfl)) ?_)
    clear hA; intro a hA
    obtain ⟨⟨hi11, hj12⟩, H⟩ := ite_some H
    refine L1 (stv hA (by decide) (run_strlo Try.underlying9 hi11 hj12 (hA.ev rfl) (hA.ev rfl)) ?_)
    clear hA; intro a hA
    refine L1 (stv hA (by decide) (run_assign (hA.ev rfl)) ?_)
    clear hA; intro a hA
    refine L1 (stv hA (by decide) (run_assign (hA.ev rfl)) ?_)
    clear hA; intro a hA
    refine LQ ?_
    refine TN ?_
    refine wp_ret ?_
    obtain rfl := Option.some.inj H
    exact ret_post2 (fn := Try.f33) hA rfl rfl rfl ⟨_, rfl, rfl, hM⟩

def strings_CutPrefix.f (k : Nat) (s_0 : ByteArray) (prefix_1 : ByteArray) : Option (ByteArray × Bool) := ((stringslite_CutPrefix.f k s_0 prefix_1).bind fun r4 => (some (r4.1, r4.2)))
set_option maxRecDepth 100000 in
theorem strings_CutPrefix.calls (k : Nat) (s_0 : ByteArray) (prefix_1 : ByteArray) (F : List (Option Nat)) (r : (ByteArray × Bool)) (w0 : World) (hM : Mem F w0 w0 []) (H : strings_CutPrefix.f k s_0 prefix_1 = some r) :
    Calls Try.prog 29 #[(.string s_0), (.string prefix_1)] w0 fun e w' => ∃ v, e = .returned v ∧ v = (.tuple #[(.string r.1), (.bool r.2)]) ∧ Mem F w0 w' [] := by
  unfold strings_CutPrefix.f at H
  refine enterL (n := 11) [(.string s_0), (.string prefix_1)] Try.func29 rfl rfl rfl ?_
  intro a hA
  refine wp_seq ?_
  refine wp_region_lit ?_
  refine L1 (stv hA (by decide) (run_assign (hA.ev rfl)) ?_)
  clear hA; intro a hA
  refine L1 (stv hA (by decide) (run_assign (hA.ev rfl)) ?_)
  clear hA; intro a hA
  refine LQ ?_
  refine TN ?_
  refine wp_seq ?_
  refine wp_region_lit ?_
  refine L1 (stv hA (by decide) (run_move (hA.ev rfl)) ?_)
  clear hA; intro a hA
  refine L1 (stv hA (by decide) (run_move (hA.ev rfl)) ?_)
  clear hA; intro a hA
  obtain ⟨r4, H5, H⟩ := Option.bind_eq_some_iff.1 H
  refine L1 (st_call Try.call33 hA [(.string s_0), (.string prefix_1)] rfl (by decide) (stringslite_CutPrefix.calls _ _ _ _ _ _ (hM.front (Ms := [])) H5) ?_)
  clear hA; rintro _ w6 ⟨rfl, hMc⟩ a hA
  have hE := hMc.below; have hM := hM.call (Ms := []) hMc
  clear hMc; simp only [List.cons_append, List.nil_append] at hM
  refine L1 (stv hA (by decide) (run_ext (hA.ev rfl) rfl) ?_)
  clear hA; intro a hA
  refine L1 (stv hA (by decide) (run_ext (hA.ev rfl) rfl) ?_)
  clear hA; intro a hA
  refine L1 (stv hA (by decide) (run_assign (hA.ev rfl)) ?_)
  clear hA; intro a hA
  refine L1 (stv hA (by decide) (run_assign (hA.ev rfl)) ?_)
  clear hA; intro a hA
  refine LQ ?_
  refine TN ?_
  refine wp_ret ?_
  obtain rfl := Option.some.inj H
  exact ret_post2 (fn := Try.f29) hA rfl rfl rfl ⟨_, rfl, rfl, hM⟩


def stringslite_IndexByte.f (k : Nat) (s_0 : ByteArray) (c_1 : Int) : Option Int := some (Lib.indexByte s_0.data.toList c_1.toNat.toUInt8)
set_option maxHeartbeats 1000000 in
set_option maxRecDepth 100000 in
theorem stringslite_IndexByte.calls (k : Nat) (s_0 : ByteArray) (c_1 : Int) (F : List (Option Nat)) (r : Int) (w0 : World) (hM : Mem F w0 w0 []) (H : stringslite_IndexByte.f k s_0 c_1 = some r) :
    Calls Try.prog 34 #[(.string s_0), (.int .u8 c_1)] w0 fun e w' => ∃ v, e = .returned v ∧ v = (.int .i64 r) ∧ Mem F w0 w' [] := by
  obtain rfl := Option.some.inj H
  have h : Calls Try.prog 34 #[(.string s_0), (.int .u8 c_1)] w0 fun e w' => e = .returned (.int .i64 (Lib.indexByte s_0.data.toList c_1.toNat.toUInt8)) ∧ w' = w0 := by
    go_enter Try.func34, Try.ntmps34
    go_wp2
    rw [run_callFunc_extern Try.func36 (by kernel_rfl) (by kernel_rfl) (by kernel_rfl) (e := Extern.BytealgIndexByte.indexByte) (by kernel_rfl), Lib.run_indexByteString]
    simp only [Result.andThen]
    rw [Oper.upon_value]
    go_wp2
    go_ret
    exact ⟨rfl, rfl⟩
  exact h.mono fun e w' ⟨h1, h2⟩ => by subst h2; exact ⟨_, h1, rfl, hM⟩

def strings_IndexByte.f (k : Nat) (s_0 : ByteArray) (c_1 : Int) : Option Int := ((stringslite_IndexByte.f k s_0 c_1).bind fun r4 => (some r4))
set_option maxRecDepth 100000 in
theorem strings_IndexByte.calls (k : Nat) (s_0 : ByteArray) (c_1 : Int) (F : List (Option Nat)) (r : Int) (w0 : World) (hM : Mem F w0 w0 []) (H : strings_IndexByte.f k s_0 c_1 = some r) :
    Calls Try.prog 30 #[(.string s_0), (.int .u8 c_1)] w0 fun e w' => ∃ v, e = .returned v ∧ v = (.int .i64 r) ∧ Mem F w0 w' [] := by
  unfold strings_IndexByte.f at H
  refine enterL (n := 8) [(.string s_0), (.int .u8 c_1)] Try.func30 rfl rfl rfl ?_
  intro a hA
  refine wp_seq ?_
  refine wp_region_lit ?_
  refine L1 (stv hA (by decide) (run_assign (hA.ev rfl)) ?_)
  clear hA; intro a hA
  refine LQ ?_
  refine TN ?_
  refine wp_seq ?_
  refine wp_region_lit ?_
  refine L1 (stv hA (by decide) (run_move (hA.ev rfl)) ?_)
  clear hA; intro a hA
  refine L1 (stv hA (by decide) (run_move (hA.ev rfl)) ?_)
  clear hA; intro a hA
  obtain ⟨r4, H5, H⟩ := Option.bind_eq_some_iff.1 H
  refine L1 (st_call Try.call34 hA [(.string s_0), (.int .u8 c_1)] rfl (by decide) (stringslite_IndexByte.calls _ _ _ _ _ _ (hM.front (Ms := [])) H5) ?_)
  clear hA; rintro _ w6 ⟨rfl, hMc⟩ a hA
  have hE := hMc.below; have hM := hM.call (Ms := []) hMc
  clear hMc; simp only [List.cons_append, List.nil_append] at hM
  refine L1 (stv hA (by decide) (run_assign (hA.ev rfl)) ?_)
  clear hA; intro a hA
  refine LQ ?_
  refine TN ?_
  refine wp_ret ?_
  obtain rfl := Option.some.inj H
  exact ret_post1 (fn := Try.f30) hA rfl rfl ⟨_, rfl, rfl, hM⟩

def slices_Equal_byte.l0 (s1_0 : (List Int)) (s2_1 : (List Int)) : Nat → Int → Option (Out Bool (Unit))
  | 0, _ => none
  | k + 1, t143 => (if (decide (t143 < ((s1_0.length : Nat) : Int))) = true then (if 0 ≤ t143 ∧ t143 < ((s1_0.length : Nat) : Int) then (if 0 ≤ t143 ∧ t143 < ((s2_1.length : Nat) : Int) then (if ((s1_0.getD t143.toNat (0 : Int)) != (s2_1.getD t143.toNat (0 : Int))) = true then (some (.ret false)) else (slices_Equal_byte.l0 s1_0 s2_1 k (IntKind.i64.wrap (t143 + 1)))) else none) else none) else (some (.go ())))
def slices_Equal_byte.f (k : Nat) (s1_0 : (List Int)) (s2_1 : (List Int)) : Option Bool := (if (((s1_0.length : Nat) : Int) != ((s2_1.length : Nat) : Int)) = true then (some false) else (Option.bind (α := Out Bool (Unit)) (slices_Equal_byte.l0 s1_0 s2_1 k 0) (fun o => match o with | .ret r => some r | .go _ => (some true))))
set_option maxRecDepth 100000 in
theorem slices_Equal_byte.calls (k : Nat) (s1_0 : (List Int)) (s2_1 : (List Int)) (F : List (Option Nat)) (v0 : Value) (v1 : Value) (r : Bool) (w0 : World) (h0 : RoV F (Pl.int .u8) w0 v0 s1_0) (h1 : RoV F (Pl.int .u8) w0 v1 s2_1) (hM : Mem F w0 w0 []) (H : slices_Equal_byte.f k s1_0 s2_1 = some r) :
    Calls Try.prog 31 #[v0, v1] w0 fun e w' => ∃ v, e = .returned v ∧ v = (.bool r) ∧ Mem F w0 w' [] := by
  unfold slices_Equal_byte.f at H
  obtain ⟨A0, c0, rfl, hr0, hc0⟩ := h0
  obtain ⟨A1, c1, rfl, hr1, hc1⟩ := h1
  refine enterL (n := 26) [(.slice A0 s1_0.length c0), (.slice A1 s2_1.length c1)] Try.func31 rfl rfl rfl ?_
  intro a hA
  refine wp_seq ?_
  refine wp_region_lit ?_
  refine L1 (stv hA (by decide) (run_assign (hA.ev rfl)) ?_)
  clear hA; intro a hA
  refine LQ ?_
  refine TN ?_
  refine wp_seq ?_
  refine wp_seq ?_
  refine wp_region_lit ?_
  refine L1 (stv hA (by decide) (run_move (hA.ev rfl)) ?_)
  clear hA; intro a hA
  refine L1 (stv hA (by decide) (run_len_slice Try.underlying22 (hA.ev rfl)) ?_)
  clear hA; intro a hA
  refine L1 (stv hA (by decide) (run_move (hA.ev rfl)) ?_)
  clear hA; intro a hA
  refine L1 (stv hA (by decide) (run_len_slice Try.underlying22 (hA.ev rfl)) ?_)
  clear hA; intro a hA
  refine L1 (stv hA (by decide) (run_bin (hA.ev rfl) (hA.ev rfl) (bin_neq _ _ _ _)) ?_)
  clear hA; intro a hA
  refine LQ ?_
  refine TN ?_
  refine tcond (b := (((s1_0.length : Nat) : Int) != ((s2_1.length : Nat) : Int))) hA rfl (fun hb82 => ?_) (fun hb82 => ?_)
  · replace H := ite_t hb82 H
    refine wp_seq ?_
    refine wp_region_lit ?_
    refine L1 (stv hA (by decide) (run_assign (hA.ev rfl)) ?_)
    clear hA; intro a hA
    refine LQ ?_
    refine TN ?_
    refine wp_ret ?_
    obtain rfl := Option.some.inj H
    refine TR ?_
    exact ret_post1 (fn := Try.f31) hA rfl rfl ⟨_, rfl, rfl, hM⟩
  · replace H := ite_f hb82 H
    refine wp_skip ?_
    refine TN ?_
    refine wp_seq ?_
    refine wp_seq ?_
    refine wp_region_lit ?_
    refine L1 (stv hA (by decide) (run_move (hA.ev rfl)) ?_)
    clear hA; intro a hA
    refine L1 (stv hA (by decide) (run_len_slice Try.underlying22 (hA.ev rfl)) ?_)
    clear hA; intro a hA
    refine L1 (stv hA (by decide) (run_move (hA.ev rfl)) ?_)
    clear hA; intro a hA
    refine LQ ?_
    refine TN ?_
    obtain ⟨o145, H144, H⟩ := Option.bind_eq_some_iff.1 H
    refine cutC (fun a w => (.go ()) = o145 ∧ Mem F w0 w [] ∧ Has 26 [] a) ?_ ?_
    · refine wp_block ?_
      refine wp_loop_ghost (fun m a w => ∃ (t143 : Int), slices_Equal_byte.l0 s1_0 s2_1 m t143 = some o145 ∧ Mem F w0 w [] ∧ Has 26 [(0, (.slice A0 s1_0.length c0)), (1, (.slice A1 s2_1.length c1)), (12, (.int .i64 ((s1_0.length : Nat) : Int))), (13, (.int .i64 t143))] a) k ⟨0, H144, hM, ((((hA.nil.cons (hA.get 13 _ rfl)).cons (hA.get 12 _ rfl)).cons (hA.get 1 _ rfl)).cons (hA.get 0 _ rfl))⟩ ?_
      clear hM hA; rintro m146 a w147 ⟨t143, H144, hM, hA⟩
      cases m146 with
      | zero => exact absurd H144 (by simp [slices_Equal_byte.l0])
      | succ m146 =>
      rw [slices_Equal_byte.l0] at H144
      refine wp_seq ?_
      refine wp_region_lit ?_
      refine L1 (stv hA (by decide) (run_bin (hA.ev rfl) (hA.ev rfl) (bin_lss _ _ _ _)) ?_)
      clear hA; intro a hA
      refine LQ ?_
      refine TN ?_
      refine wp_seq ?_
      refine tcond (b := (decide (t143 < ((s1_0.length : Nat) : Int)))) hA rfl (fun hb148 => ?_) (fun hb148 => ?_)
      · replace H144 := ite_t hb148 H144
        refine wp_skip ?_
        refine TN ?_
        refine wp_seq ?_
        refine wp_block ?_
        refine wp_seq ?_
        refine wp_region_lit ?_
        refine L1 (stv hA (by decide) (run_move (hA.ev rfl)) ?_)
        clear hA; intro a hA
        refine L1 (stv hA (by decide) (run_assign (hA.ev rfl)) ?_)
        clear hA; intro a hA
        refine LQ ?_
        refine TN ?_
        refine wp_seq ?_
        refine draw (fun w' => Below w147.heap.size w147 w') [] rfl ?_
        intro w149 hw hS; replace hM := hM.ext hS; clear hw
        refine d_takef (i := 0) (L' := #[true, false, false, false, false, false, false, false, false]) rfl (by kernel_rfl) rfl (fun _ _ _ h => h) hA (by decide) (fun _ => hS) (fun a w' hA => run_move (hA.ev rfl)) ?_; clear hA; intro a hA
        refine d_takef (i := 1) (L' := #[true, true, false, false, false, false, false, false, false]) rfl (by kernel_rfl) rfl (fun _ _ _ h => h) hA (by decide) (fun _ => hS) (fun a w' hA => run_move (hA.ev rfl)) ?_; clear hA; intro a hA
        obtain ⟨⟨hi151, hj152⟩, H144⟩ := ite_some H144
        obtain ⟨ad153, hq154, hat155⟩ := Row.elem' (p := (Pl.int .u8)) (hM.ro hr0) (Eq.refl s1_0.length) (0 : Int) t143 hi151 hj152
        refine d_takef (i := 2) (L' := #[true, true, true, false, false, false, false, false, false]) rfl (by kernel_rfl) rfl (fun _ _ _ h => h) hA (by decide) (fun _ => hS) (fun a w' hA => run_idx Try.underlying22 Try.sizeOf5 (hA.ev rfl) hq154 (hA.ev rfl) hi151 hj152) ?_; clear hA; intro a hA
        refine rebase hS ?_; clear hS; intro hS
        refine d_take (i := 3) (L' := #[true, true, true, true, false, false, false, false, false]) rfl (by kernel_rfl) rfl (fun _ _ _ h => h) hA (by decide) rfl hS (fun a w' hA hS' => run_ld (hA.ev rfl) (run_loadS Try.isAgg5 ((hat155).extB hS'))) ?_; clear hA; intro a hA
        refine d_takef (i := 4) (L' := #[true, true, true, true, true, false, false, false, false]) rfl (by kernel_rfl) rfl (fun _ _ _ h => h) hA (by decide) (fun _ => hS) (fun a w' hA => run_move (hA.ev rfl)) ?_; clear hA; intro a hA
        refine d_takef (i := 5) (L' := #[true, true, true, true, true, true, false, false, false]) rfl (by kernel_rfl) rfl (fun _ _ _ h => h) hA (by decide) (fun _ => hS) (fun a w' hA => run_move (hA.ev rfl)) ?_; clear hA; intro a hA
        obtain ⟨⟨hi156, hj157⟩, H144⟩ := ite_some H144
        obtain ⟨ad158, hq159, hat160⟩ := Row.elem' (p := (Pl.int .u8)) (hM.ro hr1) (Eq.refl s2_1.length) (0 : Int) t143 hi156 hj157
        refine d_takef (i := 6) (L' := #[true, true, true, true, true, true, true, false, false]) rfl (by kernel_rfl) rfl (fun _ _ _ h => h) hA (by decide) (fun _ => hS) (fun a w' hA => run_idx Try.underlying22 Try.sizeOf5 (hA.ev rfl) hq159 (hA.ev rfl) hi156 hj157) ?_; clear hA; intro a hA
        refine d_take (i := 7) (L' := #[true, true, true, true, true, true, true, true, false]) rfl (by kernel_rfl) rfl (fun _ _ _ h => h) hA (by decide) rfl hS (fun a w' hA hS' => run_ld (hA.ev rfl) (run_loadS Try.isAgg5 ((hat160).extB hS'))) ?_; clear hA; intro a hA
        refine d_takef (i := 8) (L' := #[true, true, true, true, true, true, true, true, true]) rfl (by kernel_rfl) rfl (fun _ _ _ h => h) hA (by decide) (fun _ => hS) (fun a w' hA => run_bin (hA.ev rfl) (hA.ev rfl) (bin_neq _ _ _ _)) ?_; clear hA; intro a hA
        refine d_done (by kernel_rfl) ?_
        refine TN ?_
        refine tcond (b := ((s1_0.getD t143.toNat (0 : Int)) != (s2_1.getD t143.toNat (0 : Int)))) hA rfl (fun hb161 => ?_) (fun hb161 => ?_)
        · replace H144 := ite_t hb161 H144
          refine wp_seq ?_
          refine wp_region_lit ?_
          refine L1 (stv hA (by decide) (run_assign (hA.ev rfl)) ?_)
          clear hA; intro a hA
          refine LQ ?_
          refine TN ?_
          refine wp_ret ?_
          obtain rfl := Option.some.inj H144
          dsimp only at H
          obtain rfl := Option.some.inj H
          refine BR ?_
          refine TR ?_
          refine TR ?_
          refine BR ?_
          refine TR ?_
          refine TR ?_
          exact ret_post1 (fn := Try.f31) hA rfl rfl ⟨_, rfl, rfl, hM⟩
        · replace H144 := ite_f hb161 H144
          refine wp_skip ?_
          refine BN ?_
          refine TN ?_
          refine wp_region_lit ?_
          refine L1 (stv hA (by decide) (run_bin (hA.ev rfl) (hA.ev rfl) (bin_add _ _ _ _)) ?_)
          clear hA; intro a hA
          refine L1 (stv hA (by decide) (run_move (hA.ev rfl)) ?_)
          clear hA; intro a hA
          refine LQ ?_
          exact ⟨_, Nat.lt_succ_self m146, IntKind.i64.wrap (t143 + 1), H144, hM, ((((hA.nil.cons (hA.get 13 _ rfl)).cons (hA.get 12 _ rfl)).cons (hA.get 1 _ rfl)).cons (hA.get 0 _ rfl))⟩
      · replace H144 := ite_f hb148 H144
        refine wp_exit ?_
        refine TX ?_
        refine TX ?_
        refine BX ?_
        exact ⟨Option.some.inj H144, hM, hA.nil⟩
    clear hM hA
    rintro a w162 ⟨rfl, hM, hA⟩
    try dsimp only at H
    refine TN ?_
    refine wp_seq ?_
    refine wp_region_lit ?_
    refine L1 (stv hA (by decide) (run_assign (hA.ev rfl)) ?_)
    clear hA; intro a hA
    refine LQ ?_
    refine TN ?_
    refine wp_ret ?_
    obtain rfl := Option.some.inj H
    exact ret_post1 (fn := Try.f31) hA rfl rfl ⟨_, rfl, rfl, hM⟩

def address_Decode.l0 (r144 : (ByteArray × Bool)) : Nat → (List Int) → Int → Option (Out ((List Int) × Int) ((List Int)))
  | 0, _, _ => none
  | k + 1, xs220, t223 => (if (decide (t223 < ((((r144.1.size : Nat) : Int).toNat : Nat) : Int))) = true then (if 0 ≤ t223 ∧ t223 < ((r144.1.size : Nat) : Int) then ((strings_IndexByte.f k (⟨#[113, 112, 122, 114, 121, 57, 120, 56, 103, 102, 50, 116, 118, 100, 119, 48, 115, 51, 106, 110, 53, 52, 107, 104, 99, 101, 54, 109, 117, 97, 55, 108]⟩ : ByteArray) (sg r144.1 t223)).bind fun r234 => (if (decide (r234 < 0)) = true then (some (.ret (([] : List Int), 7))) else (if 0 ≤ t223 ∧ t223 < ((((r144.1.size : Nat) : Int).toNat : Nat) : Int) then (address_Decode.l0 r144 k (xs220.set t223.toNat (IntKind.u8.wrap r234)) (IntKind.i64.wrap (t223 + 1))) else none))) else none) else (some (.go xs220)))
def address_Decode.f (k : Nat) (prefix_0 : ByteArray) (s_1 : ByteArray) : Option ((List Int) × Int) := ((address_Prefix.f k prefix_0).bind fun r131 => (if (!r131) = true then (some (([] : List Int), 270)) else (if (decide (((s_1.size : Nat) : Int) > (IntKind.i64.wrap (((prefix_0.size : Nat) : Int) + 167)))) = true then (some (([] : List Int), 4)) else ((address_lower.f k s_1).bind fun r138 => (if r138.2 = true then (some (([] : List Int), 271)) else (if prefix_0.size + (⟨#[49]⟩ : ByteArray).size ≤ 140737488355328 then ((strings_CutPrefix.f k r138.1 (prefix_0 ++ (⟨#[49]⟩ : ByteArray))).bind fun r144 => (if (!r144.2) = true then (some (([] : List Int), 270)) else (if (decide (((r144.1.size : Nat) : Int) < 6)) = true then (some (([] : List Int), 1)) else (if 0 ≤ ((r144.1.size : Nat) : Int) ∧ ((r144.1.size : Nat) : Int) * 1 ≤ 140737488355328 then (Option.bind (α := Out ((List Int) × Int) ((List Int))) (address_Decode.l0 r144 k (List.replicate (((r144.1.size : Nat) : Int).toNat) (0 : Int)) 0) (fun o => match o with | .ret r => some r | .go xs226 => (if 0 ≤ (IntKind.i64.wrap (((((r144.1.size : Nat) : Int).toNat : Nat) : Int) - 6)) ∧ (IntKind.i64.wrap (((((r144.1.size : Nat) : Int).toNat : Nat) : Int) - 6)) ≤ ((((r144.1.size : Nat) : Int).toNat : Nat) : Int) then (if 0 ≤ (IntKind.i64.wrap (((((r144.1.size : Nat) : Int).toNat : Nat) : Int) - 6)) ∧ (IntKind.i64.wrap (((((r144.1.size : Nat) : Int).toNat : Nat) : Int) - 6)) ≤ ((((r144.1.size : Nat) : Int).toNat : Nat) : Int) then ((address_Checksum.f k prefix_0 (xs226.take ((IntKind.i64.wrap (((((r144.1.size : Nat) : Int).toNat : Nat) : Int) - 6)).toNat))).bind fun r252 => ((slices_Equal_byte.f k r252.toList (xs226.drop ((IntKind.i64.wrap (((((r144.1.size : Nat) : Int).toNat : Nat) : Int) - 6)).toNat))).bind fun r259 => (if (!r259) = true then (some (([] : List Int), 241)) else ((address_Back.f k (xs226.take ((IntKind.i64.wrap (((((r144.1.size : Nat) : Int).toNat : Nat) : Int) - 6)).toNat))).bind fun r264 => (some (r264.1, r264.2)))))) else none) else none))) else none)))) else none))))))
set_option maxRecDepth 100000 in
theorem address_Decode.calls (k : Nat) (prefix_0 : ByteArray) (s_1 : ByteArray) (F : List (Option Nat)) (r : ((List Int) × Int)) (w0 : World) (hM : Mem F w0 w0 []) (H : address_Decode.f k prefix_0 s_1 = some r) :
    Calls Try.prog 23 #[(.string prefix_0), (.string s_1)] w0 fun e w' => ∃ v, e = .returned v ∧ ∃ (ur_0 : Value), v = (.tuple #[ur_0, (.int .i64 r.2)]) ∧ Mem F w0 w' [.row 5 (Pl.int .u8).sz ur_0 ((Pl.int .u8).flat r.1)] := by
  unfold address_Decode.f at H
  refine enterL (n := 83) [(.string prefix_0), (.string s_1)] Try.func23 rfl rfl rfl ?_
  intro a hA
  refine wp_seq ?_
  refine wp_region_lit ?_
  refine L1 (stv hA (by decide) (run_assign (hA.ev rfl)) ?_)
  clear hA; intro a hA
  refine L1 (stv hA (by decide) (run_assign (hA.ev rfl)) ?_)
  clear hA; intro a hA
  refine LQ ?_
  refine TN ?_
  refine wp_seq ?_
  refine wp_seq ?_
  refine wp_region_lit ?_
  refine L1 (stv hA (by decide) (run_move (hA.ev rfl)) ?_)
  clear hA; intro a hA
  obtain ⟨r131, H132, H⟩ := Option.bind_eq_some_iff.1 H
  refine L1 (st_call Try.call17 hA [(.string prefix_0)] rfl (by decide) (address_Prefix.calls _ _ _ _ _ (hM.front (Ms := [])) H132) ?_)
  clear hA; rintro _ w133 ⟨rfl, hMc⟩ a hA
  have hE := hMc.below; have hM := hM.call (Ms := []) hMc
  clear hMc; simp only [List.cons_append, List.nil_append] at hM
  refine L1 (stv hA (by decide) (run_not (hA.ev rfl)) ?_)
  clear hA; intro a hA
  refine LQ ?_
  refine TN ?_
  refine tcond (b := (!r131)) hA rfl (fun hb134 => ?_) (fun hb134 => ?_)
  · replace H := ite_t hb134 H
    refine wp_seq ?_
    refine wp_region_lit ?_
    refine L1 (stv hA (by decide) (run_assign (hA.ev rfl)) ?_)
    clear hA; intro a hA
    refine L1 (stv hA (by decide) (run_assign (hA.ev rfl)) ?_)
    clear hA; intro a hA
    refine LQ ?_
    refine TN ?_
    refine wp_ret ?_
    have hM := hM.addnil 5 ((Pl.int .u8)).sz
    obtain rfl := Option.some.inj H
    refine TR ?_
    exact ret_post2 (fn := Try.f23) hA rfl rfl rfl ⟨_, rfl, (.slice none 0 0), rfl, hM⟩
  · replace H := ite_f hb134 H
    refine wp_skip ?_
    refine TN ?_
    refine wp_seq ?_
    refine wp_seq ?_
    refine wp_region_lit ?_
    refine L1 (stv hA (by decide) (run_move (hA.ev rfl)) ?_)
    clear hA; intro a hA
    refine L1 (stv hA (by decide) (run_len_str Try.underlying9 (hA.ev rfl)) ?_)
    clear hA; intro a hA
    refine L1 (stv hA (by decide) (run_move (hA.ev rfl)) ?_)
    clear hA; intro a hA
    refine L1 (stv hA (by decide) (run_len_str Try.underlying9 (hA.ev rfl)) ?_)
    clear hA; intro a hA
    refine L1 (stv hA (by decide) (run_bin (hA.ev rfl) (hA.ev rfl) (bin_add _ _ _ _)) ?_)
    clear hA; intro a hA
    refine L1 (stv hA (by decide) (run_bin (hA.ev rfl) (hA.ev rfl) (bin_gtr _ _ _ _)) ?_)
    clear hA; intro a hA
    refine LQ ?_
    refine TN ?_
    refine tcond (b := (decide (((s_1.size : Nat) : Int) > (IntKind.i64.wrap (((prefix_0.size : Nat) : Int) + 167))))) hA rfl (fun hb136 => ?_) (fun hb136 => ?_)
    · replace H := ite_t hb136 H
      refine wp_seq ?_
      refine wp_region_lit ?_
      refine L1 (stv hA (by decide) (run_assign (hA.ev rfl)) ?_)
      clear hA; intro a hA
      refine L1 (stv hA (by decide) (run_assign (hA.ev rfl)) ?_)
      clear hA; intro a hA
      refine LQ ?_
      refine TN ?_
      refine wp_ret ?_
      have hM := hM.addnil 5 ((Pl.int .u8)).sz
      obtain rfl := Option.some.inj H
      refine TR ?_
      exact ret_post2 (fn := Try.f23) hA rfl rfl rfl ⟨_, rfl, (.slice none 0 0), rfl, hM⟩
    · replace H := ite_f hb136 H
      refine wp_skip ?_
      refine TN ?_
      refine wp_seq ?_
      refine wp_region_lit ?_
      refine L1 (stv hA (by decide) (run_move (hA.ev rfl)) ?_)
      clear hA; intro a hA
      obtain ⟨r138, H139, H⟩ := Option.bind_eq_some_iff.1 H
      refine L1 (st_call Try.call28 hA [(.string s_1)] rfl (by decide) (address_lower.calls _ _ _ _ _ (hM.front (Ms := [])) H139) ?_)
      clear hA; rintro _ w140 ⟨rfl, hMc⟩ a hA
      have hE := hMc.below; have hM := hM.call (Ms := []) hMc
      clear hMc; simp only [List.cons_append, List.nil_append] at hM
      refine L1 (stv hA (by decide) (run_move (hA.ev rfl)) ?_)
      clear hA; intro a hA
      refine L1 (stv hA (by decide) (run_ext (hA.ev rfl) rfl) ?_)
      clear hA; intro a hA
      refine L1 (stv hA (by decide) (run_ext (hA.ev rfl) rfl) ?_)
      clear hA; intro a hA
      refine L1 (stv hA (by decide) (run_assign (hA.ev rfl)) ?_)
      clear hA; intro a hA
      refine L1 (stv hA (by decide) (run_assign (hA.ev rfl)) ?_)
      clear hA; intro a hA
      refine LQ ?_
      refine TN ?_
      refine wp_seq ?_
      refine wp_seq ?_
      refine wp_region_lit ?_
      refine L1 (stv hA (by decide) (run_move (hA.ev rfl)) ?_)
      clear hA; intro a hA
      refine LQ ?_
      refine TN ?_
      refine tcond (b := r138.2) hA rfl (fun hb141 => ?_) (fun hb141 => ?_)
      · replace H := ite_t hb141 H
        refine wp_seq ?_
        refine wp_region_lit ?_
        refine L1 (stv hA (by decide) (run_assign (hA.ev rfl)) ?_)
        clear hA; intro a hA
        refine L1 (stv hA (by decide) (run_assign (hA.ev rfl)) ?_)
        clear hA; intro a hA
        refine LQ ?_
        refine TN ?_
        refine wp_ret ?_
        have hM := hM.addnil 5 ((Pl.int .u8)).sz
        obtain rfl := Option.some.inj H
        refine TR ?_
        exact ret_post2 (fn := Try.f23) hA rfl rfl rfl ⟨_, rfl, (.slice none 0 0), rfl, hM⟩
      · replace H := ite_f hb141 H
        refine wp_skip ?_
        refine TN ?_
        refine wp_seq ?_
        refine wp_region_lit ?_
        refine L1 (stv hA (by decide) (run_move (hA.ev rfl)) ?_)
        clear hA; intro a hA
        refine L1 (stv hA (by decide) (run_move (hA.ev rfl)) ?_)
        clear hA; intro a hA
        obtain ⟨hs143, H⟩ := ite_some H
        refine L1 (stv hA (by decide) (run_catstr (hA.ev rfl) (hA.ev rfl) hs143) ?_)
        clear hA; intro a hA
        obtain ⟨r144, H145, H⟩ := Option.bind_eq_some_iff.1 H
        refine L1 (st_call Try.call29 hA [(.string r138.1), (.string (prefix_0 ++ (⟨#[49]⟩ : ByteArray)))] rfl (by decide) (strings_CutPrefix.calls _ _ _ _ _ _ (hM.front (Ms := [])) H145) ?_)
        clear hA; rintro _ w146 ⟨rfl, hMc⟩ a hA
        have hE := hMc.below; have hM := hM.call (Ms := []) hMc
        clear hMc; simp only [List.cons_append, List.nil_append] at hM
        refine L1 (stv hA (by decide) (run_move (hA.ev rfl)) ?_)
        clear hA; intro a hA
        refine L1 (stv hA (by decide) (run_ext (hA.ev rfl) rfl) ?_)
        clear hA; intro a hA
        refine L1 (stv hA (by decide) (run_ext (hA.ev rfl) rfl) ?_)
        clear hA; intro a hA
        refine L1 (stv hA (by decide) (run_assign (hA.ev rfl)) ?_)
        clear hA; intro a hA
        refine L1 (stv hA (by decide) (run_assign (hA.ev rfl)) ?_)
        clear hA; intro a hA
        refine LQ ?_
        refine TN ?_
        refine wp_seq ?_
        refine wp_seq ?_
        refine wp_region_lit ?_
        refine L1 (stv hA (by decide) (run_move (hA.ev rfl)) ?_)
        clear hA; intro a hA
        refine L1 (stv hA (by decide) (run_not (hA.ev rfl)) ?_)
        clear hA; intro a hA
        refine LQ ?_
        refine TN ?_
        refine tcond (b := (!r144.2)) hA rfl (fun hb147 => ?_) (fun hb147 => ?_)
        · replace H := ite_t hb147 H
          refine wp_seq ?_
          refine wp_region_lit ?_
          refine L1 (stv hA (by decide) (run_assign (hA.ev rfl)) ?_)
          clear hA; intro a hA
          refine L1 (stv hA (by decide) (run_assign (hA.ev rfl)) ?_)
          clear hA; intro a hA
          refine LQ ?_
          refine TN ?_
          refine wp_ret ?_
          have hM := hM.addnil 5 ((Pl.int .u8)).sz
          obtain rfl := Option.some.inj H
          refine TR ?_
          exact ret_post2 (fn := Try.f23) hA rfl rfl rfl ⟨_, rfl, (.slice none 0 0), rfl, hM⟩
        · replace H := ite_f hb147 H
          refine wp_skip ?_
          refine TN ?_
          refine wp_seq ?_
          refine wp_seq ?_
          refine wp_region_lit ?_
          refine L1 (stv hA (by decide) (run_move (hA.ev rfl)) ?_)
          clear hA; intro a hA
          refine L1 (stv hA (by decide) (run_len_str Try.underlying9 (hA.ev rfl)) ?_)
          clear hA; intro a hA
          refine L1 (stv hA (by decide) (run_bin (hA.ev rfl) (hA.ev rfl) (bin_lss _ _ _ _)) ?_)
          clear hA; intro a hA
          refine LQ ?_
          refine TN ?_
          refine tcond (b := (decide (((r144.1.size : Nat) : Int) < 6))) hA rfl (fun hb149 => ?_) (fun hb149 => ?_)
          · replace H := ite_t hb149 H
            refine wp_seq ?_
            refine wp_region_lit ?_
            refine L1 (stv hA (by decide) (run_assign (hA.ev rfl)) ?_)
            clear hA; intro a hA
            refine L1 (stv hA (by decide) (run_assign (hA.ev rfl)) ?_)
            clear hA; intro a hA
            refine LQ ?_
            refine TN ?_
            refine wp_ret ?_
            have hM := hM.addnil 5 ((Pl.int .u8)).sz
            obtain rfl := Option.some.inj H
            refine TR ?_
            exact ret_post2 (fn := Try.f23) hA rfl rfl rfl ⟨_, rfl, (.slice none 0 0), rfl, hM⟩
          · replace H := ite_f hb149 H
            refine wp_skip ?_
            refine TN ?_
            refine wp_seq ?_
            refine wp_region_lit ?_
            refine L1 (stv hA (by decide) (run_move (hA.ev rfl)) ?_)
            clear hA; intro a hA
            refine L1 (stv hA (by decide) (run_len_str Try.underlying9 (hA.ev rfl)) ?_)
            clear hA; intro a hA
            obtain ⟨⟨hi152, hj153⟩, H⟩ := ite_some H
            refine L1 (e_make elt22 rfl hM hA rfl rfl hi152 hj153 (by decide) ?_)
            clear hM hA; intro w154 g151 hM hE  a hA
            refine L1 (stv hA (by decide) (run_assign (hA.ev rfl)) ?_)
            clear hA; intro a hA
            refine LQ ?_
            refine TN ?_
            refine wp_seq ?_
            refine wp_seq ?_
            refine wp_region_lit ?_
            refine L1 (stv hA (by decide) (run_move (hA.ev rfl)) ?_)
            clear hA; intro a hA
            refine L1 (stv hA (by decide) (run_len_slice Try.underlying22 (hA.ev rfl)) ?_)
            clear hA; intro a hA
            refine L1 (stv hA (by decide) (run_move (hA.ev rfl)) ?_)
            clear hA; intro a hA
            refine LQ ?_
            refine TN ?_
            obtain ⟨o228, H227, H⟩ := Option.bind_eq_some_iff.1 H
            refine cutC (fun a w => ∃ (xs226 : (List Int)), (.go xs226) = o228 ∧ Mem F w0 w [.row 5 (Pl.int .u8).sz (.slice (some ⟨g151, 0, none⟩) (((r144.1.size : Nat) : Int).toNat) (((r144.1.size : Nat) : Int).toNat)) ((Pl.int .u8).flat xs226)] ∧ Has 83 [(0, (.string prefix_0)), (9, (.slice (some ⟨g151, 0, none⟩) (((r144.1.size : Nat) : Int).toNat) (((r144.1.size : Nat) : Int).toNat)))] a) ?_ ?_
            · refine wp_block ?_
              refine wp_loop_ghost (fun m a w => ∃ (xs220 : (List Int)) (t223 : Int), address_Decode.l0 r144 m xs220 t223 = some o228 ∧ Mem F w0 w [.row 5 (Pl.int .u8).sz (.slice (some ⟨g151, 0, none⟩) (((r144.1.size : Nat) : Int).toNat) (((r144.1.size : Nat) : Int).toNat)) ((Pl.int .u8).flat xs220)] ∧ Has 83 [(0, (.string prefix_0)), (7, (.string r144.1)), (9, (.slice (some ⟨g151, 0, none⟩) (((r144.1.size : Nat) : Int).toNat) (((r144.1.size : Nat) : Int).toNat))), (46, (.int .i64 ((((r144.1.size : Nat) : Int).toNat : Nat) : Int))), (47, (.int .i64 t223))] a) k ⟨(List.replicate (((r144.1.size : Nat) : Int).toNat) (0 : Int)), 0, H227, hM, (((((hA.nil.cons (hA.get 47 _ rfl)).cons (hA.get 46 _ rfl)).cons (hA.get 9 _ rfl)).cons (hA.get 7 _ rfl)).cons (hA.get 0 _ rfl))⟩ ?_
              clear hM hA; rintro m229 a w230 ⟨xs220, t223, H227, hM, hA⟩
              cases m229 with
              | zero => exact absurd H227 (by simp [address_Decode.l0])
              | succ m229 =>
              rw [address_Decode.l0] at H227
              refine wp_seq ?_
              refine wp_region_lit ?_
              refine L1 (stv hA (by decide) (run_bin (hA.ev rfl) (hA.ev rfl) (bin_lss _ _ _ _)) ?_)
              clear hA; intro a hA
              refine LQ ?_
              refine TN ?_
              refine wp_seq ?_
              refine tcond (b := (decide (t223 < ((((r144.1.size : Nat) : Int).toNat : Nat) : Int)))) hA rfl (fun hb231 => ?_) (fun hb231 => ?_)
              · replace H227 := ite_t hb231 H227
                refine wp_skip ?_
                refine TN ?_
                refine wp_seq ?_
                refine wp_block ?_
                refine wp_seq ?_
                refine wp_region_lit ?_
                refine L1 (stv hA (by decide) (run_move (hA.ev rfl)) ?_)
                clear hA; intro a hA
                refine L1 (stv hA (by decide) (run_assign (hA.ev rfl)) ?_)
                clear hA; intro a hA
                refine LQ ?_
                refine TN ?_
                refine wp_seq ?_
                refine wp_region_lit ?_
                refine L1 (stv hA (by decide) (run_move (hA.ev rfl)) ?_)
                clear hA; intro a hA
                refine L1 (stv hA (by decide) (run_move (hA.ev rfl)) ?_)
                clear hA; intro a hA
                obtain ⟨⟨hi232, hj233⟩, H227⟩ := ite_some H227
                refine L1 (stv hA (by decide) (run_index_str Try.underlying9 (hA.ev rfl) (hA.ev rfl) hi232 hj233) ?_)
                clear hA; intro a hA
                obtain ⟨r234, H235, H227⟩ := Option.bind_eq_some_iff.1 H227
                refine L1 (st_call Try.call30 hA [(.string (⟨#[113, 112, 122, 114, 121, 57, 120, 56, 103, 102, 50, 116, 118, 100, 119, 48, 115, 51, 106, 110, 53, 52, 107, 104, 99, 101, 54, 109, 117, 97, 55, 108]⟩ : ByteArray)), (.int .u8 (sg r144.1 t223))] rfl (by decide) (strings_IndexByte.calls _ _ _ _ _ _ (hM.front (Ms := [])) H235) ?_)
                clear hA; rintro _ w236 ⟨rfl, hMc⟩ a hA
                have hE := hMc.below; have hM := hM.call (Ms := []) hMc
                clear hMc; simp only [List.cons_append, List.nil_append] at hM
                refine L1 (stv hA (by decide) (run_assign (hA.ev rfl)) ?_)
                clear hA; intro a hA
                refine LQ ?_
                refine TN ?_
                refine wp_seq ?_
                refine wp_seq ?_
                refine wp_region_lit ?_
                refine L1 (stv hA (by decide) (run_move (hA.ev rfl)) ?_)
                clear hA; intro a hA
                refine L1 (stv hA (by decide) (run_bin (hA.ev rfl) (hA.ev rfl) (bin_lss _ _ _ _)) ?_)
                clear hA; intro a hA
                refine LQ ?_
                refine TN ?_
                refine tcond (b := (decide (r234 < 0))) hA rfl (fun hb237 => ?_) (fun hb237 => ?_)
                · replace H227 := ite_t hb237 H227
                  refine wp_seq ?_
                  refine wp_region_lit ?_
                  refine L1 (stv hA (by decide) (run_assign (hA.ev rfl)) ?_)
                  clear hA; intro a hA
                  refine L1 (stv hA (by decide) (run_assign (hA.ev rfl)) ?_)
                  clear hA; intro a hA
                  refine LQ ?_
                  refine TN ?_
                  refine wp_ret ?_
                  have hM := hM.addnil 5 ((Pl.int .u8)).sz
                  obtain rfl := Option.some.inj H227
                  dsimp only at H
                  obtain rfl := Option.some.inj H
                  refine TR ?_
                  refine BR ?_
                  refine TR ?_
                  refine TR ?_
                  refine BR ?_
                  refine TR ?_
                  refine TR ?_
                  exact ret_post2 (fn := Try.f23) hA rfl rfl rfl ⟨_, rfl, (.slice none 0 0), rfl, (hM.sel [0] rfl (by decide))⟩
                · replace H227 := ite_f hb237 H227
                  refine wp_skip ?_
                  refine TN ?_
                  refine wp_region_lit ?_
                  refine L1 (stv hA (by decide) (run_move (hA.ev rfl)) ?_)
                  clear hA; intro a hA
                  refine L1 (stv hA (by decide) (run_move (hA.ev rfl)) ?_)
                  clear hA; intro a hA
                  refine L1 (stv hA (by decide) (run_move (hA.ev rfl)) ?_)
                  clear hA; intro a hA
                  refine L1 (stv hA (by decide) (run_conv Try.underlying3 Try.underlying5 (hA.ev rfl)) ?_)
                  clear hA; intro a hA
                  obtain ⟨⟨hi239, hj240⟩, H227⟩ := ite_some H227
                  obtain ⟨ad241, hq242, hat243⟩ := Row.elem' (p := (Pl.int .u8)) (RowOk.row (hM.row (p := (Pl.int .u8)) .z)) (RowOk.len (hM.row (p := (Pl.int .u8)) .z)) (0 : Int) t223 hi239 hj240
                  refine L1 (stv hA (by decide) (run_idx Try.underlying22 Try.sizeOf5 (hA.ev rfl) hq242 (hA.ev rfl) hi239 hj240) ?_)
                  clear hA; intro a hA
                  refine L1 (e_setrow (x1 := (xs220.getD t223.toNat (0 : Int))) (y1 := IntKind.u8.wrap r234) (off := 0) hM .z Try.sizeOf5 hA rfl rfl hq242 rfl (by first | rfl | simp [Value.cells, Pl.len]) (one_val rfl) hi239 hj240 (getD_getD _ _ _) (by decide) (spl_all (by first | rfl | simp [Value.cells, Pl.len] | (simp only [Value.cells, Pl.len, List.length_cons, List.length_nil]; done))) ?_)
                  clear hM hA; intro w244  hM hE  a hA
                  refine LQ ?_
                  refine BN ?_
                  refine TN ?_
                  refine wp_region_lit ?_
                  refine L1 (stv hA (by decide) (run_bin (hA.ev rfl) (hA.ev rfl) (bin_add _ _ _ _)) ?_)
                  clear hA; intro a hA
                  refine L1 (stv hA (by decide) (run_move (hA.ev rfl)) ?_)
                  clear hA; intro a hA
                  refine LQ ?_
                  exact ⟨_, Nat.lt_succ_self m229, (xs220.set t223.toNat (IntKind.u8.wrap r234)), IntKind.i64.wrap (t223 + 1), H227, hM, (((((hA.nil.cons (hA.get 47 _ rfl)).cons (hA.get 46 _ rfl)).cons (hA.get 9 _ rfl)).cons (hA.get 7 _ rfl)).cons (hA.get 0 _ rfl))⟩
              · replace H227 := ite_f hb231 H227
                refine wp_exit ?_
                refine TX ?_
                refine TX ?_
                refine BX ?_
                exact ⟨xs220, Option.some.inj H227, hM, ((hA.nil.cons (hA.get 9 _ rfl)).cons (hA.get 0 _ rfl))⟩
            clear hM hA
            rintro a w245 ⟨xs226, rfl, hM, hA⟩
            try dsimp only at H
            refine TN ?_
            refine wp_seq ?_
            refine draw (fun w' => Below w245.heap.size w245 w') [] rfl ?_
            intro w246 hw hS; replace hM := hM.ext hS; clear hw
            refine d_takef (i := 0) (L' := #[true, false, false, false, false, false, false, false, false, false, false, false]) rfl (by kernel_rfl) rfl (fun _ _ _ h => h) hA (by decide) (fun _ => hS) (fun a w' hA => run_move (hA.ev rfl)) ?_; clear hA; intro a hA
            refine d_takef (i := 1) (L' := #[true, true, false, false, false, false, false, false, false, false, false, false]) rfl (by kernel_rfl) rfl (fun _ _ _ h => h) hA (by decide) (fun _ => hS) (fun a w' hA => run_move (hA.ev rfl)) ?_; clear hA; intro a hA
            refine d_takef (i := 2) (L' := #[true, true, true, false, false, false, false, false, false, false, false, false]) rfl (by kernel_rfl) rfl (fun _ _ _ h => h) hA (by decide) (fun _ => hS) (fun a w' hA => run_len_slice Try.underlying22 (hA.ev rfl)) ?_; clear hA; intro a hA
            refine d_takef (i := 3) (L' := #[true, true, true, true, false, false, false, false, false, false, false, false]) rfl (by kernel_rfl) rfl (fun _ _ _ h => h) hA (by decide) (fun _ => hS) (fun a w' hA => run_bin (hA.ev rfl) (hA.ev rfl) (bin_sub _ _ _ _)) ?_; clear hA; intro a hA
            obtain ⟨⟨hi248, hj249⟩, H⟩ := ite_some H
            refine d_takef (i := 4) (L' := #[true, true, true, true, true, false, false, false, false, false, false, false]) rfl (by kernel_rfl) rfl (fun _ _ _ h => h) hA (by decide) (fun _ => hS) (fun a w' hA => run_hi Try.underlying22 Try.sizeOf5 (RowOk.cap (hM.row (p := (Pl.int .u8)) .z)) hi248 hj249 (hA.ev rfl) (hA.ev rfl)) ?_; clear hA; intro a hA
            refine d_takef (i := 5) (L' := #[true, true, true, true, true, true, false, false, false, false, false, false]) rfl (by kernel_rfl) rfl (fun _ _ _ h => h) hA (by decide) (fun _ => hS) (fun a w' hA => run_move (hA.ev rfl)) ?_; clear hA; intro a hA
            refine d_takef (i := 6) (L' := #[true, true, true, true, true, true, true, false, false, false, false, false]) rfl (by kernel_rfl) rfl (fun _ _ _ h => h) hA (by decide) (fun _ => hS) (fun a w' hA => run_move (hA.ev rfl)) ?_; clear hA; intro a hA
            refine d_takef (i := 7) (L' := #[true, true, true, true, true, true, true, true, false, false, false, false]) rfl (by kernel_rfl) rfl (fun _ _ _ h => h) hA (by decide) (fun _ => hS) (fun a w' hA => run_len_slice Try.underlying22 (hA.ev rfl)) ?_; clear hA; intro a hA
            refine d_takef (i := 8) (L' := #[true, true, true, true, true, true, true, true, true, false, false, false]) rfl (by kernel_rfl) rfl (fun _ _ _ h => h) hA (by decide) (fun _ => hS) (fun a w' hA => run_bin (hA.ev rfl) (hA.ev rfl) (bin_sub _ _ _ _)) ?_; clear hA; intro a hA
            obtain ⟨⟨hi250, hj251⟩, H⟩ := ite_some H
            refine d_takef (i := 9) (L' := #[true, true, true, true, true, true, true, true, true, true, false, false]) rfl (by kernel_rfl) rfl (fun _ _ _ h => h) hA (by decide) (fun _ => hS) (fun a w' hA => run_lo Try.underlying22 Try.sizeOf5 (RowOk.cap (hM.row (p := (Pl.int .u8)) .z)) hi250 hj251 (hA.ev rfl) (hA.ev rfl)) ?_; clear hA; intro a hA
            refine d_takef (i := 10) (L' := #[true, true, true, true, true, true, true, true, true, true, true, false]) rfl (by kernel_rfl) rfl (fun _ _ _ h => h) hA (by decide) (fun _ => hS) (fun a w' hA => run_assign (hA.ev rfl)) ?_; clear hA; intro a hA
            refine d_takef (i := 11) (L' := #[true, true, true, true, true, true, true, true, true, true, true, true]) rfl (by kernel_rfl) rfl (fun _ _ _ h => h) hA (by decide) (fun _ => hS) (fun a w' hA => run_assign (hA.ev rfl)) ?_; clear hA; intro a hA
            refine d_done (by kernel_rfl) ?_
            refine TN ?_
            refine wp_seq ?_
            refine wp_seq ?_
            refine wp_region_lit ?_
            refine L1 (stv hA (by decide) (run_move (hA.ev rfl)) ?_)
            clear hA; intro a hA
            refine L1 (stv hA (by decide) (run_move (hA.ev rfl)) ?_)
            clear hA; intro a hA
            obtain ⟨r252, H253, H⟩ := Option.bind_eq_some_iff.1 H
            refine L1 (st_call Try.call19 hA [(.string prefix_0), (.slice (some ⟨g151, 0, none⟩) ((IntKind.i64.wrap (((((r144.1.size : Nat) : Int).toNat : Nat) : Int) - 6)).toNat) (((r144.1.size : Nat) : Int).toNat))] rfl (by decide) (address_Checksum.calls _ _ _ _ _ _ _ ((RoV.mk (Ro.take (hM.rowC (p := (Pl.int .u8)) (Ms := []) .z) ((IntKind.i64.wrap (((((r144.1.size : Nat) : Int).toNat : Nat) : Int) - 6)).toNat)) (len_take (RowOk.len (hM.row (p := (Pl.int .u8)) .z)) (by omega)) (by have hh1 := (RowOk.cap (hM.row (p := (Pl.int .u8)) .z)); omega))) (hM.front (Ms := [])) H253) ?_)
            clear hA; rintro _ w254 ⟨rfl, hMc⟩ a hA
            have hE := hMc.below; have hM := hM.call (Ms := []) hMc
            clear hMc; simp only [List.cons_append, List.nil_append] at hM
            refine L1 (e_alloc (cs := (pA6u8.enc (Vector.replicate 6 0 : Vector Int 6))) hM zero34 rfl hA (by decide) ?_)
            clear hM hA; intro w256 g255 hM hE  a hA
            refine L1 (e_store (g := g255) (off := 0) (cur := (pA6u8.enc (Vector.replicate 6 0 : Vector Int 6))) (cs' := (pA6u8.enc r252)) hM .z Try.sizeOf34 hA rfl (by simp [add_mk]) rfl (agg_size _ _) (agg_one _ _) (Nat.le_of_ble_eq_true (enc_fitL _ _ rfl)) (spl_all (by first | rfl | simp [Value.cells, Pl.len])) ?_)
            clear hM hA; intro w258  hM hE  a hA
            refine LQ ?_
            refine TN ?_
            refine wp_seq ?_
            refine wp_region_lit ?_
            refine L1 (stv hA (by decide) (run_arr0 Try.underlying34 Try.sizeOf5 6 (fun z hz => by cases hz) (fun _ => rfl) (fun z hz => by cases hz) (fun _ => rfl) (hA.ev rfl) (by decide)) ?_)
            clear hA; intro a hA
            refine L1 (stv hA (by decide) (run_move (hA.ev rfl)) ?_)
            clear hA; intro a hA
            obtain ⟨r259, H260, H⟩ := Option.bind_eq_some_iff.1 H
            refine L1 (st_call Try.call31 hA [(.slice (some (⟨g255, 0, none⟩)) 6 6), (.slice (adrop (some ⟨g151, 0, none⟩) (((r144.1.size : Nat) : Int).toNat) ((IntKind.i64.wrap (((((r144.1.size : Nat) : Int).toNat : Nat) : Int) - 6)).toNat) 1) (((r144.1.size : Nat) : Int).toNat - (IntKind.i64.wrap (((((r144.1.size : Nat) : Int).toNat : Nat) : Int) - 6)).toNat) (((r144.1.size : Nat) : Int).toNat - (IntKind.i64.wrap (((((r144.1.size : Nat) : Int).toNat : Nat) : Int) - 6)).toNat))] rfl (by decide) (slices_Equal_byte.calls _ _ _ _ _ _ _ _ ((RoV.mk (hM.arrC (Ms := []) .z rfl (Row.arr (hM.box .z))) (vlen r252) (Nat.le_refl 6))) ((RoV.mk (Ro.drop (c := ((r144.1.size : Nat) : Int).toNat) (hM.rowC (p := (Pl.int .u8)) (Ms := []) (.s .z)) (by have hh1 := (RowOk.len (hM.row (p := (Pl.int .u8)) (.s .z))); omega) (by have hh1 := (RowOk.len (hM.row (p := (Pl.int .u8)) (.s .z))); have hh2 := (RowOk.cap (hM.row (p := (Pl.int .u8)) (.s .z))); omega)) (len_drop (RowOk.len (hM.row (p := (Pl.int .u8)) (.s .z)))) (by have hh1 := (RowOk.cap (hM.row (p := (Pl.int .u8)) (.s .z))); omega))) (hM.front (Ms := [])) H260) ?_)
            clear hA; rintro _ w261 ⟨rfl, hMc⟩ a hA
            have hE := hMc.below; have hM := hM.call (Ms := []) hMc
            clear hMc; simp only [List.cons_append, List.nil_append] at hM
            refine L1 (stv hA (by decide) (run_not (hA.ev rfl)) ?_)
            clear hA; intro a hA
            refine LQ ?_
            refine TN ?_
            refine tcond (b := (!r259)) hA rfl (fun hb262 => ?_) (fun hb262 => ?_)
            · replace H := ite_t hb262 H
              refine wp_seq ?_
              refine wp_region_lit ?_
              refine L1 (stv hA (by decide) (run_assign (hA.ev rfl)) ?_)
              clear hA; intro a hA
              refine L1 (stv hA (by decide) (run_assign (hA.ev rfl)) ?_)
              clear hA; intro a hA
              refine LQ ?_
              refine TN ?_
              refine wp_ret ?_
              have hM := hM.addnil 5 ((Pl.int .u8)).sz
              obtain rfl := Option.some.inj H
              refine TR ?_
              exact ret_post2 (fn := Try.f23) hA rfl rfl rfl ⟨_, rfl, (.slice none 0 0), rfl, (hM.sel [0] rfl (by decide))⟩
            · replace H := ite_f hb262 H
              refine wp_skip ?_
              refine TN ?_
              refine wp_seq ?_
              refine wp_region_lit ?_
              refine L1 (stv hA (by decide) (run_move (hA.ev rfl)) ?_)
              clear hA; intro a hA
              obtain ⟨r264, H265, H⟩ := Option.bind_eq_some_iff.1 H
              refine L1 (st_call Try.call11 hA [(.slice (some ⟨g151, 0, none⟩) ((IntKind.i64.wrap (((((r144.1.size : Nat) : Int).toNat : Nat) : Int) - 6)).toNat) (((r144.1.size : Nat) : Int).toNat))] rfl (by decide) (address_Back.calls _ _ _ _ _ _ ((RoV.mk (Ro.take (hM.rowC (p := (Pl.int .u8)) (Ms := []) (.s .z)) ((IntKind.i64.wrap (((((r144.1.size : Nat) : Int).toNat : Nat) : Int) - 6)).toNat)) (len_take (RowOk.len (hM.row (p := (Pl.int .u8)) (.s .z))) (by omega)) (by have hh1 := (RowOk.cap (hM.row (p := (Pl.int .u8)) (.s .z))); omega))) (hM.front (Ms := [])) H265) ?_)
              clear hA; rintro _ w266 ⟨v267, rfl, hMc⟩ a hA
              have hE := hMc.below; have hM := hM.call (Ms := []) hMc
              clear hMc; simp only [List.cons_append, List.nil_append] at hM
              obtain ⟨A269, c270, rfl⟩ := RowOk.form (hM.row (p := (Pl.int .u8)) .z)
              refine L1 (stv hA (by decide) (run_ext (hA.ev rfl) rfl) ?_)
              clear hA; intro a hA
              refine L1 (stv hA (by decide) (run_ext (hA.ev rfl) rfl) ?_)
              clear hA; intro a hA
              refine L1 (stv hA (by decide) (run_assign (hA.ev rfl)) ?_)
              clear hA; intro a hA
              refine L1 (stv hA (by decide) (run_assign (hA.ev rfl)) ?_)
              clear hA; intro a hA
              refine LQ ?_
              refine TN ?_
              refine wp_ret ?_
              obtain rfl := Option.some.inj H
              exact ret_post2 (fn := Try.f23) hA rfl rfl rfl ⟨_, rfl, (.slice A269 r264.1.length c270), rfl, (hM.sel [0] rfl (by decide))⟩

end Go.Proofs.Ytmopbcfjnnchgaa.G
