/- The functions that a law of this seat reaches: what each comes to, as a plain function, and that its code comes to it. Conditions: the plain function gives a value (enough fuel, no panic). -/
import Derived.Test.YtnhgfdinnbadeaaFRelayFluffsx0
set_option linter.unusedVariables false
set_option linter.unusedSimpArgs false
namespace Go.Proofs.Ytnhgfdinnbadeaa.G
open Go Go.RowKit Go.Proofs
def mill_Relay.l0 (d_0 : lightclientmill_Deck) : Nat → Int → (List Int) → Int → Option (Int × (List Int))
  | 0, _, _, _ => none
  | k + 1, x5712, xs5719, t5721 => (if (decide (t5721 > 0)) = true then (Option.bind (α := Int × (List Int)) ((mill_Deck_Next.f k (lightclientmill_Deck.mk d_0.L x5712) 3).bind fun r5833 => (if (xs5719.length + 1) * 8 ≤ 140737488355328 then (some (r5833.2.At_, (xs5719 ++ [IntKind.i64.wrap ((IntKind.i64.wrap (3 * ((xs5719.length : Nat) : Int))) + r5833.1)]))) else none)) (fun st => match st with | (x5822, xs5828) => (mill_Relay.l0 d_0 k x5822 xs5828 (IntKind.i64.wrap (t5721 - 1))))) else (some (x5712, xs5719)))
def mill_Relay.l1 (d_0 : lightclientmill_Deck) : Nat → Int → (List Stem) → (List (Vector Int 32)) → Int → Option ((List Stem) × (List (Vector Int 32)) × Int)
  | 0, _, _, _, _ => none
  | k + 1, x9149, xs9156, xs9161, t9163 => (if (decide (t9163 < 8)) = true then ((mill_Deck_Next.f k (lightclientmill_Deck.mk d_0.L x9149) 3).bind fun r9188 => (Option.bind (α := Int × (List Stem) × (List (Vector Int 32))) (if (r9188.1 == 0) = true then (Option.bind (α := Int × (List Stem)) ((mill_Deck_Next.f k (lightclientmill_Deck.mk d_0.L r9188.2.At_) 5).bind fun r9985 => ((mill_Deck_Next.f k (lightclientmill_Deck.mk d_0.L r9985.2.At_) 5).bind fun r9988 => ((mill_Deck_Next.f k (lightclientmill_Deck.mk d_0.L r9988.2.At_) 50).bind fun r9991 => (if (xs9156.length + 1) * 56 ≤ 140737488355328 then (some (r9991.2.At_, (xs9156 ++ [(Stem.mk (((Vector.replicate 32 0 : Vector Int 32).setIfInBounds 0 (IntKind.u8.wrap t9163))) (IntKind.i64.wrap (r9985.1 - 1)) r9988.1 (IntKind.u32.wrap r9991.1))]))) else none)))) (fun st => match st with | (x9974, xs9980) => (some (x9974, xs9980, xs9161)))) else (if (r9188.1 == 1) = true then (if (xs9161.length + 1) * 32 ≤ 140737488355328 then (some (r9188.2.At_, xs9156, (xs9161 ++ [(((Vector.replicate 32 0 : Vector Int 32).setIfInBounds 0 (IntKind.u8.wrap t9163)))]))) else none) else (some (r9188.2.At_, xs9156, xs9161)))) (fun st => match st with | (x9710, xs9716, xs9720) => (mill_Relay.l1 d_0 k x9710 xs9716 xs9720 (IntKind.i64.wrap (t9163 + 1)))))) else (some (xs9156, xs9161, x9149)))
def mill_Relay.f (k : Nat) (d_0 : lightclientmill_Deck) : Option (Relay × lightclientmill_Deck) := ((mill_Deck_Next.f k (lightclientmill_Deck.mk d_0.L d_0.At_) 99).bind fun r5126 => ((mill_Deck_Next.f k (lightclientmill_Deck.mk d_0.L r5126.2.At_) 3).bind fun r5129 => ((mill_Deck_Next.f k (lightclientmill_Deck.mk d_0.L r5129.2.At_) 3).bind fun r5136 => (Option.bind (α := Int × (List Int)) (mill_Relay.l0 d_0 k r5136.2.At_ ([] : List Int) r5136.1) (fun st => match st with | (x5723, xs5730) => (Option.bind (α := (List Stem) × (List (Vector Int 32)) × Int) (mill_Relay.l1 d_0 k x5723 ([] : List Stem) ([] : List (Vector Int 32)) 0) (fun st => match st with | (xs9170, xs9175, x9176) => (some ((Relay.mk (IntKind.u32.wrap r5126.1) (r5129.1 == 0) xs5730 xs9170 xs9175), (lightclientmill_Deck.mk d_0.L x9176))))))))))
set_option maxRecDepth 100000 in
theorem mill_Relay.calls (k : Nat) (d_0 : lightclientmill_Deck) (F : List (Option Nat)) (g0 : Nat) (v0_0 : Value) (r : (Relay × lightclientmill_Deck)) (w0 : World) (h0_0 : RoV F (Pl.int .i64) w0 v0_0 d_0.L) (hM : Mem F w0 w0 [.box g0 63 [v0_0, (.int .i64 d_0.At_)]]) (H : mill_Relay.f k d_0 = some r) :
    Calls Try.prog 12 #[(.pointer (some (⟨g0, 0, none⟩)))] w0 fun e w' => ∃ v, e = .returned v ∧ ∃ (ur_0_2 : Value) (ur_0_3 : Value) (ur_0_4 : Value), v = (.agg #[(.int .u32 r.1.Epoch), (.bool r.1.Diffuse), ur_0_2, ur_0_3, ur_0_4]) ∧ Mem F w0 w' [.box g0 63 [v0_0, (.int .i64 r.2.At_)], .row 3 (Pl.int .i64).sz ur_0_2 ((Pl.int .i64).flat r.1.Routes), .row 61 pStem.sz ur_0_3 (pStem.flat r.1.Stems), .row 34 pHash.sz ur_0_4 (pHash.flat r.1.Fluffed)] := by
  unfold mill_Relay.f at H
  obtain ⟨A0_0, c0_0, rfl, hr0_0, hc0_0⟩ := h0_0
  refine enterL (n := 67) [(.pointer (some (⟨g0, 0, none⟩)))] Try.func12 rfl rfl rfl ?_
  intro a hA
  refine wp_seq ?_
  refine wp_region_lit ?_
  refine L1 (e_alloc (cs := [(.int .u32 0), (.bool false), (.slice none 0 0), (.slice none 0 0), (.slice none 0 0)]) hM zero39 rfl hA (by decide) ?_)
  clear hM hA; intro w5124 g5123 hM hE  a hA
  refine LQ ?_
  refine TN ?_
  refine wp_seq ?_
  refine wp_region_lit ?_
  refine L1 (stv hA (by decide) (run_move (hA.ev rfl)) ?_)
  clear hA; intro a hA
  have hM := hM.sel [1, 0] rfl (by decide)
  obtain ⟨r5126, H5127, H⟩ := Option.bind_eq_some_iff.1 H
  refine L1 (st_call Try.call23 hA [(.pointer (some (⟨g0, 0, none⟩))), (.int .i64 99)] rfl (by decide) (mill_Deck_Next.calls _ (lightclientmill_Deck.mk d_0.L d_0.At_) _ _ _ _ _ _ ((RoV.mk (hM.roC (Ms := [_]) hr0_0) (Eq.refl d_0.L.length) hc0_0)) (hM.front (Ms := [_])) H5127) ?_)
  clear hA; rintro _ w5128 ⟨rfl, hMc⟩ a hA
  have hM := hM.call (Ms := [_]) hMc
  clear hMc; simp only [List.cons_append, List.nil_append] at hM
  refine L1 (stv hA (by decide) (run_conv Try.underlying3 Try.underlying35 (hA.ev rfl)) ?_)
  clear hA; intro a hA
  refine L1 (stv hA (by decide) (run_move (hA.ev rfl)) ?_)
  clear hA; intro a hA
  obtain ⟨r5129, H5130, H⟩ := Option.bind_eq_some_iff.1 H
  refine L1 (st_call Try.call23 hA [(.pointer (some (⟨g0, 0, none⟩))), (.int .i64 3)] rfl (by decide) (mill_Deck_Next.calls _ (lightclientmill_Deck.mk d_0.L r5126.2.At_) _ _ _ _ _ _ ((RoV.mk (hM.roC (Ms := [_]) hr0_0) (Eq.refl d_0.L.length) hc0_0)) (hM.front (Ms := [_])) H5130) ?_)
  clear hA; rintro _ w5131 ⟨rfl, hMc⟩ a hA
  have hM := hM.call (Ms := [_]) hMc
  clear hMc; simp only [List.cons_append, List.nil_append] at hM
  refine L1 (stv hA (by decide) (run_bin (hA.ev rfl) (hA.ev rfl) (bin_eql _ _ _ _)) ?_)
  clear hA; intro a hA
  refine L1 (stv hA (by decide) (run_build (cells := #[(.int .u32 (IntKind.u32.wrap r5126.1)), (.bool (r5129.1 == 0)), (.slice none 0 0), (.slice none 0 0), (.slice none 0 0)]) [(0, (.int .u32 (IntKind.u32.wrap r5126.1))), (1, (.bool (r5129.1 == 0)))] zero39 Try.underlying39 (ss := [1, 1, 1, 1, 1]) ⟨Try.sizeOf35, Try.sizeOf4, Try.sizeOf22, Try.sizeOf36, Try.sizeOf37, trivial⟩ hA rfl (by rfl)) ?_)
  clear hA; intro a hA
  refine L1 (e_alloc (cs := [(.int .u32 0), (.bool false), (.slice none 0 0), (.slice none 0 0), (.slice none 0 0)]) hM zero39 rfl hA (by decide) ?_)
  clear hM hA; intro w5133 g5132 hM hE  a hA
  refine L1 (e_store (g := g5132) (off := 0) (cur := [(.int .u32 0), (.bool false), (.slice none 0 0), (.slice none 0 0), (.slice none 0 0)]) (cs' := [(.int .u32 (IntKind.u32.wrap r5126.1)), (.bool (r5129.1 == 0)), (.slice none 0 0), (.slice none 0 0), (.slice none 0 0)]) hM .z Try.sizeOf39 hA rfl (by simp [add_mk]) rfl (by first | rfl | simp [Value.cells, Pl.len]) (by simp [Value.cells, Value.oneCell']) (by first | exact Nat.le_of_ble_eq_true rfl | (simp [Pl.len]; done)) (spl_all (by first | rfl | simp [Value.cells, Pl.len])) ?_)
  clear hM hA; intro w5135  hM hE  a hA
  refine LQ ?_
  refine TN ?_
  refine wp_seq ?_
  refine wp_seq ?_
  refine wp_region_lit ?_
  refine L1 (stv hA (by decide) (run_move (hA.ev rfl)) ?_)
  clear hA; intro a hA
  have hM := hM.sel [1, 0, 2] rfl (by decide)
  obtain ⟨r5136, H5137, H⟩ := Option.bind_eq_some_iff.1 H
  refine L1 (st_call Try.call23 hA [(.pointer (some (⟨g0, 0, none⟩))), (.int .i64 3)] rfl (by decide) (mill_Deck_Next.calls _ (lightclientmill_Deck.mk d_0.L r5129.2.At_) _ _ _ _ _ _ ((RoV.mk (hM.roC (Ms := [_]) hr0_0) (Eq.refl d_0.L.length) hc0_0)) (hM.front (Ms := [_])) H5137) ?_)
  clear hA; rintro _ w5138 ⟨rfl, hMc⟩ a hA
  have hM := hM.call (Ms := [_]) hMc
  clear hMc; simp only [List.cons_append, List.nil_append] at hM
  refine L1 (stv hA (by decide) (run_assign (hA.ev rfl)) ?_)
  clear hA; intro a hA
  refine LQ ?_
  refine TN ?_
  obtain ⟨o5732, H5731, H⟩ := Option.bind_eq_some_iff.1 H
  refine cutC (fun a w => ∃ (x5723 : Int) (xs5730 : (List Int)) (v5727 : Value), (x5723, xs5730) = o5732 ∧ Mem F w0 w [.box g0 63 [(.slice A0_0 d_0.L.length c0_0), (.int .i64 x5723)], .box g5123 39 [(.int .u32 0), (.bool false), (.slice none 0 0), (.slice none 0 0), (.slice none 0 0)], .box g5132 39 [(.int .u32 (IntKind.u32.wrap r5126.1)), (.bool (r5129.1 == 0)), v5727, (.slice none 0 0), (.slice none 0 0)], .row 3 (Pl.int .i64).sz v5727 ((Pl.int .i64).flat xs5730)] ∧ Has 67 [(0, (.pointer (some (⟨g0, 0, none⟩)))), (2, (.pointer (some (⟨g5123, 0, none⟩)))), (3, (.pointer (some (⟨g5132, 0, none⟩))))] a) ?_ ?_
  · refine wp_block ?_
    have hM := hM.addnil 3 ((Pl.int .i64)).sz
    refine wp_loop_ghost (fun m a w => ∃ (x5712 : Int) (xs5719 : (List Int)) (t5721 : Int) (v5716 : Value), mill_Relay.l0 d_0 m x5712 xs5719 t5721 = some o5732 ∧ Mem F w0 w [.box g0 63 [(.slice A0_0 d_0.L.length c0_0), (.int .i64 x5712)], .box g5123 39 [(.int .u32 0), (.bool false), (.slice none 0 0), (.slice none 0 0), (.slice none 0 0)], .box g5132 39 [(.int .u32 (IntKind.u32.wrap r5126.1)), (.bool (r5129.1 == 0)), v5716, (.slice none 0 0), (.slice none 0 0)], .row 3 (Pl.int .i64).sz v5716 ((Pl.int .i64).flat xs5719)] ∧ Has 67 [(0, (.pointer (some (⟨g0, 0, none⟩)))), (2, (.pointer (some (⟨g5123, 0, none⟩)))), (3, (.pointer (some (⟨g5132, 0, none⟩)))), (4, (.int .i64 t5721))] a) k ⟨r5136.2.At_, ([] : List Int), r5136.1, (.slice none 0 0), H5731, (hM.sel [1, 3, 2, 0] rfl (by decide)), ((((hA.nil.cons (hA.get 4 _ rfl)).cons (hA.get 3 _ rfl)).cons (hA.get 2 _ rfl)).cons (hA.get 0 _ rfl))⟩ ?_
    clear hM hA; rintro m5734 a w5735 ⟨x5712, xs5719, t5721, v5716, H5731, hM, hA⟩
    cases m5734 with
    | zero => exact absurd H5731 (by simp [mill_Relay.l0])
    | succ m5734 =>
    rw [mill_Relay.l0] at H5731
    obtain ⟨A5717, c5718, rfl⟩ := RowOk.form (hM.row (p := (Pl.int .i64)) (.s (.s (.s .z))))
    refine wp_seq ?_
    refine wp_seq ?_
    refine wp_region_lit ?_
    refine L1 (stv hA (by decide) (run_move (hA.ev rfl)) ?_)
    clear hA; intro a hA
    refine L1 (stv hA (by decide) (run_bin (hA.ev rfl) (hA.ev rfl) (bin_gtr _ _ _ _)) ?_)
    clear hA; intro a hA
    refine LQ ?_
    refine TN ?_
    refine tcond (b := (decide (t5721 > 0))) hA rfl (fun hb5736 => ?_) (fun hb5736 => ?_)
    · replace H5731 := ite_t hb5736 H5731
      refine wp_skip ?_
      refine TN ?_
      refine wp_seq ?_
      refine wp_block ?_
      obtain ⟨o5831, H5830, H5731⟩ := Option.bind_eq_some_iff.1 H5731
      refine cutC (fun a w => ∃ (x5822 : Int) (xs5828 : (List Int)) (v5825 : Value), (x5822, xs5828) = o5831 ∧ Mem F w0 w [.box g0 63 [(.slice A0_0 d_0.L.length c0_0), (.int .i64 x5822)], .box g5123 39 [(.int .u32 0), (.bool false), (.slice none 0 0), (.slice none 0 0), (.slice none 0 0)], .box g5132 39 [(.int .u32 (IntKind.u32.wrap r5126.1)), (.bool (r5129.1 == 0)), v5825, (.slice none 0 0), (.slice none 0 0)], .row 3 (Pl.int .i64).sz v5825 ((Pl.int .i64).flat xs5828)] ∧ Has 67 [(0, (.pointer (some (⟨g0, 0, none⟩)))), (2, (.pointer (some (⟨g5123, 0, none⟩)))), (3, (.pointer (some (⟨g5132, 0, none⟩)))), (4, (.int .i64 t5721))] a) ?_ ?_
      · obtain ⟨r5833, H5834, H5830⟩ := Option.bind_eq_some_iff.1 H5830
        obtain ⟨hl5842, H5830⟩ := ite_some H5830
        refine draw (fun w' => Below w5735.heap.size w5735 w') [7, 10, 12] rfl ?_
        intro w5846 hw hS; replace hM := hM.ext hS; clear hw
        refine d_takef (i := 0) (L' := #[true, false, false, false, false, false, false, false, false, false, false, false, false]) rfl (by kernel_rfl) rfl (fun _ _ _ h => h) hA (by decide) (fun _ => hS) (fun a w' hA => run_field' Try.underlying39 rfl rfl Try.sizeOf22 (by decide) (hA.ev rfl)) ?_; clear hA; intro a hA
        refine d_takef (i := 2) (L' := #[true, false, true, false, false, false, false, false, false, false, false, false, false]) rfl (by kernel_rfl) rfl (fun _ _ _ h => h) hA (by decide) (fun _ => hS) (fun a w' hA => run_field' Try.underlying39 rfl rfl Try.sizeOf22 (by decide) (hA.ev rfl)) ?_; clear hA; intro a hA
        refine d_takef (i := 6) (L' := #[true, false, true, false, false, false, true, false, false, false, false, false, false]) rfl (by kernel_rfl) rfl (fun _ _ _ h => h) hA (by decide) (fun _ => hS) (fun a w' hA => run_move (hA.ev rfl)) ?_; clear hA; intro a hA
        refine d_many (is := [1, 3, 7]) (by kernel_rfl) (by decide) ⟨?_, ?_, ?_, trivial⟩
        · refine d_op (i := 1) (L' := #[true, true, true, false, false, false, true, false, false, false, false, false, false]) rfl rfl (stv hA (by decide) (run_ld (hA.ev rfl) (run_loadS Try.isAgg22 (At.seg1 (hM.box (.s (.s .z))) 2 rfl))) ?_)
          clear hA; intro a hA
          refine ⟨fun _ => hS, ?_⟩
          refine d_many (is := [3, 7]) (by kernel_rfl) (by decide) ⟨?_, ?_, trivial⟩
          · refine d_op (i := 3) (L' := #[true, true, true, true, false, false, true, false, false, false, false, false, false]) rfl rfl (stv hA (by decide) (run_ld (hA.ev rfl) (run_loadS Try.isAgg22 (At.seg1 (hM.box (.s (.s .z))) 2 rfl))) ?_)
            clear hA; intro a hA
            refine ⟨fun _ => hS, ?_⟩
            refine d_takef (i := 4) (L' := #[true, true, true, true, true, false, true, false, false, false, false, false, false]) rfl (by kernel_rfl) rfl (fun _ _ _ h => h) hA (by decide) (fun _ => hS) (fun a w' hA => run_len_slice Try.underlying22 (hA.ev rfl)) ?_; clear hA; intro a hA
            refine d_takef (i := 5) (L' := #[true, true, true, true, true, true, true, false, false, false, false, false, false]) rfl (by kernel_rfl) rfl (fun _ _ _ h => h) hA (by decide) (fun _ => hS) (fun a w' hA => run_bin (hA.ev rfl) (hA.ev rfl) (bin_mul _ _ _ _)) ?_; clear hA; intro a hA
            refine d_one (i := 7) (L' := #[true, true, true, true, true, true, true, true, false, false, false, false, false]) (by kernel_rfl) rfl rfl (st_call Try.call23 hA [(.pointer (some (⟨g0, 0, none⟩))), (.int .i64 3)] rfl (by decide) (mill_Deck_Next.calls _ (lightclientmill_Deck.mk d_0.L x5712) _ _ _ _ _ _ ((RoV.mk (hM.roC (Ms := [_]) hr0_0) (Eq.refl d_0.L.length) hc0_0)) (hM.front (Ms := [_])) H5834) ?_)
            clear hA; rintro _ w5847 ⟨rfl, hMc⟩ a hA
            have hM := hM.call (Ms := [_]) hMc
            clear hMc; simp only [List.cons_append, List.nil_append] at hM
            refine ⟨fun h => absurd h (by decide), ?_⟩
            refine d_takef (i := 8) (L' := #[true, true, true, true, true, true, true, true, true, false, false, false, false]) rfl (by kernel_rfl) rfl (fun _ _ _ h => h) hA (by decide) (fun h => absurd h (by decide)) (fun a w' hA => run_bin (hA.ev rfl) (hA.ev rfl) (bin_add _ _ _ _)) ?_; clear hA; intro a hA
            refine d_one (i := 9) (L' := #[true, true, true, true, true, true, true, true, true, true, false, false, false]) (by kernel_rfl) rfl rfl (e_litNL [IntKind.i64.wrap ((IntKind.i64.wrap (3 * ((xs5719.length : Nat) : Int))) + r5833.1)] [(.int .i64 (IntKind.i64.wrap ((IntKind.i64.wrap (3 * ((xs5719.length : Nat) : Int))) + r5833.1)))] elt22 hM rfl (by decide) hA rfl rfl (List.cons_ne_nil _ _) (by decide) ?_)
            clear hM hA; intro w5849 g5848 hM hE hlo5850 a hA
            refine ⟨fun h => absurd h (by decide), ?_⟩
            refine d_one (i := 10) (L' := #[true, true, true, true, true, true, true, true, true, true, true, false, false]) (by kernel_rfl) rfl rfl (e_appendL elt22 hM (fun _ => (.s (.s (.s (.s .z))))) (Src.row Try.underlying22 (RowOk.row (hM.row (p := (Pl.int .i64)) .z)) (RowOk.len (hM.row (p := (Pl.int .i64)) .z))) hl5842 hA rfl rfl (by decide) ?_)
            clear hM hA; intro w5853 A5851 c5852 hM hE hlo5854 a hA
            refine ⟨fun h => absurd h (by decide), ?_⟩
            refine d_takef (i := 11) (L' := #[true, true, true, true, true, true, true, true, true, true, true, true, false]) rfl (by kernel_rfl) rfl (fun _ _ _ h => h) hA (by decide) (fun h => absurd h (by decide)) (fun a w' hA => run_field' Try.underlying39 rfl rfl Try.sizeOf22 (by decide) (hA.ev rfl)) ?_; clear hA; intro a hA
            refine d_one (i := 12) (L' := #[true, true, true, true, true, true, true, true, true, true, true, true, true]) (by kernel_rfl) rfl rfl (e_store (g := g5132) (off := 2) (cur := [(.int .u32 (IntKind.u32.wrap r5126.1)), (.bool (r5129.1 == 0)), (.slice A5717 xs5719.length c5718), (.slice none 0 0), (.slice none 0 0)]) (cs' := [(.int .u32 (IntKind.u32.wrap r5126.1)), (.bool (r5129.1 == 0)), (.slice A5851 (xs5719.length + 1) c5852), (.slice none 0 0), (.slice none 0 0)]) hM (.s (.s (.s .z))) Try.sizeOf22 hA rfl (by simp [add_mk]) rfl (by first | rfl | simp [Value.cells, Pl.len]) (one_val rfl) (by first | exact Nat.le_of_ble_eq_true rfl | (simp [Pl.len]; done)) (rfl) ?_)
            clear hM hA; intro w5855  hM hE  a hA
            refine ⟨fun h => absurd h (by decide), ?_⟩
            refine d_done (by kernel_rfl) ?_
            exact ⟨r5833.2.At_, (xs5719 ++ [IntKind.i64.wrap ((IntKind.i64.wrap (3 * ((xs5719.length : Nat) : Int))) + r5833.1)]), (.slice A5851 (xs5719.length + 1) c5852), Option.some.inj H5830, (hM.sel [1, 2, 3, 4] rfl (by decide)), ((((hA.nil.cons (hA.get 4 _ rfl)).cons (hA.get 3 _ rfl)).cons (hA.get 2 _ rfl)).cons (hA.get 0 _ rfl))⟩
          · refine d_op (i := 7) (L' := #[true, true, true, false, false, false, true, true, false, false, false, false, false]) rfl rfl (st_call Try.call23 hA [(.pointer (some (⟨g0, 0, none⟩))), (.int .i64 3)] rfl (by decide) (mill_Deck_Next.calls _ (lightclientmill_Deck.mk d_0.L x5712) _ _ _ _ _ _ ((RoV.mk (hM.roC (Ms := [_]) hr0_0) (Eq.refl d_0.L.length) hc0_0)) (hM.front (Ms := [_])) H5834) ?_)
            clear hA; rintro _ w5856 ⟨rfl, hMc⟩ a hA
            have hM := hM.call (Ms := [_]) hMc
            clear hMc; simp only [List.cons_append, List.nil_append] at hM
            refine ⟨fun h => absurd h (by decide), ?_⟩
            refine d_one (i := 3) (L' := #[true, true, true, true, false, false, true, true, false, false, false, false, false]) (by kernel_rfl) rfl rfl (stv hA (by decide) (run_ld (hA.ev rfl) (run_loadS Try.isAgg22 (At.seg1 (hM.box (.s (.s .z))) 2 rfl))) ?_)
            clear hA; intro a hA
            refine ⟨fun h => absurd h (by decide), ?_⟩
            refine d_takef (i := 4) (L' := #[true, true, true, true, true, false, true, true, false, false, false, false, false]) rfl (by kernel_rfl) rfl (fun _ _ _ h => h) hA (by decide) (fun h => absurd h (by decide)) (fun a w' hA => run_len_slice Try.underlying22 (hA.ev rfl)) ?_; clear hA; intro a hA
            refine d_takef (i := 5) (L' := #[true, true, true, true, true, true, true, true, false, false, false, false, false]) rfl (by kernel_rfl) rfl (fun _ _ _ h => h) hA (by decide) (fun h => absurd h (by decide)) (fun a w' hA => run_bin (hA.ev rfl) (hA.ev rfl) (bin_mul _ _ _ _)) ?_; clear hA; intro a hA
            refine d_takef (i := 8) (L' := #[true, true, true, true, true, true, true, true, true, false, false, false, false]) rfl (by kernel_rfl) rfl (fun _ _ _ h => h) hA (by decide) (fun h => absurd h (by decide)) (fun a w' hA => run_bin (hA.ev rfl) (hA.ev rfl) (bin_add _ _ _ _)) ?_; clear hA; intro a hA
            refine d_one (i := 9) (L' := #[true, true, true, true, true, true, true, true, true, true, false, false, false]) (by kernel_rfl) rfl rfl (e_litNL [IntKind.i64.wrap ((IntKind.i64.wrap (3 * ((xs5719.length : Nat) : Int))) + r5833.1)] [(.int .i64 (IntKind.i64.wrap ((IntKind.i64.wrap (3 * ((xs5719.length : Nat) : Int))) + r5833.1)))] elt22 hM rfl (by decide) hA rfl rfl (List.cons_ne_nil _ _) (by decide) ?_)
            clear hM hA; intro w5858 g5857 hM hE hlo5859 a hA
            refine ⟨fun h => absurd h (by decide), ?_⟩
            refine d_one (i := 10) (L' := #[true, true, true, true, true, true, true, true, true, true, true, false, false]) (by kernel_rfl) rfl rfl (e_appendL elt22 hM (fun _ => (.s (.s (.s (.s .z))))) (Src.row Try.underlying22 (RowOk.row (hM.row (p := (Pl.int .i64)) .z)) (RowOk.len (hM.row (p := (Pl.int .i64)) .z))) hl5842 hA rfl rfl (by decide) ?_)
            clear hM hA; intro w5862 A5860 c5861 hM hE hlo5863 a hA
            refine ⟨fun h => absurd h (by decide), ?_⟩
            refine d_takef (i := 11) (L' := #[true, true, true, true, true, true, true, true, true, true, true, true, false]) rfl (by kernel_rfl) rfl (fun _ _ _ h => h) hA (by decide) (fun h => absurd h (by decide)) (fun a w' hA => run_field' Try.underlying39 rfl rfl Try.sizeOf22 (by decide) (hA.ev rfl)) ?_; clear hA; intro a hA
            refine d_one (i := 12) (L' := #[true, true, true, true, true, true, true, true, true, true, true, true, true]) (by kernel_rfl) rfl rfl (e_store (g := g5132) (off := 2) (cur := [(.int .u32 (IntKind.u32.wrap r5126.1)), (.bool (r5129.1 == 0)), (.slice A5717 xs5719.length c5718), (.slice none 0 0), (.slice none 0 0)]) (cs' := [(.int .u32 (IntKind.u32.wrap r5126.1)), (.bool (r5129.1 == 0)), (.slice A5860 (xs5719.length + 1) c5861), (.slice none 0 0), (.slice none 0 0)]) hM (.s (.s (.s .z))) Try.sizeOf22 hA rfl (by simp [add_mk]) rfl (by first | rfl | simp [Value.cells, Pl.len]) (one_val rfl) (by first | exact Nat.le_of_ble_eq_true rfl | (simp [Pl.len]; done)) (rfl) ?_)
            clear hM hA; intro w5864  hM hE  a hA
            refine ⟨fun h => absurd h (by decide), ?_⟩
            refine d_done (by kernel_rfl) ?_
            exact ⟨r5833.2.At_, (xs5719 ++ [IntKind.i64.wrap ((IntKind.i64.wrap (3 * ((xs5719.length : Nat) : Int))) + r5833.1)]), (.slice A5860 (xs5719.length + 1) c5861), Option.some.inj H5830, (hM.sel [1, 2, 3, 4] rfl (by decide)), ((((hA.nil.cons (hA.get 4 _ rfl)).cons (hA.get 3 _ rfl)).cons (hA.get 2 _ rfl)).cons (hA.get 0 _ rfl))⟩
        · refine d_op (i := 3) (L' := #[true, false, true, true, false, false, true, false, false, false, false, false, false]) rfl rfl (stv hA (by decide) (run_ld (hA.ev rfl) (run_loadS Try.isAgg22 (At.seg1 (hM.box (.s (.s .z))) 2 rfl))) ?_)
          clear hA; intro a hA
          refine ⟨fun _ => hS, ?_⟩
          refine d_takef (i := 4) (L' := #[true, false, true, true, true, false, true, false, false, false, false, false, false]) rfl (by kernel_rfl) rfl (fun _ _ _ h => h) hA (by decide) (fun _ => hS) (fun a w' hA => run_len_slice Try.underlying22 (hA.ev rfl)) ?_; clear hA; intro a hA
          refine d_takef (i := 5) (L' := #[true, false, true, true, true, true, true, false, false, false, false, false, false]) rfl (by kernel_rfl) rfl (fun _ _ _ h => h) hA (by decide) (fun _ => hS) (fun a w' hA => run_bin (hA.ev rfl) (hA.ev rfl) (bin_mul _ _ _ _)) ?_; clear hA; intro a hA
          refine d_many (is := [1, 7]) (by kernel_rfl) (by decide) ⟨?_, ?_, trivial⟩
          · refine d_op (i := 1) (L' := #[true, true, true, true, true, true, true, false, false, false, false, false, false]) rfl rfl (stv hA (by decide) (run_ld (hA.ev rfl) (run_loadS Try.isAgg22 (At.seg1 (hM.box (.s (.s .z))) 2 rfl))) ?_)
            clear hA; intro a hA
            refine ⟨fun _ => hS, ?_⟩
            refine d_one (i := 7) (L' := #[true, true, true, true, true, true, true, true, false, false, false, false, false]) (by kernel_rfl) rfl rfl (st_call Try.call23 hA [(.pointer (some (⟨g0, 0, none⟩))), (.int .i64 3)] rfl (by decide) (mill_Deck_Next.calls _ (lightclientmill_Deck.mk d_0.L x5712) _ _ _ _ _ _ ((RoV.mk (hM.roC (Ms := [_]) hr0_0) (Eq.refl d_0.L.length) hc0_0)) (hM.front (Ms := [_])) H5834) ?_)
            clear hA; rintro _ w5865 ⟨rfl, hMc⟩ a hA
            have hM := hM.call (Ms := [_]) hMc
            clear hMc; simp only [List.cons_append, List.nil_append] at hM
            refine ⟨fun h => absurd h (by decide), ?_⟩
            refine d_takef (i := 8) (L' := #[true, true, true, true, true, true, true, true, true, false, false, false, false]) rfl (by kernel_rfl) rfl (fun _ _ _ h => h) hA (by decide) (fun h => absurd h (by decide)) (fun a w' hA => run_bin (hA.ev rfl) (hA.ev rfl) (bin_add _ _ _ _)) ?_; clear hA; intro a hA
            refine d_one (i := 9) (L' := #[true, true, true, true, true, true, true, true, true, true, false, false, false]) (by kernel_rfl) rfl rfl (e_litNL [IntKind.i64.wrap ((IntKind.i64.wrap (3 * ((xs5719.length : Nat) : Int))) + r5833.1)] [(.int .i64 (IntKind.i64.wrap ((IntKind.i64.wrap (3 * ((xs5719.length : Nat) : Int))) + r5833.1)))] elt22 hM rfl (by decide) hA rfl rfl (List.cons_ne_nil _ _) (by decide) ?_)
            clear hM hA; intro w5867 g5866 hM hE hlo5868 a hA
            refine ⟨fun h => absurd h (by decide), ?_⟩
            refine d_one (i := 10) (L' := #[true, true, true, true, true, true, true, true, true, true, true, false, false]) (by kernel_rfl) rfl rfl (e_appendL elt22 hM (fun _ => (.s (.s (.s (.s .z))))) (Src.row Try.underlying22 (RowOk.row (hM.row (p := (Pl.int .i64)) .z)) (RowOk.len (hM.row (p := (Pl.int .i64)) .z))) hl5842 hA rfl rfl (by decide) ?_)
            clear hM hA; intro w5871 A5869 c5870 hM hE hlo5872 a hA
            refine ⟨fun h => absurd h (by decide), ?_⟩
            refine d_takef (i := 11) (L' := #[true, true, true, true, true, true, true, true, true, true, true, true, false]) rfl (by kernel_rfl) rfl (fun _ _ _ h => h) hA (by decide) (fun h => absurd h (by decide)) (fun a w' hA => run_field' Try.underlying39 rfl rfl Try.sizeOf22 (by decide) (hA.ev rfl)) ?_; clear hA; intro a hA
            refine d_one (i := 12) (L' := #[true, true, true, true, true, true, true, true, true, true, true, true, true]) (by kernel_rfl) rfl rfl (e_store (g := g5132) (off := 2) (cur := [(.int .u32 (IntKind.u32.wrap r5126.1)), (.bool (r5129.1 == 0)), (.slice A5717 xs5719.length c5718), (.slice none 0 0), (.slice none 0 0)]) (cs' := [(.int .u32 (IntKind.u32.wrap r5126.1)), (.bool (r5129.1 == 0)), (.slice A5869 (xs5719.length + 1) c5870), (.slice none 0 0), (.slice none 0 0)]) hM (.s (.s (.s .z))) Try.sizeOf22 hA rfl (by simp [add_mk]) rfl (by first | rfl | simp [Value.cells, Pl.len]) (one_val rfl) (by first | exact Nat.le_of_ble_eq_true rfl | (simp [Pl.len]; done)) (rfl) ?_)
            clear hM hA; intro w5873  hM hE  a hA
            refine ⟨fun h => absurd h (by decide), ?_⟩
            refine d_done (by kernel_rfl) ?_
            exact ⟨r5833.2.At_, (xs5719 ++ [IntKind.i64.wrap ((IntKind.i64.wrap (3 * ((xs5719.length : Nat) : Int))) + r5833.1)]), (.slice A5869 (xs5719.length + 1) c5870), Option.some.inj H5830, (hM.sel [1, 2, 3, 4] rfl (by decide)), ((((hA.nil.cons (hA.get 4 _ rfl)).cons (hA.get 3 _ rfl)).cons (hA.get 2 _ rfl)).cons (hA.get 0 _ rfl))⟩
          · refine d_op (i := 7) (L' := #[true, false, true, true, true, true, true, true, false, false, false, false, false]) rfl rfl (st_call Try.call23 hA [(.pointer (some (⟨g0, 0, none⟩))), (.int .i64 3)] rfl (by decide) (mill_Deck_Next.calls _ (lightclientmill_Deck.mk d_0.L x5712) _ _ _ _ _ _ ((RoV.mk (hM.roC (Ms := [_]) hr0_0) (Eq.refl d_0.L.length) hc0_0)) (hM.front (Ms := [_])) H5834) ?_)
            clear hA; rintro _ w5874 ⟨rfl, hMc⟩ a hA
            have hM := hM.call (Ms := [_]) hMc
            clear hMc; simp only [List.cons_append, List.nil_append] at hM
            refine ⟨fun h => absurd h (by decide), ?_⟩
            refine d_takef (i := 8) (L' := #[true, false, true, true, true, true, true, true, true, false, false, false, false]) rfl (by kernel_rfl) rfl (fun _ _ _ h => h) hA (by decide) (fun h => absurd h (by decide)) (fun a w' hA => run_bin (hA.ev rfl) (hA.ev rfl) (bin_add _ _ _ _)) ?_; clear hA; intro a hA
            refine d_many (is := [1, 9]) (by kernel_rfl) (by decide) ⟨?_, ?_, trivial⟩
            · refine d_op (i := 1) (L' := #[true, true, true, true, true, true, true, true, true, false, false, false, false]) rfl rfl (stv hA (by decide) (run_ld (hA.ev rfl) (run_loadS Try.isAgg22 (At.seg1 (hM.box (.s (.s .z))) 2 rfl))) ?_)
              clear hA; intro a hA
              refine ⟨fun h => absurd h (by decide), ?_⟩
              refine d_one (i := 9) (L' := #[true, true, true, true, true, true, true, true, true, true, false, false, false]) (by kernel_rfl) rfl rfl (e_litNL [IntKind.i64.wrap ((IntKind.i64.wrap (3 * ((xs5719.length : Nat) : Int))) + r5833.1)] [(.int .i64 (IntKind.i64.wrap ((IntKind.i64.wrap (3 * ((xs5719.length : Nat) : Int))) + r5833.1)))] elt22 hM rfl (by decide) hA rfl rfl (List.cons_ne_nil _ _) (by decide) ?_)
              clear hM hA; intro w5876 g5875 hM hE hlo5877 a hA
              refine ⟨fun h => absurd h (by decide), ?_⟩
              refine d_one (i := 10) (L' := #[true, true, true, true, true, true, true, true, true, true, true, false, false]) (by kernel_rfl) rfl rfl (e_appendL elt22 hM (fun _ => (.s (.s (.s (.s .z))))) (Src.row Try.underlying22 (RowOk.row (hM.row (p := (Pl.int .i64)) .z)) (RowOk.len (hM.row (p := (Pl.int .i64)) .z))) hl5842 hA rfl rfl (by decide) ?_)
              clear hM hA; intro w5880 A5878 c5879 hM hE hlo5881 a hA
              refine ⟨fun h => absurd h (by decide), ?_⟩
              refine d_takef (i := 11) (L' := #[true, true, true, true, true, true, true, true, true, true, true, true, false]) rfl (by kernel_rfl) rfl (fun _ _ _ h => h) hA (by decide) (fun h => absurd h (by decide)) (fun a w' hA => run_field' Try.underlying39 rfl rfl Try.sizeOf22 (by decide) (hA.ev rfl)) ?_; clear hA; intro a hA
              refine d_one (i := 12) (L' := #[true, true, true, true, true, true, true, true, true, true, true, true, true]) (by kernel_rfl) rfl rfl (e_store (g := g5132) (off := 2) (cur := [(.int .u32 (IntKind.u32.wrap r5126.1)), (.bool (r5129.1 == 0)), (.slice A5717 xs5719.length c5718), (.slice none 0 0), (.slice none 0 0)]) (cs' := [(.int .u32 (IntKind.u32.wrap r5126.1)), (.bool (r5129.1 == 0)), (.slice A5878 (xs5719.length + 1) c5879), (.slice none 0 0), (.slice none 0 0)]) hM (.s (.s (.s .z))) Try.sizeOf22 hA rfl (by simp [add_mk]) rfl (by first | rfl | simp [Value.cells, Pl.len]) (one_val rfl) (by first | exact Nat.le_of_ble_eq_true rfl | (simp [Pl.len]; done)) (rfl) ?_)
              clear hM hA; intro w5882  hM hE  a hA
              refine ⟨fun h => absurd h (by decide), ?_⟩
              refine d_done (by kernel_rfl) ?_
              exact ⟨r5833.2.At_, (xs5719 ++ [IntKind.i64.wrap ((IntKind.i64.wrap (3 * ((xs5719.length : Nat) : Int))) + r5833.1)]), (.slice A5878 (xs5719.length + 1) c5879), Option.some.inj H5830, (hM.sel [1, 2, 3, 4] rfl (by decide)), ((((hA.nil.cons (hA.get 4 _ rfl)).cons (hA.get 3 _ rfl)).cons (hA.get 2 _ rfl)).cons (hA.get 0 _ rfl))⟩
            · refine d_op (i := 9) (L' := #[true, false, true, true, true, true, true, true, true, true, false, false, false]) rfl rfl (e_litNL [IntKind.i64.wrap ((IntKind.i64.wrap (3 * ((xs5719.length : Nat) : Int))) + r5833.1)] [(.int .i64 (IntKind.i64.wrap ((IntKind.i64.wrap (3 * ((xs5719.length : Nat) : Int))) + r5833.1)))] elt22 hM rfl (by decide) hA rfl rfl (List.cons_ne_nil _ _) (by decide) ?_)
              clear hM hA; intro w5884 g5883 hM hE hlo5885 a hA
              refine ⟨fun h => absurd h (by decide), ?_⟩
              refine d_one (i := 1) (L' := #[true, true, true, true, true, true, true, true, true, true, false, false, false]) (by kernel_rfl) rfl rfl (stv hA (by decide) (run_ld (hA.ev rfl) (run_loadS Try.isAgg22 (At.seg1 (hM.box (.s (.s (.s .z)))) 2 rfl))) ?_)
              clear hA; intro a hA
              refine ⟨fun h => absurd h (by decide), ?_⟩
              refine d_one (i := 10) (L' := #[true, true, true, true, true, true, true, true, true, true, true, false, false]) (by kernel_rfl) rfl rfl (e_appendL elt22 hM (fun _ => (.s (.s (.s (.s .z))))) (Src.row Try.underlying22 (RowOk.row (hM.row (p := (Pl.int .i64)) .z)) (RowOk.len (hM.row (p := (Pl.int .i64)) .z))) hl5842 hA rfl rfl (by decide) ?_)
              clear hM hA; intro w5888 A5886 c5887 hM hE hlo5889 a hA
              refine ⟨fun h => absurd h (by decide), ?_⟩
              refine d_takef (i := 11) (L' := #[true, true, true, true, true, true, true, true, true, true, true, true, false]) rfl (by kernel_rfl) rfl (fun _ _ _ h => h) hA (by decide) (fun h => absurd h (by decide)) (fun a w' hA => run_field' Try.underlying39 rfl rfl Try.sizeOf22 (by decide) (hA.ev rfl)) ?_; clear hA; intro a hA
              refine d_one (i := 12) (L' := #[true, true, true, true, true, true, true, true, true, true, true, true, true]) (by kernel_rfl) rfl rfl (e_store (g := g5132) (off := 2) (cur := [(.int .u32 (IntKind.u32.wrap r5126.1)), (.bool (r5129.1 == 0)), (.slice A5717 xs5719.length c5718), (.slice none 0 0), (.slice none 0 0)]) (cs' := [(.int .u32 (IntKind.u32.wrap r5126.1)), (.bool (r5129.1 == 0)), (.slice A5886 (xs5719.length + 1) c5887), (.slice none 0 0), (.slice none 0 0)]) hM (.s (.s (.s .z))) Try.sizeOf22 hA rfl (by simp [add_mk]) rfl (by first | rfl | simp [Value.cells, Pl.len]) (one_val rfl) (by first | exact Nat.le_of_ble_eq_true rfl | (simp [Pl.len]; done)) (rfl) ?_)
              clear hM hA; intro w5890  hM hE  a hA
              refine ⟨fun h => absurd h (by decide), ?_⟩
              refine d_done (by kernel_rfl) ?_
              exact ⟨r5833.2.At_, (xs5719 ++ [IntKind.i64.wrap ((IntKind.i64.wrap (3 * ((xs5719.length : Nat) : Int))) + r5833.1)]), (.slice A5886 (xs5719.length + 1) c5887), Option.some.inj H5830, (hM.sel [1, 2, 3, 4] rfl (by decide)), ((((hA.nil.cons (hA.get 4 _ rfl)).cons (hA.get 3 _ rfl)).cons (hA.get 2 _ rfl)).cons (hA.get 0 _ rfl))⟩
        · refine d_op (i := 7) (L' := #[true, false, true, false, false, false, true, true, false, false, false, false, false]) rfl rfl (st_call Try.call23 hA [(.pointer (some (⟨g0, 0, none⟩))), (.int .i64 3)] rfl (by decide) (mill_Deck_Next.calls _ (lightclientmill_Deck.mk d_0.L x5712) _ _ _ _ _ _ ((RoV.mk (hM.roC (Ms := [_]) hr0_0) (Eq.refl d_0.L.length) hc0_0)) (hM.front (Ms := [_])) H5834) ?_)
          clear hA; rintro _ w5891 ⟨rfl, hMc⟩ a hA
          have hM := hM.call (Ms := [_]) hMc
          clear hMc; simp only [List.cons_append, List.nil_append] at hM
          refine ⟨fun h => absurd h (by decide), ?_⟩
          refine d_many (is := [1, 3]) (by kernel_rfl) (by decide) ⟨?_, ?_, trivial⟩
          · refine d_op (i := 1) (L' := #[true, true, true, false, false, false, true, true, false, false, false, false, false]) rfl rfl (stv hA (by decide) (run_ld (hA.ev rfl) (run_loadS Try.isAgg22 (At.seg1 (hM.box (.s (.s .z))) 2 rfl))) ?_)
            clear hA; intro a hA
            refine ⟨fun h => absurd h (by decide), ?_⟩
            refine d_one (i := 3) (L' := #[true, true, true, true, false, false, true, true, false, false, false, false, false]) (by kernel_rfl) rfl rfl (stv hA (by decide) (run_ld (hA.ev rfl) (run_loadS Try.isAgg22 (At.seg1 (hM.box (.s (.s .z))) 2 rfl))) ?_)
            clear hA; intro a hA
            refine ⟨fun h => absurd h (by decide), ?_⟩
            refine d_takef (i := 4) (L' := #[true, true, true, true, true, false, true, true, false, false, false, false, false]) rfl (by kernel_rfl) rfl (fun _ _ _ h => h) hA (by decide) (fun h => absurd h (by decide)) (fun a w' hA => run_len_slice Try.underlying22 (hA.ev rfl)) ?_; clear hA; intro a hA
            refine d_takef (i := 5) (L' := #[true, true, true, true, true, true, true, true, false, false, false, false, false]) rfl (by kernel_rfl) rfl (fun _ _ _ h => h) hA (by decide) (fun h => absurd h (by decide)) (fun a w' hA => run_bin (hA.ev rfl) (hA.ev rfl) (bin_mul _ _ _ _)) ?_; clear hA; intro a hA
            refine d_takef (i := 8) (L' := #[true, true, true, true, true, true, true, true, true, false, false, false, false]) rfl (by kernel_rfl) rfl (fun _ _ _ h => h) hA (by decide) (fun h => absurd h (by decide)) (fun a w' hA => run_bin (hA.ev rfl) (hA.ev rfl) (bin_add _ _ _ _)) ?_; clear hA; intro a hA
            refine d_one (i := 9) (L' := #[true, true, true, true, true, true, true, true, true, true, false, false, false]) (by kernel_rfl) rfl rfl (e_litNL [IntKind.i64.wrap ((IntKind.i64.wrap (3 * ((xs5719.length : Nat) : Int))) + r5833.1)] [(.int .i64 (IntKind.i64.wrap ((IntKind.i64.wrap (3 * ((xs5719.length : Nat) : Int))) + r5833.1)))] elt22 hM rfl (by decide) hA rfl rfl (List.cons_ne_nil _ _) (by decide) ?_)
            clear hM hA; intro w5893 g5892 hM hE hlo5894 a hA
            refine ⟨fun h => absurd h (by decide), ?_⟩
            refine d_one (i := 10) (L' := #[true, true, true, true, true, true, true, true, true, true, true, false, false]) (by kernel_rfl) rfl rfl (e_appendL elt22 hM (fun _ => (.s (.s (.s (.s .z))))) (Src.row Try.underlying22 (RowOk.row (hM.row (p := (Pl.int .i64)) .z)) (RowOk.len (hM.row (p := (Pl.int .i64)) .z))) hl5842 hA rfl rfl (by decide) ?_)
            clear hM hA; intro w5897 A5895 c5896 hM hE hlo5898 a hA
            refine ⟨fun h => absurd h (by decide), ?_⟩
            refine d_takef (i := 11) (L' := #[true, true, true, true, true, true, true, true, true, true, true, true, false]) rfl (by kernel_rfl) rfl (fun _ _ _ h => h) hA (by decide) (fun h => absurd h (by decide)) (fun a w' hA => run_field' Try.underlying39 rfl rfl Try.sizeOf22 (by decide) (hA.ev rfl)) ?_; clear hA; intro a hA
            refine d_one (i := 12) (L' := #[true, true, true, true, true, true, true, true, true, true, true, true, true]) (by kernel_rfl) rfl rfl (e_store (g := g5132) (off := 2) (cur := [(.int .u32 (IntKind.u32.wrap r5126.1)), (.bool (r5129.1 == 0)), (.slice A5717 xs5719.length c5718), (.slice none 0 0), (.slice none 0 0)]) (cs' := [(.int .u32 (IntKind.u32.wrap r5126.1)), (.bool (r5129.1 == 0)), (.slice A5895 (xs5719.length + 1) c5896), (.slice none 0 0), (.slice none 0 0)]) hM (.s (.s (.s .z))) Try.sizeOf22 hA rfl (by simp [add_mk]) rfl (by first | rfl | simp [Value.cells, Pl.len]) (one_val rfl) (by first | exact Nat.le_of_ble_eq_true rfl | (simp [Pl.len]; done)) (rfl) ?_)
            clear hM hA; intro w5899  hM hE  a hA
            refine ⟨fun h => absurd h (by decide), ?_⟩
            refine d_done (by kernel_rfl) ?_
            exact ⟨r5833.2.At_, (xs5719 ++ [IntKind.i64.wrap ((IntKind.i64.wrap (3 * ((xs5719.length : Nat) : Int))) + r5833.1)]), (.slice A5895 (xs5719.length + 1) c5896), Option.some.inj H5830, (hM.sel [1, 2, 3, 4] rfl (by decide)), ((((hA.nil.cons (hA.get 4 _ rfl)).cons (hA.get 3 _ rfl)).cons (hA.get 2 _ rfl)).cons (hA.get 0 _ rfl))⟩
          · refine d_op (i := 3) (L' := #[true, false, true, true, false, false, true, true, false, false, false, false, false]) rfl rfl (stv hA (by decide) (run_ld (hA.ev rfl) (run_loadS Try.isAgg22 (At.seg1 (hM.box (.s (.s .z))) 2 rfl))) ?_)
            clear hA; intro a hA
            refine ⟨fun h => absurd h (by decide), ?_⟩
            refine d_takef (i := 4) (L' := #[true, false, true, true, true, false, true, true, false, false, false, false, false]) rfl (by kernel_rfl) rfl (fun _ _ _ h => h) hA (by decide) (fun h => absurd h (by decide)) (fun a w' hA => run_len_slice Try.underlying22 (hA.ev rfl)) ?_; clear hA; intro a hA
            refine d_takef (i := 5) (L' := #[true, false, true, true, true, true, true, true, false, false, false, false, false]) rfl (by kernel_rfl) rfl (fun _ _ _ h => h) hA (by decide) (fun h => absurd h (by decide)) (fun a w' hA => run_bin (hA.ev rfl) (hA.ev rfl) (bin_mul _ _ _ _)) ?_; clear hA; intro a hA
            refine d_takef (i := 8) (L' := #[true, false, true, true, true, true, true, true, true, false, false, false, false]) rfl (by kernel_rfl) rfl (fun _ _ _ h => h) hA (by decide) (fun h => absurd h (by decide)) (fun a w' hA => run_bin (hA.ev rfl) (hA.ev rfl) (bin_add _ _ _ _)) ?_; clear hA; intro a hA
            refine d_many (is := [1, 9]) (by kernel_rfl) (by decide) ⟨?_, ?_, trivial⟩
            · refine d_op (i := 1) (L' := #[true, true, true, true, true, true, true, true, true, false, false, false, false]) rfl rfl (stv hA (by decide) (run_ld (hA.ev rfl) (run_loadS Try.isAgg22 (At.seg1 (hM.box (.s (.s .z))) 2 rfl))) ?_)
              clear hA; intro a hA
              refine ⟨fun h => absurd h (by decide), ?_⟩
              refine d_one (i := 9) (L' := #[true, true, true, true, true, true, true, true, true, true, false, false, false]) (by kernel_rfl) rfl rfl (e_litNL [IntKind.i64.wrap ((IntKind.i64.wrap (3 * ((xs5719.length : Nat) : Int))) + r5833.1)] [(.int .i64 (IntKind.i64.wrap ((IntKind.i64.wrap (3 * ((xs5719.length : Nat) : Int))) + r5833.1)))] elt22 hM rfl (by decide) hA rfl rfl (List.cons_ne_nil _ _) (by decide) ?_)
              clear hM hA; intro w5901 g5900 hM hE hlo5902 a hA
              refine ⟨fun h => absurd h (by decide), ?_⟩
              refine d_one (i := 10) (L' := #[true, true, true, true, true, true, true, true, true, true, true, false, false]) (by kernel_rfl) rfl rfl (e_appendL elt22 hM (fun _ => (.s (.s (.s (.s .z))))) (Src.row Try.underlying22 (RowOk.row (hM.row (p := (Pl.int .i64)) .z)) (RowOk.len (hM.row (p := (Pl.int .i64)) .z))) hl5842 hA rfl rfl (by decide) ?_)
              clear hM hA; intro w5905 A5903 c5904 hM hE hlo5906 a hA
              refine ⟨fun h => absurd h (by decide), ?_⟩
              refine d_takef (i := 11) (L' := #[true, true, true, true, true, true, true, true, true, true, true, true, false]) rfl (by kernel_rfl) rfl (fun _ _ _ h => h) hA (by decide) (fun h => absurd h (by decide)) (fun a w' hA => run_field' Try.underlying39 rfl rfl Try.sizeOf22 (by decide) (hA.ev rfl)) ?_; clear hA; intro a hA
              refine d_one (i := 12) (L' := #[true, true, true, true, true, true, true, true, true, true, true, true, true]) (by kernel_rfl) rfl rfl (e_store (g := g5132) (off := 2) (cur := [(.int .u32 (IntKind.u32.wrap r5126.1)), (.bool (r5129.1 == 0)), (.slice A5717 xs5719.length c5718), (.slice none 0 0), (.slice none 0 0)]) (cs' := [(.int .u32 (IntKind.u32.wrap r5126.1)), (.bool (r5129.1 == 0)), (.slice A5903 (xs5719.length + 1) c5904), (.slice none 0 0), (.slice none 0 0)]) hM (.s (.s (.s .z))) Try.sizeOf22 hA rfl (by simp [add_mk]) rfl (by first | rfl | simp [Value.cells, Pl.len]) (one_val rfl) (by first | exact Nat.le_of_ble_eq_true rfl | (simp [Pl.len]; done)) (rfl) ?_)
              clear hM hA; intro w5907  hM hE  a hA
              refine ⟨fun h => absurd h (by decide), ?_⟩
              refine d_done (by kernel_rfl) ?_
              exact ⟨r5833.2.At_, (xs5719 ++ [IntKind.i64.wrap ((IntKind.i64.wrap (3 * ((xs5719.length : Nat) : Int))) + r5833.1)]), (.slice A5903 (xs5719.length + 1) c5904), Option.some.inj H5830, (hM.sel [1, 2, 3, 4] rfl (by decide)), ((((hA.nil.cons (hA.get 4 _ rfl)).cons (hA.get 3 _ rfl)).cons (hA.get 2 _ rfl)).cons (hA.get 0 _ rfl))⟩
            · refine d_op (i := 9) (L' := #[true, false, true, true, true, true, true, true, true, true, false, false, false]) rfl rfl (e_litNL [IntKind.i64.wrap ((IntKind.i64.wrap (3 * ((xs5719.length : Nat) : Int))) + r5833.1)] [(.int .i64 (IntKind.i64.wrap ((IntKind.i64.wrap (3 * ((xs5719.length : Nat) : Int))) + r5833.1)))] elt22 hM rfl (by decide) hA rfl rfl (List.cons_ne_nil _ _) (by decide) ?_)
              clear hM hA; intro w5909 g5908 hM hE hlo5910 a hA
              refine ⟨fun h => absurd h (by decide), ?_⟩
              refine d_one (i := 1) (L' := #[true, true, true, true, true, true, true, true, true, true, false, false, false]) (by kernel_rfl) rfl rfl (stv hA (by decide) (run_ld (hA.ev rfl) (run_loadS Try.isAgg22 (At.seg1 (hM.box (.s (.s (.s .z)))) 2 rfl))) ?_)
              clear hA; intro a hA
              refine ⟨fun h => absurd h (by decide), ?_⟩
              refine d_one (i := 10) (L' := #[true, true, true, true, true, true, true, true, true, true, true, false, false]) (by kernel_rfl) rfl rfl (e_appendL elt22 hM (fun _ => (.s (.s (.s (.s .z))))) (Src.row Try.underlying22 (RowOk.row (hM.row (p := (Pl.int .i64)) .z)) (RowOk.len (hM.row (p := (Pl.int .i64)) .z))) hl5842 hA rfl rfl (by decide) ?_)
              clear hM hA; intro w5913 A5911 c5912 hM hE hlo5914 a hA
              refine ⟨fun h => absurd h (by decide), ?_⟩
              refine d_takef (i := 11) (L' := #[true, true, true, true, true, true, true, true, true, true, true, true, false]) rfl (by kernel_rfl) rfl (fun _ _ _ h => h) hA (by decide) (fun h => absurd h (by decide)) (fun a w' hA => run_field' Try.underlying39 rfl rfl Try.sizeOf22 (by decide) (hA.ev rfl)) ?_; clear hA; intro a hA
              refine d_one (i := 12) (L' := #[true, true, true, true, true, true, true, true, true, true, true, true, true]) (by kernel_rfl) rfl rfl (e_store (g := g5132) (off := 2) (cur := [(.int .u32 (IntKind.u32.wrap r5126.1)), (.bool (r5129.1 == 0)), (.slice A5717 xs5719.length c5718), (.slice none 0 0), (.slice none 0 0)]) (cs' := [(.int .u32 (IntKind.u32.wrap r5126.1)), (.bool (r5129.1 == 0)), (.slice A5911 (xs5719.length + 1) c5912), (.slice none 0 0), (.slice none 0 0)]) hM (.s (.s (.s .z))) Try.sizeOf22 hA rfl (by simp [add_mk]) rfl (by first | rfl | simp [Value.cells, Pl.len]) (one_val rfl) (by first | exact Nat.le_of_ble_eq_true rfl | (simp [Pl.len]; done)) (rfl) ?_)
              clear hM hA; intro w5915  hM hE  a hA
              refine ⟨fun h => absurd h (by decide), ?_⟩
              refine d_done (by kernel_rfl) ?_
              exact ⟨r5833.2.At_, (xs5719 ++ [IntKind.i64.wrap ((IntKind.i64.wrap (3 * ((xs5719.length : Nat) : Int))) + r5833.1)]), (.slice A5911 (xs5719.length + 1) c5912), Option.some.inj H5830, (hM.sel [1, 2, 3, 4] rfl (by decide)), ((((hA.nil.cons (hA.get 4 _ rfl)).cons (hA.get 3 _ rfl)).cons (hA.get 2 _ rfl)).cons (hA.get 0 _ rfl))⟩
      clear hM hA
      rintro a w5916 ⟨x5822, xs5828, v5825, rfl, hM, hA⟩
      try dsimp only at H5731
      obtain ⟨A5826, c5827, rfl⟩ := RowOk.form (hM.row (p := (Pl.int .i64)) (.s (.s (.s .z))))
      refine BN ?_
      refine TN ?_
      refine wp_region_lit ?_
      refine L1 (stv hA (by decide) (run_move (hA.ev rfl)) ?_)
      clear hA; intro a hA
      refine L1 (stv hA (by decide) (run_bin (hA.ev rfl) (hA.ev rfl) (bin_sub _ _ _ _)) ?_)
      clear hA; intro a hA
      refine L1 (stv hA (by decide) (run_assign (hA.ev rfl)) ?_)
      clear hA; intro a hA
      refine LQ ?_
      exact ⟨_, Nat.lt_succ_self m5734, x5822, xs5828, IntKind.i64.wrap (t5721 - 1), (.slice A5826 xs5828.length c5827), H5731, hM, ((((hA.nil.cons (hA.get 4 _ rfl)).cons (hA.get 3 _ rfl)).cons (hA.get 2 _ rfl)).cons (hA.get 0 _ rfl))⟩
    · replace H5731 := ite_f hb5736 H5731
      refine wp_exit ?_
      refine TX ?_
      refine TX ?_
      refine BX ?_
      exact ⟨x5712, xs5719, (.slice A5717 xs5719.length c5718), Option.some.inj H5731, hM, (((hA.nil.cons (hA.get 3 _ rfl)).cons (hA.get 2 _ rfl)).cons (hA.get 0 _ rfl))⟩
  clear hM hA
  rintro a w5917 ⟨x5723, xs5730, v5727, rfl, hM, hA⟩
  try dsimp only at H
  obtain ⟨A5728, c5729, rfl⟩ := RowOk.form (hM.row (p := (Pl.int .i64)) (.s (.s (.s .z))))
  refine TN ?_
  refine wp_seq ?_
  refine wp_seq ?_
  refine wp_region_lit ?_
  refine L1 (stv hA (by decide) (run_assign (hA.ev rfl)) ?_)
  clear hA; intro a hA
  refine LQ ?_
  refine TN ?_
  obtain ⟨o9178, H9177, H⟩ := Option.bind_eq_some_iff.1 H
  refine cutC (fun a w => ∃ (xs9170 : (List Stem)) (xs9175 : (List (Vector Int 32))) (x9176 : Int) (v9167 : Value) (v9172 : Value), (xs9170, xs9175, x9176) = o9178 ∧ Mem F w0 w [.box g5123 39 [(.int .u32 0), (.bool false), (.slice none 0 0), (.slice none 0 0), (.slice none 0 0)], .box g5132 39 [(.int .u32 (IntKind.u32.wrap r5126.1)), (.bool (r5129.1 == 0)), (.slice A5728 xs5730.length c5729), v9167, v9172], .row 3 (Pl.int .i64).sz (.slice A5728 xs5730.length c5729) ((Pl.int .i64).flat xs5730), .row 61 pStem.sz v9167 (pStem.flat xs9170), .row 34 pHash.sz v9172 (pHash.flat xs9175), .box g0 63 [(.slice A0_0 d_0.L.length c0_0), (.int .i64 x9176)]] ∧ Has 67 [(2, (.pointer (some (⟨g5123, 0, none⟩)))), (3, (.pointer (some (⟨g5132, 0, none⟩))))] a) ?_ ?_
  · refine wp_block ?_
    have hM := hM.addnil 61 (pStem).sz
    have hM := hM.addnil 34 (pHash).sz
    refine wp_loop_ghost (fun m a w => ∃ (x9149 : Int) (xs9156 : (List Stem)) (xs9161 : (List (Vector Int 32))) (t9163 : Int) (v9153 : Value) (v9158 : Value), mill_Relay.l1 d_0 m x9149 xs9156 xs9161 t9163 = some o9178 ∧ Mem F w0 w [.box g0 63 [(.slice A0_0 d_0.L.length c0_0), (.int .i64 x9149)], .box g5123 39 [(.int .u32 0), (.bool false), (.slice none 0 0), (.slice none 0 0), (.slice none 0 0)], .box g5132 39 [(.int .u32 (IntKind.u32.wrap r5126.1)), (.bool (r5129.1 == 0)), (.slice A5728 xs5730.length c5729), v9153, v9158], .row 3 (Pl.int .i64).sz (.slice A5728 xs5730.length c5729) ((Pl.int .i64).flat xs5730), .row 61 pStem.sz v9153 (pStem.flat xs9156), .row 34 pHash.sz v9158 (pHash.flat xs9161)] ∧ Has 67 [(0, (.pointer (some (⟨g0, 0, none⟩)))), (2, (.pointer (some (⟨g5123, 0, none⟩)))), (3, (.pointer (some (⟨g5132, 0, none⟩)))), (5, (.int .i64 t9163))] a) k ⟨x5723, ([] : List Stem), ([] : List (Vector Int 32)), 0, (.slice none 0 0), (.slice none 0 0), H9177, (hM.sel [2, 3, 4, 5, 1, 0] rfl (by decide)), ((((hA.nil.cons (hA.get 5 _ rfl)).cons (hA.get 3 _ rfl)).cons (hA.get 2 _ rfl)).cons (hA.get 0 _ rfl))⟩ ?_
    clear hM hA; rintro m9181 a w9182 ⟨x9149, xs9156, xs9161, t9163, v9153, v9158, H9177, hM, hA⟩
    cases m9181 with
    | zero => exact absurd H9177 (by simp [mill_Relay.l1])
    | succ m9181 =>
    rw [mill_Relay.l1] at H9177
    obtain ⟨A9154, c9155, rfl⟩ := RowOk.form (hM.row (p := pStem) (.s (.s (.s (.s .z)))))
    obtain ⟨A9159, c9160, rfl⟩ := RowOk.form (hM.row (p := pHash) (.s (.s (.s (.s (.s .z))))))
    refine wp_seq ?_
    refine wp_seq ?_
    refine wp_region_lit ?_
    refine L1 (stv hA (by decide) (run_move (hA.ev rfl)) ?_)
    clear hA; intro a hA
    refine L1 (stv hA (by decide) (run_bin (hA.ev rfl) (hA.ev rfl) (bin_lss _ _ _ _)) ?_)
    clear hA; intro a hA
    refine LQ ?_
    refine TN ?_
    refine tcond (b := (decide (t9163 < 8))) hA rfl (fun hb9183 => ?_) (fun hb9183 => ?_)
    · replace H9177 := ite_t hb9183 H9177
      refine wp_skip ?_
      refine TN ?_
      refine wp_seq ?_
      refine wp_block ?_
      refine wp_seq ?_
      refine wp_region_lit ?_
      refine L1 (stv hA (by decide) (run_move (hA.ev rfl)) ?_)
      clear hA; intro a hA
      refine L1 (stv hA (by decide) (run_conv Try.underlying3 Try.underlying5 (hA.ev rfl)) ?_)
      clear hA; intro a hA
      refine L1 (stv hA (by decide) (run_build_arr [(0, (.int .u8 (IntKind.u8.wrap t9163)))] zero34 Try.underlying34 Try.sizeOf5 hA rfl (fill_step rfl rfl (enc_fit _ _ rfl) (arr_eq (vec_spl' _ _ _ (by decide))) (fill_nil))) ?_)
      clear hA; intro a hA
      refine L1 (e_alloc (cs := (pHash.enc (Vector.replicate 32 0 : Vector Int 32))) hM zero34 rfl hA (by decide) ?_)
      clear hM hA; intro w9185 g9184 hM hE  a hA
      refine L1 (e_store (g := g9184) (off := 0) (cur := (pHash.enc (Vector.replicate 32 0 : Vector Int 32))) (cs' := (pHash.enc (((Vector.replicate 32 0 : Vector Int 32).setIfInBounds 0 (IntKind.u8.wrap t9163))))) hM .z Try.sizeOf34 hA rfl (by simp [add_mk]) rfl (agg_size _ _) (agg_one _ _) (Nat.le_of_ble_eq_true (enc_fitL _ _ rfl)) (spl_all (by first | rfl | simp [Value.cells, Pl.len])) ?_)
      clear hM hA; intro w9187  hM hE  a hA
      refine LQ ?_
      refine TN ?_
      refine wp_seq ?_
      refine wp_region_lit ?_
      refine L1 (stv hA (by decide) (run_move (hA.ev rfl)) ?_)
      clear hA; intro a hA
      have hM := hM.sel [1, 0, 2, 3, 4, 5, 6] rfl (by decide)
      obtain ⟨r9188, H9189, H9177⟩ := Option.bind_eq_some_iff.1 H9177
      refine L1 (st_call Try.call23 hA [(.pointer (some (⟨g0, 0, none⟩))), (.int .i64 3)] rfl (by decide) (mill_Deck_Next.calls _ (lightclientmill_Deck.mk d_0.L x9149) _ _ _ _ _ _ ((RoV.mk (hM.roC (Ms := [_]) hr0_0) (Eq.refl d_0.L.length) hc0_0)) (hM.front (Ms := [_])) H9189) ?_)
      clear hA; rintro _ w9190 ⟨rfl, hMc⟩ a hA
      have hM := hM.call (Ms := [_]) hMc
      clear hMc; simp only [List.cons_append, List.nil_append] at hM
      refine LQ ?_
      refine TN ?_
      refine wp_block ?_
      refine wp_seq ?_
      refine wp_region_lit ?_
      refine L1 (stv hA (by decide) (run_bin (hA.ev rfl) (hA.ev rfl) (bin_eql _ _ _ _)) ?_)
      clear hA; intro a hA
      refine L1 (stv hA (by decide) (run_assign (hA.ev rfl)) ?_)
      clear hA; intro a hA
      refine LQ ?_
      refine TN ?_
      obtain ⟨o9723, H9722, H9177⟩ := Option.bind_eq_some_iff.1 H9177
      refine cutC (fun a w => ∃ (x9710 : Int) (xs9716 : (List Stem)) (xs9720 : (List (Vector Int 32))) (v9713 : Value) (v9717 : Value), (x9710, xs9716, xs9720) = o9723 ∧ Mem F w0 w [.box g0 63 [(.slice A0_0 d_0.L.length c0_0), (.int .i64 x9710)], .box g5123 39 [(.int .u32 0), (.bool false), (.slice none 0 0), (.slice none 0 0), (.slice none 0 0)], .box g5132 39 [(.int .u32 (IntKind.u32.wrap r5126.1)), (.bool (r5129.1 == 0)), (.slice A5728 xs5730.length c5729), v9713, v9717], .row 3 (Pl.int .i64).sz (.slice A5728 xs5730.length c5729) ((Pl.int .i64).flat xs5730), .row 61 pStem.sz v9713 (pStem.flat xs9716), .row 34 pHash.sz v9717 (pHash.flat xs9720)] ∧ Has 67 [(0, (.pointer (some (⟨g0, 0, none⟩)))), (2, (.pointer (some (⟨g5123, 0, none⟩)))), (3, (.pointer (some (⟨g5132, 0, none⟩)))), (5, (.int .i64 t9163))] a) ?_ ?_
      · refine tcond (b := (r9188.1 == 0)) hA rfl (fun hb9724 => ?_) (fun hb9724 => ?_)
        · replace H9722 := ite_t hb9724 H9722
          obtain ⟨o9983, H9982, H9722⟩ := Option.bind_eq_some_iff.1 H9722
          refine cutC (fun a w => ∃ (x9974 : Int) (xs9980 : (List Stem)) (v9977 : Value), (x9974, xs9980) = o9983 ∧ Mem F w0 w [.box g0 63 [(.slice A0_0 d_0.L.length c0_0), (.int .i64 x9974)], .box g5123 39 [(.int .u32 0), (.bool false), (.slice none 0 0), (.slice none 0 0), (.slice none 0 0)], .box g5132 39 [(.int .u32 (IntKind.u32.wrap r5126.1)), (.bool (r5129.1 == 0)), (.slice A5728 xs5730.length c5729), v9977, (.slice A9159 xs9161.length c9160)], .row 3 (Pl.int .i64).sz (.slice A5728 xs5730.length c5729) ((Pl.int .i64).flat xs5730), .row 61 pStem.sz v9977 (pStem.flat xs9980), .row 34 pHash.sz (.slice A9159 xs9161.length c9160) (pHash.flat xs9161)] ∧ Has 67 [(0, (.pointer (some (⟨g0, 0, none⟩)))), (2, (.pointer (some (⟨g5123, 0, none⟩)))), (3, (.pointer (some (⟨g5132, 0, none⟩)))), (5, (.int .i64 t9163))] a) ?_ ?_
          · obtain ⟨r9985, H9986, H9982⟩ := Option.bind_eq_some_iff.1 H9982
            obtain ⟨r9988, H9989, H9982⟩ := Option.bind_eq_some_iff.1 H9982
            obtain ⟨r9991, H9992, H9982⟩ := Option.bind_eq_some_iff.1 H9982
            obtain ⟨hl10000, H9982⟩ := ite_some H9982
            refine draw (fun w' => Below w9190.heap.size w9190 w') [4, 7, 9, 13, 15] rfl ?_
            intro w10004 hw hS; replace hM := hM.ext hS; clear hw
            refine d_takef (i := 0) (L' := #[true, false, false, false, false, false, false, false, false, false, false, false, false, false, false, false]) rfl (by kernel_rfl) rfl (fun _ _ _ h => h) hA (by decide) (fun _ => hS) (fun a w' hA => run_field' Try.underlying39 rfl rfl Try.sizeOf36 (by decide) (hA.ev rfl)) ?_; clear hA; intro a hA
            refine d_takef (i := 3) (L' := #[true, false, false, true, false, false, false, false, false, false, false, false, false, false, false, false]) rfl (by kernel_rfl) rfl (fun _ _ _ h => h) hA (by decide) (fun _ => hS) (fun a w' hA => run_move (hA.ev rfl)) ?_; clear hA; intro a hA
            refine d_takef (i := 6) (L' := #[true, false, false, true, false, false, true, false, false, false, false, false, false, false, false, false]) rfl (by kernel_rfl) rfl (fun _ _ _ h => h) hA (by decide) (fun _ => hS) (fun a w' hA => run_move (hA.ev rfl)) ?_; clear hA; intro a hA
            refine d_takef (i := 8) (L' := #[true, false, false, true, false, false, true, false, true, false, false, false, false, false, false, false]) rfl (by kernel_rfl) rfl (fun _ _ _ h => h) hA (by decide) (fun _ => hS) (fun a w' hA => run_move (hA.ev rfl)) ?_; clear hA; intro a hA
            refine d_many (is := [1, 2, 4]) (by kernel_rfl) (by decide) ⟨?_, ?_, ?_, trivial⟩
            · refine d_op (i := 1) (L' := #[true, true, false, true, false, false, true, false, true, false, false, false, false, false, false, false]) rfl rfl (stv hA (by decide) (run_ld (hA.ev rfl) (run_loadS Try.isAgg36 (At.seg1 (hM.box (.s (.s (.s .z)))) 3 rfl))) ?_)
              clear hA; intro a hA
              refine ⟨fun _ => hS, ?_⟩
              refine d_many (is := [2, 4]) (by kernel_rfl) (by decide) ⟨?_, ?_, trivial⟩
              · refine d_op (i := 2) (L' := #[true, true, true, true, false, false, true, false, true, false, false, false, false, false, false, false]) rfl rfl (stv hA (by decide) (run_ld (hA.ev rfl) (run_loadP Try.isAgg34 Try.sizeOf34 (hM.box (.s .z)))) ?_)
                clear hA; intro a hA
                refine ⟨fun _ => hS, ?_⟩
                refine d_one (i := 4) (L' := #[true, true, true, true, true, false, true, false, true, false, false, false, false, false, false, false]) (by kernel_rfl) rfl rfl (st_call Try.call23 hA [(.pointer (some (⟨g0, 0, none⟩))), (.int .i64 5)] rfl (by decide) (mill_Deck_Next.calls _ (lightclientmill_Deck.mk d_0.L r9188.2.At_) _ _ _ _ _ _ ((RoV.mk (hM.roC (Ms := [_]) hr0_0) (Eq.refl d_0.L.length) hc0_0)) (hM.front (Ms := [_])) H9986) ?_)
                clear hA; rintro _ w10005 ⟨rfl, hMc⟩ a hA
                have hM := hM.call (Ms := [_]) hMc
                clear hMc; simp only [List.cons_append, List.nil_append] at hM
                refine ⟨fun h => absurd h (by decide), ?_⟩
                refine d_takef (i := 5) (L' := #[true, true, true, true, true, true, true, false, true, false, false, false, false, false, false, false]) rfl (by kernel_rfl) rfl (fun _ _ _ h => h) hA (by decide) (fun h => absurd h (by decide)) (fun a w' hA => run_bin (hA.ev rfl) (hA.ev rfl) (bin_sub _ _ _ _)) ?_; clear hA; intro a hA
                refine d_one (i := 7) (L' := #[true, true, true, true, true, true, true, true, true, false, false, false, false, false, false, false]) (by kernel_rfl) rfl rfl (st_call Try.call23 hA [(.pointer (some (⟨g0, 0, none⟩))), (.int .i64 5)] rfl (by decide) (mill_Deck_Next.calls _ (lightclientmill_Deck.mk d_0.L r9985.2.At_) _ _ _ _ _ _ ((RoV.mk (hM.roC (Ms := [_]) hr0_0) (Eq.refl d_0.L.length) hc0_0)) (hM.front (Ms := [_])) H9989) ?_)
                clear hA; rintro _ w10006 ⟨rfl, hMc⟩ a hA
                have hM := hM.call (Ms := [_]) hMc
                clear hMc; simp only [List.cons_append, List.nil_append] at hM
                refine ⟨fun h => absurd h (by decide), ?_⟩
                refine d_one (i := 9) (L' := #[true, true, true, true, true, true, true, true, true, true, false, false, false, false, false, false]) (by kernel_rfl) rfl rfl (st_call Try.call23 hA [(.pointer (some (⟨g0, 0, none⟩))), (.int .i64 50)] rfl (by decide) (mill_Deck_Next.calls _ (lightclientmill_Deck.mk d_0.L r9988.2.At_) _ _ _ _ _ _ ((RoV.mk (hM.roC (Ms := [_]) hr0_0) (Eq.refl d_0.L.length) hc0_0)) (hM.front (Ms := [_])) H9992) ?_)
                clear hA; rintro _ w10007 ⟨rfl, hMc⟩ a hA
                have hM := hM.call (Ms := [_]) hMc
                clear hMc; simp only [List.cons_append, List.nil_append] at hM
                refine ⟨fun h => absurd h (by decide), ?_⟩
                refine d_takef (i := 10) (L' := #[true, true, true, true, true, true, true, true, true, true, true, false, false, false, false, false]) rfl (by kernel_rfl) rfl (fun _ _ _ h => h) hA (by decide) (fun h => absurd h (by decide)) (fun a w' hA => run_conv Try.underlying3 Try.underlying35 (hA.ev rfl)) ?_; clear hA; intro a hA
                refine d_takef (i := 11) (L' := #[true, true, true, true, true, true, true, true, true, true, true, true, false, false, false, false]) rfl (by kernel_rfl) rfl (fun _ _ _ h => h) hA (by decide) (fun h => absurd h (by decide)) (fun a w' hA => run_build [(0, (.agg (pHash.enc (((Vector.replicate 32 0 : Vector Int 32).setIfInBounds 0 (IntKind.u8.wrap t9163)))).toArray)), (1, (.int .i64 (IntKind.i64.wrap (r9985.1 - 1)))), (2, (.int .i64 r9988.1)), (3, (.int .u32 (IntKind.u32.wrap r9991.1)))] zero61 Try.underlying61 (ss := [32, 1, 1, 1]) ⟨Try.sizeOf34, Try.sizeOf3, Try.sizeOf3, Try.sizeOf35, trivial⟩ hA rfl (fill_step rfl (by simp [Value.cells, Pl.len]; try rfl) (enc_fit _ _ rfl) (arr_eq (Stem.spl_ID _ _)) (fill_step rfl rfl (enc_fit _ _ rfl) (arr_eq (Stem.spl_From_ _ _)) (fill_step rfl rfl (enc_fit _ _ rfl) (arr_eq (Stem.spl_To_ _ _)) (fill_step rfl rfl (enc_fit _ _ rfl) (arr_eq (Stem.spl_Due _ _)) (fill_nil)))))) ?_; clear hA; intro a hA
                refine d_one (i := 12) (L' := #[true, true, true, true, true, true, true, true, true, true, true, true, true, false, false, false]) (by kernel_rfl) rfl rfl (e_litNL [(Stem.mk (((Vector.replicate 32 0 : Vector Int 32).setIfInBounds 0 (IntKind.u8.wrap t9163))) (IntKind.i64.wrap (r9985.1 - 1)) r9988.1 (IntKind.u32.wrap r9991.1))] [(.agg (pStem.enc (Stem.mk (((Vector.replicate 32 0 : Vector Int 32).setIfInBounds 0 (IntKind.u8.wrap t9163))) (IntKind.i64.wrap (r9985.1 - 1)) r9988.1 (IntKind.u32.wrap r9991.1))).toArray)] elt36 hM rfl (by decide) hA rfl rfl (List.cons_ne_nil _ _) (by decide) ?_)
                clear hM hA; intro w10009 g10008 hM hE hlo10010 a hA
                refine ⟨fun h => absurd h (by decide), ?_⟩
                refine d_one (i := 13) (L' := #[true, true, true, true, true, true, true, true, true, true, true, true, true, true, false, false]) (by kernel_rfl) rfl rfl (e_appendL elt36 hM (fun _ => (.s (.s (.s (.s (.s (.s .z))))))) (Src.row Try.underlying36 (RowOk.row (hM.row (p := pStem) .z)) (RowOk.len (hM.row (p := pStem) .z))) hl10000 hA rfl rfl (by decide) ?_)
                clear hM hA; intro w10013 A10011 c10012 hM hE hlo10014 a hA
                refine ⟨fun h => absurd h (by decide), ?_⟩
                refine d_takef (i := 14) (L' := #[true, true, true, true, true, true, true, true, true, true, true, true, true, true, true, false]) rfl (by kernel_rfl) rfl (fun _ _ _ h => h) hA (by decide) (fun h => absurd h (by decide)) (fun a w' hA => run_field' Try.underlying39 rfl rfl Try.sizeOf36 (by decide) (hA.ev rfl)) ?_; clear hA; intro a hA
                refine d_one (i := 15) (L' := #[true, true, true, true, true, true, true, true, true, true, true, true, true, true, true, true]) (by kernel_rfl) rfl rfl (e_store (g := g5132) (off := 3) (cur := [(.int .u32 (IntKind.u32.wrap r5126.1)), (.bool (r5129.1 == 0)), (.slice A5728 xs5730.length c5729), (.slice A9154 xs9156.length c9155), (.slice A9159 xs9161.length c9160)]) (cs' := [(.int .u32 (IntKind.u32.wrap r5126.1)), (.bool (r5129.1 == 0)), (.slice A5728 xs5730.length c5729), (.slice A10011 (xs9156.length + 1) c10012), (.slice A9159 xs9161.length c9160)]) hM (.s (.s (.s (.s .z)))) Try.sizeOf36 hA rfl (by simp [add_mk]) rfl (by first | rfl | simp [Value.cells, Pl.len]) (one_val rfl) (by first | exact Nat.le_of_ble_eq_true rfl | (simp [Pl.len]; done)) (rfl) ?_)
                clear hM hA; intro w10015  hM hE  a hA
                refine ⟨fun h => absurd h (by decide), ?_⟩
                refine d_done (by kernel_rfl) ?_
                exact ⟨r9991.2.At_, (xs9156 ++ [(Stem.mk (((Vector.replicate 32 0 : Vector Int 32).setIfInBounds 0 (IntKind.u8.wrap t9163))) (IntKind.i64.wrap (r9985.1 - 1)) r9988.1 (IntKind.u32.wrap r9991.1))]), (.slice A10011 (xs9156.length + 1) c10012), Option.some.inj H9982, (hM.sel [1, 3, 4, 5, 6, 7] rfl (by decide)), ((((hA.nil.cons (hA.get 5 _ rfl)).cons (hA.get 3 _ rfl)).cons (hA.get 2 _ rfl)).cons (hA.get 0 _ rfl))⟩
              · refine d_op (i := 4) (L' := #[true, true, false, true, true, false, true, false, true, false, false, false, false, false, false, false]) rfl rfl (st_call Try.call23 hA [(.pointer (some (⟨g0, 0, none⟩))), (.int .i64 5)] rfl (by decide) (mill_Deck_Next.calls _ (lightclientmill_Deck.mk d_0.L r9188.2.At_) _ _ _ _ _ _ ((RoV.mk (hM.roC (Ms := [_]) hr0_0) (Eq.refl d_0.L.length) hc0_0)) (hM.front (Ms := [_])) H9986) ?_)
                clear hA; rintro _ w10016 ⟨rfl, hMc⟩ a hA
                have hM := hM.call (Ms := [_]) hMc
                clear hMc; simp only [List.cons_append, List.nil_append] at hM
                refine ⟨fun h => absurd h (by decide), ?_⟩
                refine d_takef (i := 5) (L' := #[true, true, false, true, true, true, true, false, true, false, false, false, false, false, false, false]) rfl (by kernel_rfl) rfl (fun _ _ _ h => h) hA (by decide) (fun h => absurd h (by decide)) (fun a w' hA => run_bin (hA.ev rfl) (hA.ev rfl) (bin_sub _ _ _ _)) ?_; clear hA; intro a hA
                refine d_many (is := [2, 7]) (by kernel_rfl) (by decide) ⟨?_, ?_, trivial⟩
                · refine d_op (i := 2) (L' := #[true, true, true, true, true, true, true, false, true, false, false, false, false, false, false, false]) rfl rfl (stv hA (by decide) (run_ld (hA.ev rfl) (run_loadP Try.isAgg34 Try.sizeOf34 (hM.box (.s .z)))) ?_)
                  clear hA; intro a hA
                  refine ⟨fun h => absurd h (by decide), ?_⟩
                  refine d_one (i := 7) (L' := #[true, true, true, true, true, true, true, true, true, false, false, false, false, false, false, false]) (by kernel_rfl) rfl rfl (st_call Try.call23 hA [(.pointer (some (⟨g0, 0, none⟩))), (.int .i64 5)] rfl (by decide) (mill_Deck_Next.calls _ (lightclientmill_Deck.mk d_0.L r9985.2.At_) _ _ _ _ _ _ ((RoV.mk (hM.roC (Ms := [_]) hr0_0) (Eq.refl d_0.L.length) hc0_0)) (hM.front (Ms := [_])) H9989) ?_)
                  clear hA; rintro _ w10017 ⟨rfl, hMc⟩ a hA
                  have hM := hM.call (Ms := [_]) hMc
                  clear hMc; simp only [List.cons_append, List.nil_append] at hM
                  refine ⟨fun h => absurd h (by decide), ?_⟩
                  refine d_one (i := 9) (L' := #[true, true, true, true, true, true, true, true, true, true, false, false, false, false, false, false]) (by kernel_rfl) rfl rfl (st_call Try.call23 hA [(.pointer (some (⟨g0, 0, none⟩))), (.int .i64 50)] rfl (by decide) (mill_Deck_Next.calls _ (lightclientmill_Deck.mk d_0.L r9988.2.At_) _ _ _ _ _ _ ((RoV.mk (hM.roC (Ms := [_]) hr0_0) (Eq.refl d_0.L.length) hc0_0)) (hM.front (Ms := [_])) H9992) ?_)
                  clear hA; rintro _ w10018 ⟨rfl, hMc⟩ a hA
                  have hM := hM.call (Ms := [_]) hMc
                  clear hMc; simp only [List.cons_append, List.nil_append] at hM
                  refine ⟨fun h => absurd h (by decide), ?_⟩
                  refine d_takef (i := 10) (L' := #[true, true, true, true, true, true, true, true, true, true, true, false, false, false, false, false]) rfl (by kernel_rfl) rfl (fun _ _ _ h => h) hA (by decide) (fun h => absurd h (by decide)) (fun a w' hA => run_conv Try.underlying3 Try.underlying35 (hA.ev rfl)) ?_; clear hA; intro a hA
                  refine d_takef (i := 11) (L' := #[true, true, true, true, true, true, true, true, true, true, true, true, false, false, false, false]) rfl (by kernel_rfl) rfl (fun _ _ _ h => h) hA (by decide) (fun h => absurd h (by decide)) (fun a w' hA => run_build [(0, (.agg (pHash.enc (((Vector.replicate 32 0 : Vector Int 32).setIfInBounds 0 (IntKind.u8.wrap t9163)))).toArray)), (1, (.int .i64 (IntKind.i64.wrap (r9985.1 - 1)))), (2, (.int .i64 r9988.1)), (3, (.int .u32 (IntKind.u32.wrap r9991.1)))] zero61 Try.underlying61 (ss := [32, 1, 1, 1]) ⟨Try.sizeOf34, Try.sizeOf3, Try.sizeOf3, Try.sizeOf35, trivial⟩ hA rfl (fill_step rfl (by simp [Value.cells, Pl.len]; try rfl) (enc_fit _ _ rfl) (arr_eq (Stem.spl_ID _ _)) (fill_step rfl rfl (enc_fit _ _ rfl) (arr_eq (Stem.spl_From_ _ _)) (fill_step rfl rfl (enc_fit _ _ rfl) (arr_eq (Stem.spl_To_ _ _)) (fill_step rfl rfl (enc_fit _ _ rfl) (arr_eq (Stem.spl_Due _ _)) (fill_nil)))))) ?_; clear hA; intro a hA
                  refine d_one (i := 12) (L' := #[true, true, true, true, true, true, true, true, true, true, true, true, true, false, false, false]) (by kernel_rfl) rfl rfl (e_litNL [(Stem.mk (((Vector.replicate 32 0 : Vector Int 32).setIfInBounds 0 (IntKind.u8.wrap t9163))) (IntKind.i64.wrap (r9985.1 - 1)) r9988.1 (IntKind.u32.wrap r9991.1))] [(.agg (pStem.enc (Stem.mk (((Vector.replicate 32 0 : Vector Int 32).setIfInBounds 0 (IntKind.u8.wrap t9163))) (IntKind.i64.wrap (r9985.1 - 1)) r9988.1 (IntKind.u32.wrap r9991.1))).toArray)] elt36 hM rfl (by decide) hA rfl rfl (List.cons_ne_nil _ _) (by decide) ?_)
                  clear hM hA; intro w10020 g10019 hM hE hlo10021 a hA
                  refine ⟨fun h => absurd h (by decide), ?_⟩
                  refine d_one (i := 13) (L' := #[true, true, true, true, true, true, true, true, true, true, true, true, true, true, false, false]) (by kernel_rfl) rfl rfl (e_appendL elt36 hM (fun _ => (.s (.s (.s (.s (.s (.s .z))))))) (Src.row Try.underlying36 (RowOk.row (hM.row (p := pStem) .z)) (RowOk.len (hM.row (p := pStem) .z))) hl10000 hA rfl rfl (by decide) ?_)
                  clear hM hA; intro w10024 A10022 c10023 hM hE hlo10025 a hA
                  refine ⟨fun h => absurd h (by decide), ?_⟩
                  refine d_takef (i := 14) (L' := #[true, true, true, true, true, true, true, true, true, true, true, true, true, true, true, false]) rfl (by kernel_rfl) rfl (fun _ _ _ h => h) hA (by decide) (fun h => absurd h (by decide)) (fun a w' hA => run_field' Try.underlying39 rfl rfl Try.sizeOf36 (by decide) (hA.ev rfl)) ?_; clear hA; intro a hA
                  refine d_one (i := 15) (L' := #[true, true, true, true, true, true, true, true, true, true, true, true, true, true, true, true]) (by kernel_rfl) rfl rfl (e_store (g := g5132) (off := 3) (cur := [(.int .u32 (IntKind.u32.wrap r5126.1)), (.bool (r5129.1 == 0)), (.slice A5728 xs5730.length c5729), (.slice A9154 xs9156.length c9155), (.slice A9159 xs9161.length c9160)]) (cs' := [(.int .u32 (IntKind.u32.wrap r5126.1)), (.bool (r5129.1 == 0)), (.slice A5728 xs5730.length c5729), (.slice A10022 (xs9156.length + 1) c10023), (.slice A9159 xs9161.length c9160)]) hM (.s (.s (.s (.s .z)))) Try.sizeOf36 hA rfl (by simp [add_mk]) rfl (by first | rfl | simp [Value.cells, Pl.len]) (one_val rfl) (by first | exact Nat.le_of_ble_eq_true rfl | (simp [Pl.len]; done)) (rfl) ?_)
                  clear hM hA; intro w10026  hM hE  a hA
                  refine ⟨fun h => absurd h (by decide), ?_⟩
                  refine d_done (by kernel_rfl) ?_
                  exact ⟨r9991.2.At_, (xs9156 ++ [(Stem.mk (((Vector.replicate 32 0 : Vector Int 32).setIfInBounds 0 (IntKind.u8.wrap t9163))) (IntKind.i64.wrap (r9985.1 - 1)) r9988.1 (IntKind.u32.wrap r9991.1))]), (.slice A10022 (xs9156.length + 1) c10023), Option.some.inj H9982, (hM.sel [1, 3, 4, 5, 6, 7] rfl (by decide)), ((((hA.nil.cons (hA.get 5 _ rfl)).cons (hA.get 3 _ rfl)).cons (hA.get 2 _ rfl)).cons (hA.get 0 _ rfl))⟩
                · refine d_op (i := 7) (L' := #[true, true, false, true, true, true, true, true, true, false, false, false, false, false, false, false]) rfl rfl (st_call Try.call23 hA [(.pointer (some (⟨g0, 0, none⟩))), (.int .i64 5)] rfl (by decide) (mill_Deck_Next.calls _ (lightclientmill_Deck.mk d_0.L r9985.2.At_) _ _ _ _ _ _ ((RoV.mk (hM.roC (Ms := [_]) hr0_0) (Eq.refl d_0.L.length) hc0_0)) (hM.front (Ms := [_])) H9989) ?_)
                  clear hA; rintro _ w10027 ⟨rfl, hMc⟩ a hA
                  have hM := hM.call (Ms := [_]) hMc
                  clear hMc; simp only [List.cons_append, List.nil_append] at hM
                  refine ⟨fun h => absurd h (by decide), ?_⟩
                  refine d_many (is := [2, 9]) (by kernel_rfl) (by decide) ⟨?_, ?_, trivial⟩
                  · refine d_op (i := 2) (L' := #[true, true, true, true, true, true, true, true, true, false, false, false, false, false, false, false]) rfl rfl (stv hA (by decide) (run_ld (hA.ev rfl) (run_loadP Try.isAgg34 Try.sizeOf34 (hM.box (.s .z)))) ?_)
                    clear hA; intro a hA
                    refine ⟨fun h => absurd h (by decide), ?_⟩
                    refine d_one (i := 9) (L' := #[true, true, true, true, true, true, true, true, true, true, false, false, false, false, false, false]) (by kernel_rfl) rfl rfl (st_call Try.call23 hA [(.pointer (some (⟨g0, 0, none⟩))), (.int .i64 50)] rfl (by decide) (mill_Deck_Next.calls _ (lightclientmill_Deck.mk d_0.L r9988.2.At_) _ _ _ _ _ _ ((RoV.mk (hM.roC (Ms := [_]) hr0_0) (Eq.refl d_0.L.length) hc0_0)) (hM.front (Ms := [_])) H9992) ?_)
                    clear hA; rintro _ w10028 ⟨rfl, hMc⟩ a hA
                    have hM := hM.call (Ms := [_]) hMc
                    clear hMc; simp only [List.cons_append, List.nil_append] at hM
                    refine ⟨fun h => absurd h (by decide), ?_⟩
                    refine d_takef (i := 10) (L' := #[true, true, true, true, true, true, true, true, true, true, true, false, false, false, false, false]) rfl (by kernel_rfl) rfl (fun _ _ _ h => h) hA (by decide) (fun h => absurd h (by decide)) (fun a w' hA => run_conv Try.underlying3 Try.underlying35 (hA.ev rfl)) ?_; clear hA; intro a hA
                    refine d_takef (i := 11) (L' := #[true, true, true, true, true, true, true, true, true, true, true, true, false, false, false, false]) rfl (by kernel_rfl) rfl (fun _ _ _ h => h) hA (by decide) (fun h => absurd h (by decide)) (fun a w' hA => run_build [(0, (.agg (pHash.enc (((Vector.replicate 32 0 : Vector Int 32).setIfInBounds 0 (IntKind.u8.wrap t9163)))).toArray)), (1, (.int .i64 (IntKind.i64.wrap (r9985.1 - 1)))), (2, (.int .i64 r9988.1)), (3, (.int .u32 (IntKind.u32.wrap r9991.1)))] zero61 Try.underlying61 (ss := [32, 1, 1, 1]) ⟨Try.sizeOf34, Try.sizeOf3, Try.sizeOf3, Try.sizeOf35, trivial⟩ hA rfl (fill_step rfl (by simp [Value.cells, Pl.len]; try rfl) (enc_fit _ _ rfl) (arr_eq (Stem.spl_ID _ _)) (fill_step rfl rfl (enc_fit _ _ rfl) (arr_eq (Stem.spl_From_ _ _)) (fill_step rfl rfl (enc_fit _ _ rfl) (arr_eq (Stem.spl_To_ _ _)) (fill_step rfl rfl (enc_fit _ _ rfl) (arr_eq (Stem.spl_Due _ _)) (fill_nil)))))) ?_; clear hA; intro a hA
                    refine d_one (i := 12) (L' := #[true, true, true, true, true, true, true, true, true, true, true, true, true, false, false, false]) (by kernel_rfl) rfl rfl (e_litNL [(Stem.mk (((Vector.replicate 32 0 : Vector Int 32).setIfInBounds 0 (IntKind.u8.wrap t9163))) (IntKind.i64.wrap (r9985.1 - 1)) r9988.1 (IntKind.u32.wrap r9991.1))] [(.agg (pStem.enc (Stem.mk (((Vector.replicate 32 0 : Vector Int 32).setIfInBounds 0 (IntKind.u8.wrap t9163))) (IntKind.i64.wrap (r9985.1 - 1)) r9988.1 (IntKind.u32.wrap r9991.1))).toArray)] elt36 hM rfl (by decide) hA rfl rfl (List.cons_ne_nil _ _) (by decide) ?_)
                    clear hM hA; intro w10030 g10029 hM hE hlo10031 a hA
                    refine ⟨fun h => absurd h (by decide), ?_⟩
                    refine d_one (i := 13) (L' := #[true, true, true, true, true, true, true, true, true, true, true, true, true, true, false, false]) (by kernel_rfl) rfl rfl (e_appendL elt36 hM (fun _ => (.s (.s (.s (.s (.s (.s .z))))))) (Src.row Try.underlying36 (RowOk.row (hM.row (p := pStem) .z)) (RowOk.len (hM.row (p := pStem) .z))) hl10000 hA rfl rfl (by decide) ?_)
                    clear hM hA; intro w10034 A10032 c10033 hM hE hlo10035 a hA
                    refine ⟨fun h => absurd h (by decide), ?_⟩
                    refine d_takef (i := 14) (L' := #[true, true, true, true, true, true, true, true, true, true, true, true, true, true, true, false]) rfl (by kernel_rfl) rfl (fun _ _ _ h => h) hA (by decide) (fun h => absurd h (by decide)) (fun a w' hA => run_field' Try.underlying39 rfl rfl Try.sizeOf36 (by decide) (hA.ev rfl)) ?_; clear hA; intro a hA
                    refine d_one (i := 15) (L' := #[true, true, true, true, true, true, true, true, true, true, true, true, true, true, true, true]) (by kernel_rfl) rfl rfl (e_store (g := g5132) (off := 3) (cur := [(.int .u32 (IntKind.u32.wrap r5126.1)), (.bool (r5129.1 == 0)), (.slice A5728 xs5730.length c5729), (.slice A9154 xs9156.length c9155), (.slice A9159 xs9161.length c9160)]) (cs' := [(.int .u32 (IntKind.u32.wrap r5126.1)), (.bool (r5129.1 == 0)), (.slice A5728 xs5730.length c5729), (.slice A10032 (xs9156.length + 1) c10033), (.slice A9159 xs9161.length c9160)]) hM (.s (.s (.s (.s .z)))) Try.sizeOf36 hA rfl (by simp [add_mk]) rfl (by first | rfl | simp [Value.cells, Pl.len]) (one_val rfl) (by first | exact Nat.le_of_ble_eq_true rfl | (simp [Pl.len]; done)) (rfl) ?_)
                    clear hM hA; intro w10036  hM hE  a hA
                    refine ⟨fun h => absurd h (by decide), ?_⟩
                    refine d_done (by kernel_rfl) ?_
                    exact ⟨r9991.2.At_, (xs9156 ++ [(Stem.mk (((Vector.replicate 32 0 : Vector Int 32).setIfInBounds 0 (IntKind.u8.wrap t9163))) (IntKind.i64.wrap (r9985.1 - 1)) r9988.1 (IntKind.u32.wrap r9991.1))]), (.slice A10032 (xs9156.length + 1) c10033), Option.some.inj H9982, (hM.sel [1, 3, 4, 5, 6, 7] rfl (by decide)), ((((hA.nil.cons (hA.get 5 _ rfl)).cons (hA.get 3 _ rfl)).cons (hA.get 2 _ rfl)).cons (hA.get 0 _ rfl))⟩
                  · refine d_op (i := 9) (L' := #[true, true, false, true, true, true, true, true, true, true, false, false, false, false, false, false]) rfl rfl (st_call Try.call23 hA [(.pointer (some (⟨g0, 0, none⟩))), (.int .i64 50)] rfl (by decide) (mill_Deck_Next.calls _ (lightclientmill_Deck.mk d_0.L r9988.2.At_) _ _ _ _ _ _ ((RoV.mk (hM.roC (Ms := [_]) hr0_0) (Eq.refl d_0.L.length) hc0_0)) (hM.front (Ms := [_])) H9992) ?_)
                    clear hA; rintro _ w10037 ⟨rfl, hMc⟩ a hA
                    have hM := hM.call (Ms := [_]) hMc
                    clear hMc; simp only [List.cons_append, List.nil_append] at hM
                    refine ⟨fun h => absurd h (by decide), ?_⟩
                    refine d_takef (i := 10) (L' := #[true, true, false, true, true, true, true, true, true, true, true, false, false, false, false, false]) rfl (by kernel_rfl) rfl (fun _ _ _ h => h) hA (by decide) (fun h => absurd h (by decide)) (fun a w' hA => run_conv Try.underlying3 Try.underlying35 (hA.ev rfl)) ?_; clear hA; intro a hA
                    refine d_one (i := 2) (L' := #[true, true, true, true, true, true, true, true, true, true, true, false, false, false, false, false]) (by kernel_rfl) rfl rfl (stv hA (by decide) (run_ld (hA.ev rfl) (run_loadP Try.isAgg34 Try.sizeOf34 (hM.box (.s .z)))) ?_)
                    clear hA; intro a hA
                    refine ⟨fun h => absurd h (by decide), ?_⟩
                    refine d_takef (i := 11) (L' := #[true, true, true, true, true, true, true, true, true, true, true, true, false, false, false, false]) rfl (by kernel_rfl) rfl (fun _ _ _ h => h) hA (by decide) (fun h => absurd h (by decide)) (fun a w' hA => run_build [(0, (.agg (pHash.enc (((Vector.replicate 32 0 : Vector Int 32).setIfInBounds 0 (IntKind.u8.wrap t9163)))).toArray)), (1, (.int .i64 (IntKind.i64.wrap (r9985.1 - 1)))), (2, (.int .i64 r9988.1)), (3, (.int .u32 (IntKind.u32.wrap r9991.1)))] zero61 Try.underlying61 (ss := [32, 1, 1, 1]) ⟨Try.sizeOf34, Try.sizeOf3, Try.sizeOf3, Try.sizeOf35, trivial⟩ hA rfl (fill_step rfl (by simp [Value.cells, Pl.len]; try rfl) (enc_fit _ _ rfl) (arr_eq (Stem.spl_ID _ _)) (fill_step rfl rfl (enc_fit _ _ rfl) (arr_eq (Stem.spl_From_ _ _)) (fill_step rfl rfl (enc_fit _ _ rfl) (arr_eq (Stem.spl_To_ _ _)) (fill_step rfl rfl (enc_fit _ _ rfl) (arr_eq (Stem.spl_Due _ _)) (fill_nil)))))) ?_; clear hA; intro a hA
                    refine d_one (i := 12) (L' := #[true, true, true, true, true, true, true, true, true, true, true, true, true, false, false, false]) (by kernel_rfl) rfl rfl (e_litNL [(Stem.mk (((Vector.replicate 32 0 : Vector Int 32).setIfInBounds 0 (IntKind.u8.wrap t9163))) (IntKind.i64.wrap (r9985.1 - 1)) r9988.1 (IntKind.u32.wrap r9991.1))] [(.agg (pStem.enc (Stem.mk (((Vector.replicate 32 0 : Vector Int 32).setIfInBounds 0 (IntKind.u8.wrap t9163))) (IntKind.i64.wrap (r9985.1 - 1)) r9988.1 (IntKind.u32.wrap r9991.1))).toArray)] elt36 hM rfl (by decide) hA rfl rfl (List.cons_ne_nil _ _) (by decide) ?_)
                    clear hM hA; intro w10039 g10038 hM hE hlo10040 a hA
                    refine ⟨fun h => absurd h (by decide), ?_⟩
                    refine d_one (i := 13) (L' := #[true, true, true, true, true, true, true, true, true, true, true, true, true, true, false, false]) (by kernel_rfl) rfl rfl (e_appendL elt36 hM (fun _ => (.s (.s (.s (.s (.s (.s .z))))))) (Src.row Try.underlying36 (RowOk.row (hM.row (p := pStem) .z)) (RowOk.len (hM.row (p := pStem) .z))) hl10000 hA rfl rfl (by decide) ?_)
                    clear hM hA; intro w10043 A10041 c10042 hM hE hlo10044 a hA
                    refine ⟨fun h => absurd h (by decide), ?_⟩
                    refine d_takef (i := 14) (L' := #[true, true, true, true, true, true, true, true, true, true, true, true, true, true, true, false]) rfl (by kernel_rfl) rfl (fun _ _ _ h => h) hA (by decide) (fun h => absurd h (by decide)) (fun a w' hA => run_field' Try.underlying39 rfl rfl Try.sizeOf36 (by decide) (hA.ev rfl)) ?_; clear hA; intro a hA
                    refine d_one (i := 15) (L' := #[true, true, true, true, true, true, true, true, true, true, true, true, true, true, true, true]) (by kernel_rfl) rfl rfl (e_store (g := g5132) (off := 3) (cur := [(.int .u32 (IntKind.u32.wrap r5126.1)), (.bool (r5129.1 == 0)), (.slice A5728 xs5730.length c5729), (.slice A9154 xs9156.length c9155), (.slice A9159 xs9161.length c9160)]) (cs' := [(.int .u32 (IntKind.u32.wrap r5126.1)), (.bool (r5129.1 == 0)), (.slice A5728 xs5730.length c5729), (.slice A10041 (xs9156.length + 1) c10042), (.slice A9159 xs9161.length c9160)]) hM (.s (.s (.s (.s .z)))) Try.sizeOf36 hA rfl (by simp [add_mk]) rfl (by first | rfl | simp [Value.cells, Pl.len]) (one_val rfl) (by first | exact Nat.le_of_ble_eq_true rfl | (simp [Pl.len]; done)) (rfl) ?_)
                    clear hM hA; intro w10045  hM hE  a hA
                    refine ⟨fun h => absurd h (by decide), ?_⟩
                    refine d_done (by kernel_rfl) ?_
                    exact ⟨r9991.2.At_, (xs9156 ++ [(Stem.mk (((Vector.replicate 32 0 : Vector Int 32).setIfInBounds 0 (IntKind.u8.wrap t9163))) (IntKind.i64.wrap (r9985.1 - 1)) r9988.1 (IntKind.u32.wrap r9991.1))]), (.slice A10041 (xs9156.length + 1) c10042), Option.some.inj H9982, (hM.sel [1, 3, 4, 5, 6, 7] rfl (by decide)), ((((hA.nil.cons (hA.get 5 _ rfl)).cons (hA.get 3 _ rfl)).cons (hA.get 2 _ rfl)).cons (hA.get 0 _ rfl))⟩
            · refine d_op (i := 2) (L' := #[true, false, true, true, false, false, true, false, true, false, false, false, false, false, false, false]) rfl rfl (stv hA (by decide) (run_ld (hA.ev rfl) (run_loadP Try.isAgg34 Try.sizeOf34 (hM.box (.s .z)))) ?_)
              clear hA; intro a hA
              refine ⟨fun _ => hS, ?_⟩
              refine d_many (is := [1, 4]) (by kernel_rfl) (by decide) ⟨?_, ?_, trivial⟩
              · refine d_op (i := 1) (L' := #[true, true, true, true, false, false, true, false, true, false, false, false, false, false, false, false]) rfl rfl (stv hA (by decide) (run_ld (hA.ev rfl) (run_loadS Try.isAgg36 (At.seg1 (hM.box (.s (.s (.s .z)))) 3 rfl))) ?_)
                clear hA; intro a hA
                refine ⟨fun _ => hS, ?_⟩
                refine d_one (i := 4) (L' := #[true, true, true, true, true, false, true, false, true, false, false, false, false, false, false, false]) (by kernel_rfl) rfl rfl (st_call Try.call23 hA [(.pointer (some (⟨g0, 0, none⟩))), (.int .i64 5)] rfl (by decide) (mill_Deck_Next.calls _ (lightclientmill_Deck.mk d_0.L r9188.2.At_) _ _ _ _ _ _ ((RoV.mk (hM.roC (Ms := [_]) hr0_0) (Eq.refl d_0.L.length) hc0_0)) (hM.front (Ms := [_])) H9986) ?_)
                clear hA; rintro _ w10046 ⟨rfl, hMc⟩ a hA
                have hM := hM.call (Ms := [_]) hMc
                clear hMc; simp only [List.cons_append, List.nil_append] at hM
                refine ⟨fun h => absurd h (by decide), ?_⟩
                refine d_takef (i := 5) (L' := #[true, true, true, true, true, true, true, false, true, false, false, false, false, false, false, false]) rfl (by kernel_rfl) rfl (fun _ _ _ h => h) hA (by decide) (fun h => absurd h (by decide)) (fun a w' hA => run_bin (hA.ev rfl) (hA.ev rfl) (bin_sub _ _ _ _)) ?_; clear hA; intro a hA
                refine d_one (i := 7) (L' := #[true, true, true, true, true, true, true, true, true, false, false, false, false, false, false, false]) (by kernel_rfl) rfl rfl (st_call Try.call23 hA [(.pointer (some (⟨g0, 0, none⟩))), (.int .i64 5)] rfl (by decide) (mill_Deck_Next.calls _ (lightclientmill_Deck.mk d_0.L r9985.2.At_) _ _ _ _ _ _ ((RoV.mk (hM.roC (Ms := [_]) hr0_0) (Eq.refl d_0.L.length) hc0_0)) (hM.front (Ms := [_])) H9989) ?_)
                clear hA; rintro _ w10047 ⟨rfl, hMc⟩ a hA
                have hM := hM.call (Ms := [_]) hMc
                clear hMc; simp only [List.cons_append, List.nil_append] at hM
                refine ⟨fun h => absurd h (by decide), ?_⟩
                refine d_one (i := 9) (L' := #[true, true, true, true, true, true, true, true, true, true, false, false, false, false, false, false]) (by kernel_rfl) rfl rfl (st_call Try.call23 hA [(.pointer (some (⟨g0, 0, none⟩))), (.int .i64 50)] rfl (by decide) (mill_Deck_Next.calls _ (lightclientmill_Deck.mk d_0.L r9988.2.At_) _ _ _ _ _ _ ((RoV.mk (hM.roC (Ms := [_]) hr0_0) (Eq.refl d_0.L.length) hc0_0)) (hM.front (Ms := [_])) H9992) ?_)
                clear hA; rintro _ w10048 ⟨rfl, hMc⟩ a hA
                have hM := hM.call (Ms := [_]) hMc
                clear hMc; simp only [List.cons_append, List.nil_append] at hM
                refine ⟨fun h => absurd h (by decide), ?_⟩
                refine d_takef (i := 10) (L' := #[true, true, true, true, true, true, true, true, true, true, true, false, false, false, false, false]) rfl (by kernel_rfl) rfl (fun _ _ _ h => h) hA (by decide) (fun h => absurd h (by decide)) (fun a w' hA => run_conv Try.underlying3 Try.underlying35 (hA.ev rfl)) ?_; clear hA; intro a hA
                refine d_takef (i := 11) (L' := #[true, true, true, true, true, true, true, true, true, true, true, true, false, false, false, false]) rfl (by kernel_rfl) rfl (fun _ _ _ h => h) hA (by decide) (fun h => absurd h (by decide)) (fun a w' hA => run_build [(0, (.agg (pHash.enc (((Vector.replicate 32 0 : Vector Int 32).setIfInBounds 0 (IntKind.u8.wrap t9163)))).toArray)), (1, (.int .i64 (IntKind.i64.wrap (r9985.1 - 1)))), (2, (.int .i64 r9988.1)), (3, (.int .u32 (IntKind.u32.wrap r9991.1)))] zero61 Try.underlying61 (ss := [32, 1, 1, 1]) ⟨Try.sizeOf34, Try.sizeOf3, Try.sizeOf3, Try.sizeOf35, trivial⟩ hA rfl (fill_step rfl (by simp [Value.cells, Pl.len]; try rfl) (enc_fit _ _ rfl) (arr_eq (Stem.spl_ID _ _)) (fill_step rfl rfl (enc_fit _ _ rfl) (arr_eq (Stem.spl_From_ _ _)) (fill_step rfl rfl (enc_fit _ _ rfl) (arr_eq (Stem.spl_To_ _ _)) (fill_step rfl rfl (enc_fit _ _ rfl) (arr_eq (Stem.spl_Due _ _)) (fill_nil)))))) ?_; clear hA; intro a hA
                refine d_one (i := 12) (L' := #[true, true, true, true, true, true, true, true, true, true, true, true, true, false, false, false]) (by kernel_rfl) rfl rfl (e_litNL [(Stem.mk (((Vector.replicate 32 0 : Vector Int 32).setIfInBounds 0 (IntKind.u8.wrap t9163))) (IntKind.i64.wrap (r9985.1 - 1)) r9988.1 (IntKind.u32.wrap r9991.1))] [(.agg (pStem.enc (Stem.mk (((Vector.replicate 32 0 : Vector Int 32).setIfInBounds 0 (IntKind.u8.wrap t9163))) (IntKind.i64.wrap (r9985.1 - 1)) r9988.1 (IntKind.u32.wrap r9991.1))).toArray)] elt36 hM rfl (by decide) hA rfl rfl (List.cons_ne_nil _ _) (by decide) ?_)
                clear hM hA; intro w10050 g10049 hM hE hlo10051 a hA
                refine ⟨fun h => absurd h (by decide), ?_⟩
                refine d_one (i := 13) (L' := #[true, true, true, true, true, true, true, true, true, true, true, true, true, true, false, false]) (by kernel_rfl) rfl rfl (e_appendL elt36 hM (fun _ => (.s (.s (.s (.s (.s (.s .z))))))) (Src.row Try.underlying36 (RowOk.row (hM.row (p := pStem) .z)) (RowOk.len (hM.row (p := pStem) .z))) hl10000 hA rfl rfl (by decide) ?_)
                clear hM hA; intro w10054 A10052 c10053 hM hE hlo10055 a hA
                refine ⟨fun h => absurd h (by decide), ?_⟩
                refine d_takef (i := 14) (L' := #[true, true, true, true, true, true, true, true, true, true, true, true, true, true, true, false]) rfl (by kernel_rfl) rfl (fun _ _ _ h => h) hA (by decide) (fun h => absurd h (by decide)) (fun a w' hA => run_field' Try.underlying39 rfl rfl Try.sizeOf36 (by decide) (hA.ev rfl)) ?_; clear hA; intro a hA
                refine d_one (i := 15) (L' := #[true, true, true, true, true, true, true, true, true, true, true, true, true, true, true, true]) (by kernel_rfl) rfl rfl (e_store (g := g5132) (off := 3) (cur := [(.int .u32 (IntKind.u32.wrap r5126.1)), (.bool (r5129.1 == 0)), (.slice A5728 xs5730.length c5729), (.slice A9154 xs9156.length c9155), (.slice A9159 xs9161.length c9160)]) (cs' := [(.int .u32 (IntKind.u32.wrap r5126.1)), (.bool (r5129.1 == 0)), (.slice A5728 xs5730.length c5729), (.slice A10052 (xs9156.length + 1) c10053), (.slice A9159 xs9161.length c9160)]) hM (.s (.s (.s (.s .z)))) Try.sizeOf36 hA rfl (by simp [add_mk]) rfl (by first | rfl | simp [Value.cells, Pl.len]) (one_val rfl) (by first | exact Nat.le_of_ble_eq_true rfl | (simp [Pl.len]; done)) (rfl) ?_)
                clear hM hA; intro w10056  hM hE  a hA
                refine ⟨fun h => absurd h (by decide), ?_⟩
                refine d_done (by kernel_rfl) ?_
                exact ⟨r9991.2.At_, (xs9156 ++ [(Stem.mk (((Vector.replicate 32 0 : Vector Int 32).setIfInBounds 0 (IntKind.u8.wrap t9163))) (IntKind.i64.wrap (r9985.1 - 1)) r9988.1 (IntKind.u32.wrap r9991.1))]), (.slice A10052 (xs9156.length + 1) c10053), Option.some.inj H9982, (hM.sel [1, 3, 4, 5, 6, 7] rfl (by decide)), ((((hA.nil.cons (hA.get 5 _ rfl)).cons (hA.get 3 _ rfl)).cons (hA.get 2 _ rfl)).cons (hA.get 0 _ rfl))⟩
              · refine d_op (i := 4) (L' := #[true, false, true, true, true, false, true, false, true, false, false, false, false, false, false, false]) rfl rfl (st_call Try.call23 hA [(.pointer (some (⟨g0, 0, none⟩))), (.int .i64 5)] rfl (by decide) (mill_Deck_Next.calls _ (lightclientmill_Deck.mk d_0.L r9188.2.At_) _ _ _ _ _ _ ((RoV.mk (hM.roC (Ms := [_]) hr0_0) (Eq.refl d_0.L.length) hc0_0)) (hM.front (Ms := [_])) H9986) ?_)
                clear hA; rintro _ w10057 ⟨rfl, hMc⟩ a hA
                have hM := hM.call (Ms := [_]) hMc
                clear hMc; simp only [List.cons_append, List.nil_append] at hM
                refine ⟨fun h => absurd h (by decide), ?_⟩
                refine d_takef (i := 5) (L' := #[true, false, true, true, true, true, true, false, true, false, false, false, false, false, false, false]) rfl (by kernel_rfl) rfl (fun _ _ _ h => h) hA (by decide) (fun h => absurd h (by decide)) (fun a w' hA => run_bin (hA.ev rfl) (hA.ev rfl) (bin_sub _ _ _ _)) ?_; clear hA; intro a hA
                refine d_many (is := [1, 7]) (by kernel_rfl) (by decide) ⟨?_, ?_, trivial⟩
                · refine d_op (i := 1) (L' := #[true, true, true, true, true, true, true, false, true, false, false, false, false, false, false, false]) rfl rfl (stv hA (by decide) (run_ld (hA.ev rfl) (run_loadS Try.isAgg36 (At.seg1 (hM.box (.s (.s (.s .z)))) 3 rfl))) ?_)
                  clear hA; intro a hA
                  refine ⟨fun h => absurd h (by decide), ?_⟩
                  refine d_one (i := 7) (L' := #[true, true, true, true, true, true, true, true, true, false, false, false, false, false, false, false]) (by kernel_rfl) rfl rfl (st_call Try.call23 hA [(.pointer (some (⟨g0, 0, none⟩))), (.int .i64 5)] rfl (by decide) (mill_Deck_Next.calls _ (lightclientmill_Deck.mk d_0.L r9985.2.At_) _ _ _ _ _ _ ((RoV.mk (hM.roC (Ms := [_]) hr0_0) (Eq.refl d_0.L.length) hc0_0)) (hM.front (Ms := [_])) H9989) ?_)
                  clear hA; rintro _ w10058 ⟨rfl, hMc⟩ a hA
                  have hM := hM.call (Ms := [_]) hMc
                  clear hMc; simp only [List.cons_append, List.nil_append] at hM
                  refine ⟨fun h => absurd h (by decide), ?_⟩
                  refine d_one (i := 9) (L' := #[true, true, true, true, true, true, true, true, true, true, false, false, false, false, false, false]) (by kernel_rfl) rfl rfl (st_call Try.call23 hA [(.pointer (some (⟨g0, 0, none⟩))), (.int .i64 50)] rfl (by decide) (mill_Deck_Next.calls _ (lightclientmill_Deck.mk d_0.L r9988.2.At_) _ _ _ _ _ _ ((RoV.mk (hM.roC (Ms := [_]) hr0_0) (Eq.refl d_0.L.length) hc0_0)) (hM.front (Ms := [_])) H9992) ?_)
                  clear hA; rintro _ w10059 ⟨rfl, hMc⟩ a hA
                  have hM := hM.call (Ms := [_]) hMc
                  clear hMc; simp only [List.cons_append, List.nil_append] at hM
                  refine ⟨fun h => absurd h (by decide), ?_⟩
                  refine d_takef (i := 10) (L' := #[true, true, true, true, true, true, true, true, true, true, true, false, false, false, false, false]) rfl (by kernel_rfl) rfl (fun _ _ _ h => h) hA (by decide) (fun h => absurd h (by decide)) (fun a w' hA => run_conv Try.underlying3 Try.underlying35 (hA.ev rfl)) ?_; clear hA; intro a hA
                  refine d_takef (i := 11) (L' := #[true, true, true, true, true, true, true, true, true, true, true, true, false, false, false, false]) rfl (by kernel_rfl) rfl (fun _ _ _ h => h) hA (by decide) (fun h => absurd h (by decide)) (fun a w' hA => run_build [(0, (.agg (pHash.enc (((Vector.replicate 32 0 : Vector Int 32).setIfInBounds 0 (IntKind.u8.wrap t9163)))).toArray)), (1, (.int .i64 (IntKind.i64.wrap (r9985.1 - 1)))), (2, (.int .i64 r9988.1)), (3, (.int .u32 (IntKind.u32.wrap r9991.1)))] zero61 Try.underlying61 (ss := [32, 1, 1, 1]) ⟨Try.sizeOf34, Try.sizeOf3, Try.sizeOf3, Try.sizeOf35, trivial⟩ hA rfl (fill_step rfl (by simp [Value.cells, Pl.len]; try rfl) (enc_fit _ _ rfl) (arr_eq (Stem.spl_ID _ _)) (fill_step rfl rfl (enc_fit _ _ rfl) (arr_eq (Stem.spl_From_ _ _)) (fill_step rfl rfl (enc_fit _ _ rfl) (arr_eq (Stem.spl_To_ _ _)) (fill_step rfl rfl (enc_fit _ _ rfl) (arr_eq (Stem.spl_Due _ _)) (fill_nil)))))) ?_; clear hA; intro a hA
                  refine d_one (i := 12) (L' := #[true, true, true, true, true, true, true, true, true, true, true, true, true, false, false, false]) (by kernel_rfl) rfl rfl (e_litNL [(Stem.mk (((Vector.replicate 32 0 : Vector Int 32).setIfInBounds 0 (IntKind.u8.wrap t9163))) (IntKind.i64.wrap (r9985.1 - 1)) r9988.1 (IntKind.u32.wrap r9991.1))] [(.agg (pStem.enc (Stem.mk (((Vector.replicate 32 0 : Vector Int 32).setIfInBounds 0 (IntKind.u8.wrap t9163))) (IntKind.i64.wrap (r9985.1 - 1)) r9988.1 (IntKind.u32.wrap r9991.1))).toArray)] elt36 hM rfl (by decide) hA rfl rfl (List.cons_ne_nil _ _) (by decide) ?_)
                  clear hM hA; intro w10061 g10060 hM hE hlo10062 a hA
                  refine ⟨fun h => absurd h (by decide), ?_⟩
                  refine d_one (i := 13) (L' := #[true, true, true, true, true, true, true, true, true, true, true, true, true, true, false, false]) (by kernel_rfl) rfl rfl (e_appendL elt36 hM (fun _ => (.s (.s (.s (.s (.s (.s .z))))))) (Src.row Try.underlying36 (RowOk.row (hM.row (p := pStem) .z)) (RowOk.len (hM.row (p := pStem) .z))) hl10000 hA rfl rfl (by decide) ?_)
                  clear hM hA; intro w10065 A10063 c10064 hM hE hlo10066 a hA
                  refine ⟨fun h => absurd h (by decide), ?_⟩
                  refine d_takef (i := 14) (L' := #[true, true, true, true, true, true, true, true, true, true, true, true, true, true, true, false]) rfl (by kernel_rfl) rfl (fun _ _ _ h => h) hA (by decide) (fun h => absurd h (by decide)) (fun a w' hA => run_field' Try.underlying39 rfl rfl Try.sizeOf36 (by decide) (hA.ev rfl)) ?_; clear hA; intro a hA
                  refine d_one (i := 15) (L' := #[true, true, true, true, true, true, true, true, true, true, true, true, true, true, true, true]) (by kernel_rfl) rfl rfl (e_store (g := g5132) (off := 3) (cur := [(.int .u32 (IntKind.u32.wrap r5126.1)), (.bool (r5129.1 == 0)), (.slice A5728 xs5730.length c5729), (.slice A9154 xs9156.length c9155), (.slice A9159 xs9161.length c9160)]) (cs' := [(.int .u32 (IntKind.u32.wrap r5126.1)), (.bool (r5129.1 == 0)), (.slice A5728 xs5730.length c5729), (.slice A10063 (xs9156.length + 1) c10064), (.slice A9159 xs9161.length c9160)]) hM (.s (.s (.s (.s .z)))) Try.sizeOf36 hA rfl (by simp [add_mk]) rfl (by first | rfl | simp [Value.cells, Pl.len]) (one_val rfl) (by first | exact Nat.le_of_ble_eq_true rfl | (simp [Pl.len]; done)) (rfl) ?_)
                  clear hM hA; intro w10067  hM hE  a hA
                  refine ⟨fun h => absurd h (by decide), ?_⟩
                  refine d_done (by kernel_rfl) ?_
                  exact ⟨r9991.2.At_, (xs9156 ++ [(Stem.mk (((Vector.replicate 32 0 : Vector Int 32).setIfInBounds 0 (IntKind.u8.wrap t9163))) (IntKind.i64.wrap (r9985.1 - 1)) r9988.1 (IntKind.u32.wrap r9991.1))]), (.slice A10063 (xs9156.length + 1) c10064), Option.some.inj H9982, (hM.sel [1, 3, 4, 5, 6, 7] rfl (by decide)), ((((hA.nil.cons (hA.get 5 _ rfl)).cons (hA.get 3 _ rfl)).cons (hA.get 2 _ rfl)).cons (hA.get 0 _ rfl))⟩
                · refine d_op (i := 7) (L' := #[true, false, true, true, true, true, true, true, true, false, false, false, false, false, false, false]) rfl rfl (st_call Try.call23 hA [(.pointer (some (⟨g0, 0, none⟩))), (.int .i64 5)] rfl (by decide) (mill_Deck_Next.calls _ (lightclientmill_Deck.mk d_0.L r9985.2.At_) _ _ _ _ _ _ ((RoV.mk (hM.roC (Ms := [_]) hr0_0) (Eq.refl d_0.L.length) hc0_0)) (hM.front (Ms := [_])) H9989) ?_)
                  clear hA; rintro _ w10068 ⟨rfl, hMc⟩ a hA
                  have hM := hM.call (Ms := [_]) hMc
                  clear hMc; simp only [List.cons_append, List.nil_append] at hM
                  refine ⟨fun h => absurd h (by decide), ?_⟩
                  refine d_many (is := [1, 9]) (by kernel_rfl) (by decide) ⟨?_, ?_, trivial⟩
                  · refine d_op (i := 1) (L' := #[true, true, true, true, true, true, true, true, true, false, false, false, false, false, false, false]) rfl rfl (stv hA (by decide) (run_ld (hA.ev rfl) (run_loadS Try.isAgg36 (At.seg1 (hM.box (.s (.s (.s .z)))) 3 rfl))) ?_)
                    clear hA; intro a hA
                    refine ⟨fun h => absurd h (by decide), ?_⟩
                    refine d_one (i := 9) (L' := #[true, true, true, true, true, true, true, true, true, true, false, false, false, false, false, false]) (by kernel_rfl) rfl rfl (st_call Try.call23 hA [(.pointer (some (⟨g0, 0, none⟩))), (.int .i64 50)] rfl (by decide) (mill_Deck_Next.calls _ (lightclientmill_Deck.mk d_0.L r9988.2.At_) _ _ _ _ _ _ ((RoV.mk (hM.roC (Ms := [_]) hr0_0) (Eq.refl d_0.L.length) hc0_0)) (hM.front (Ms := [_])) H9992) ?_)
                    clear hA; rintro _ w10069 ⟨rfl, hMc⟩ a hA
                    have hM := hM.call (Ms := [_]) hMc
                    clear hMc; simp only [List.cons_append, List.nil_append] at hM
                    refine ⟨fun h => absurd h (by decide), ?_⟩
                    refine d_takef (i := 10) (L' := #[true, true, true, true, true, true, true, true, true, true, true, false, false, false, false, false]) rfl (by kernel_rfl) rfl (fun _ _ _ h => h) hA (by decide) (fun h => absurd h (by decide)) (fun a w' hA => run_conv Try.underlying3 Try.underlying35 (hA.ev rfl)) ?_; clear hA; intro a hA
                    refine d_takef (i := 11) (L' := #[true, true, true, true, true, true, true, true, true, true, true, true, false, false, false, false]) rfl (by kernel_rfl) rfl (fun _ _ _ h => h) hA (by decide) (fun h => absurd h (by decide)) (fun a w' hA => run_build [(0, (.agg (pHash.enc (((Vector.replicate 32 0 : Vector Int 32).setIfInBounds 0 (IntKind.u8.wrap t9163)))).toArray)), (1, (.int .i64 (IntKind.i64.wrap (r9985.1 - 1)))), (2, (.int .i64 r9988.1)), (3, (.int .u32 (IntKind.u32.wrap r9991.1)))] zero61 Try.underlying61 (ss := [32, 1, 1, 1]) ⟨Try.sizeOf34, Try.sizeOf3, Try.sizeOf3, Try.sizeOf35, trivial⟩ hA rfl (fill_step rfl (by simp [Value.cells, Pl.len]; try rfl) (enc_fit _ _ rfl) (arr_eq (Stem.spl_ID _ _)) (fill_step rfl rfl (enc_fit _ _ rfl) (arr_eq (Stem.spl_From_ _ _)) (fill_step rfl rfl (enc_fit _ _ rfl) (arr_eq (Stem.spl_To_ _ _)) (fill_step rfl rfl (enc_fit _ _ rfl) (arr_eq (Stem.spl_Due _ _)) (fill_nil)))))) ?_; clear hA; intro a hA
                    refine d_one (i := 12) (L' := #[true, true, true, true, true, true, true, true, true, true, true, true, true, false, false, false]) (by kernel_rfl) rfl rfl (e_litNL [(Stem.mk (((Vector.replicate 32 0 : Vector Int 32).setIfInBounds 0 (IntKind.u8.wrap t9163))) (IntKind.i64.wrap (r9985.1 - 1)) r9988.1 (IntKind.u32.wrap r9991.1))] [(.agg (pStem.enc (Stem.mk (((Vector.replicate 32 0 : Vector Int 32).setIfInBounds 0 (IntKind.u8.wrap t9163))) (IntKind.i64.wrap (r9985.1 - 1)) r9988.1 (IntKind.u32.wrap r9991.1))).toArray)] elt36 hM rfl (by decide) hA rfl rfl (List.cons_ne_nil _ _) (by decide) ?_)
                    clear hM hA; intro w10071 g10070 hM hE hlo10072 a hA
                    refine ⟨fun h => absurd h (by decide), ?_⟩
                    refine d_one (i := 13) (L' := #[true, true, true, true, true, true, true, true, true, true, true, true, true, true, false, false]) (by kernel_rfl) rfl rfl (e_appendL elt36 hM (fun _ => (.s (.s (.s (.s (.s (.s .z))))))) (Src.row Try.underlying36 (RowOk.row (hM.row (p := pStem) .z)) (RowOk.len (hM.row (p := pStem) .z))) hl10000 hA rfl rfl (by decide) ?_)
                    clear hM hA; intro w10075 A10073 c10074 hM hE hlo10076 a hA
                    refine ⟨fun h => absurd h (by decide), ?_⟩
                    refine d_takef (i := 14) (L' := #[true, true, true, true, true, true, true, true, true, true, true, true, true, true, true, false]) rfl (by kernel_rfl) rfl (fun _ _ _ h => h) hA (by decide) (fun h => absurd h (by decide)) (fun a w' hA => run_field' Try.underlying39 rfl rfl Try.sizeOf36 (by decide) (hA.ev rfl)) ?_; clear hA; intro a hA
                    refine d_one (i := 15) (L' := #[true, true, true, true, true, true, true, true, true, true, true, true, true, true, true, true]) (by kernel_rfl) rfl rfl (e_store (g := g5132) (off := 3) (cur := [(.int .u32 (IntKind.u32.wrap r5126.1)), (.bool (r5129.1 == 0)), (.slice A5728 xs5730.length c5729), (.slice A9154 xs9156.length c9155), (.slice A9159 xs9161.length c9160)]) (cs' := [(.int .u32 (IntKind.u32.wrap r5126.1)), (.bool (r5129.1 == 0)), (.slice A5728 xs5730.length c5729), (.slice A10073 (xs9156.length + 1) c10074), (.slice A9159 xs9161.length c9160)]) hM (.s (.s (.s (.s .z)))) Try.sizeOf36 hA rfl (by simp [add_mk]) rfl (by first | rfl | simp [Value.cells, Pl.len]) (one_val rfl) (by first | exact Nat.le_of_ble_eq_true rfl | (simp [Pl.len]; done)) (rfl) ?_)
                    clear hM hA; intro w10077  hM hE  a hA
                    refine ⟨fun h => absurd h (by decide), ?_⟩
                    refine d_done (by kernel_rfl) ?_
                    exact ⟨r9991.2.At_, (xs9156 ++ [(Stem.mk (((Vector.replicate 32 0 : Vector Int 32).setIfInBounds 0 (IntKind.u8.wrap t9163))) (IntKind.i64.wrap (r9985.1 - 1)) r9988.1 (IntKind.u32.wrap r9991.1))]), (.slice A10073 (xs9156.length + 1) c10074), Option.some.inj H9982, (hM.sel [1, 3, 4, 5, 6, 7] rfl (by decide)), ((((hA.nil.cons (hA.get 5 _ rfl)).cons (hA.get 3 _ rfl)).cons (hA.get 2 _ rfl)).cons (hA.get 0 _ rfl))⟩
                  · refine d_op (i := 9) (L' := #[true, false, true, true, true, true, true, true, true, true, false, false, false, false, false, false]) rfl rfl (st_call Try.call23 hA [(.pointer (some (⟨g0, 0, none⟩))), (.int .i64 50)] rfl (by decide) (mill_Deck_Next.calls _ (lightclientmill_Deck.mk d_0.L r9988.2.At_) _ _ _ _ _ _ ((RoV.mk (hM.roC (Ms := [_]) hr0_0) (Eq.refl d_0.L.length) hc0_0)) (hM.front (Ms := [_])) H9992) ?_)
                    clear hA; rintro _ w10078 ⟨rfl, hMc⟩ a hA
                    have hM := hM.call (Ms := [_]) hMc
                    clear hMc; simp only [List.cons_append, List.nil_append] at hM
                    refine ⟨fun h => absurd h (by decide), ?_⟩
                    refine d_takef (i := 10) (L' := #[true, false, true, true, true, true, true, true, true, true, true, false, false, false, false, false]) rfl (by kernel_rfl) rfl (fun _ _ _ h => h) hA (by decide) (fun h => absurd h (by decide)) (fun a w' hA => run_conv Try.underlying3 Try.underlying35 (hA.ev rfl)) ?_; clear hA; intro a hA
                    refine d_takef (i := 11) (L' := #[true, false, true, true, true, true, true, true, true, true, true, true, false, false, false, false]) rfl (by kernel_rfl) rfl (fun _ _ _ h => h) hA (by decide) (fun h => absurd h (by decide)) (fun a w' hA => run_build [(0, (.agg (pHash.enc (((Vector.replicate 32 0 : Vector Int 32).setIfInBounds 0 (IntKind.u8.wrap t9163)))).toArray)), (1, (.int .i64 (IntKind.i64.wrap (r9985.1 - 1)))), (2, (.int .i64 r9988.1)), (3, (.int .u32 (IntKind.u32.wrap r9991.1)))] zero61 Try.underlying61 (ss := [32, 1, 1, 1]) ⟨Try.sizeOf34, Try.sizeOf3, Try.sizeOf3, Try.sizeOf35, trivial⟩ hA rfl (fill_step rfl (by simp [Value.cells, Pl.len]; try rfl) (enc_fit _ _ rfl) (arr_eq (Stem.spl_ID _ _)) (fill_step rfl rfl (enc_fit _ _ rfl) (arr_eq (Stem.spl_From_ _ _)) (fill_step rfl rfl (enc_fit _ _ rfl) (arr_eq (Stem.spl_To_ _ _)) (fill_step rfl rfl (enc_fit _ _ rfl) (arr_eq (Stem.spl_Due _ _)) (fill_nil)))))) ?_; clear hA; intro a hA
                    refine d_many (is := [1, 12]) (by kernel_rfl) (by decide) ⟨?_, ?_, trivial⟩
                    · refine d_op (i := 1) (L' := #[true, true, true, true, true, true, true, true, true, true, true, true, false, false, false, false]) rfl rfl (stv hA (by decide) (run_ld (hA.ev rfl) (run_loadS Try.isAgg36 (At.seg1 (hM.box (.s (.s (.s .z)))) 3 rfl))) ?_)
                      clear hA; intro a hA
                      refine ⟨fun h => absurd h (by decide), ?_⟩
                      refine d_one (i := 12) (L' := #[true, true, true, true, true, true, true, true, true, true, true, true, true, false, false, false]) (by kernel_rfl) rfl rfl (e_litNL [(Stem.mk (((Vector.replicate 32 0 : Vector Int 32).setIfInBounds 0 (IntKind.u8.wrap t9163))) (IntKind.i64.wrap (r9985.1 - 1)) r9988.1 (IntKind.u32.wrap r9991.1))] [(.agg (pStem.enc (Stem.mk (((Vector.replicate 32 0 : Vector Int 32).setIfInBounds 0 (IntKind.u8.wrap t9163))) (IntKind.i64.wrap (r9985.1 - 1)) r9988.1 (IntKind.u32.wrap r9991.1))).toArray)] elt36 hM rfl (by decide) hA rfl rfl (List.cons_ne_nil _ _) (by decide) ?_)
                      clear hM hA; intro w10080 g10079 hM hE hlo10081 a hA
                      refine ⟨fun h => absurd h (by decide), ?_⟩
                      refine d_one (i := 13) (L' := #[true, true, true, true, true, true, true, true, true, true, true, true, true, true, false, false]) (by kernel_rfl) rfl rfl (e_appendL elt36 hM (fun _ => (.s (.s (.s (.s (.s (.s .z))))))) (Src.row Try.underlying36 (RowOk.row (hM.row (p := pStem) .z)) (RowOk.len (hM.row (p := pStem) .z))) hl10000 hA rfl rfl (by decide) ?_)
                      clear hM hA; intro w10084 A10082 c10083 hM hE hlo10085 a hA
                      refine ⟨fun h => absurd h (by decide), ?_⟩
                      refine d_takef (i := 14) (L' := #[true, true, true, true, true, true, true, true, true, true, true, true, true, true, true, false]) rfl (by kernel_rfl) rfl (fun _ _ _ h => h) hA (by decide) (fun h => absurd h (by decide)) (fun a w' hA => run_field' Try.underlying39 rfl rfl Try.sizeOf36 (by decide) (hA.ev rfl)) ?_; clear hA; intro a hA
                      refine d_one (i := 15) (L' := #[true, true, true, true, true, true, true, true, true, true, true, true, true, true, true, true]) (by kernel_rfl) rfl rfl (e_store (g := g5132) (off := 3) (cur := [(.int .u32 (IntKind.u32.wrap r5126.1)), (.bool (r5129.1 == 0)), (.slice A5728 xs5730.length c5729), (.slice A9154 xs9156.length c9155), (.slice A9159 xs9161.length c9160)]) (cs' := [(.int .u32 (IntKind.u32.wrap r5126.1)), (.bool (r5129.1 == 0)), (.slice A5728 xs5730.length c5729), (.slice A10082 (xs9156.length + 1) c10083), (.slice A9159 xs9161.length c9160)]) hM (.s (.s (.s (.s .z)))) Try.sizeOf36 hA rfl (by simp [add_mk]) rfl (by first | rfl | simp [Value.cells, Pl.len]) (one_val rfl) (by first | exact Nat.le_of_ble_eq_true rfl | (simp [Pl.len]; done)) (rfl) ?_)
                      clear hM hA; intro w10086  hM hE  a hA
                      refine ⟨fun h => absurd h (by decide), ?_⟩
                      refine d_done (by kernel_rfl) ?_
                      exact ⟨r9991.2.At_, (xs9156 ++ [(Stem.mk (((Vector.replicate 32 0 : Vector Int 32).setIfInBounds 0 (IntKind.u8.wrap t9163))) (IntKind.i64.wrap (r9985.1 - 1)) r9988.1 (IntKind.u32.wrap r9991.1))]), (.slice A10082 (xs9156.length + 1) c10083), Option.some.inj H9982, (hM.sel [1, 3, 4, 5, 6, 7] rfl (by decide)), ((((hA.nil.cons (hA.get 5 _ rfl)).cons (hA.get 3 _ rfl)).cons (hA.get 2 _ rfl)).cons (hA.get 0 _ rfl))⟩
                    · refine d_op (i := 12) (L' := #[true, false, true, true, true, true, true, true, true, true, true, true, true, false, false, false]) rfl rfl (e_litNL [(Stem.mk (((Vector.replicate 32 0 : Vector Int 32).setIfInBounds 0 (IntKind.u8.wrap t9163))) (IntKind.i64.wrap (r9985.1 - 1)) r9988.1 (IntKind.u32.wrap r9991.1))] [(.agg (pStem.enc (Stem.mk (((Vector.replicate 32 0 : Vector Int 32).setIfInBounds 0 (IntKind.u8.wrap t9163))) (IntKind.i64.wrap (r9985.1 - 1)) r9988.1 (IntKind.u32.wrap r9991.1))).toArray)] elt36 hM rfl (by decide) hA rfl rfl (List.cons_ne_nil _ _) (by decide) ?_)
                      clear hM hA; intro w10088 g10087 hM hE hlo10089 a hA
                      refine ⟨fun h => absurd h (by decide), ?_⟩
                      refine d_one (i := 1) (L' := #[true, true, true, true, true, true, true, true, true, true, true, true, true, false, false, false]) (by kernel_rfl) rfl rfl (stv hA (by decide) (run_ld (hA.ev rfl) (run_loadS Try.isAgg36 (At.seg1 (hM.box (.s (.s (.s (.s .z))))) 3 rfl))) ?_)
                      clear hA; intro a hA
                      refine ⟨fun h => absurd h (by decide), ?_⟩
                      refine d_one (i := 13) (L' := #[true, true, true, true, true, true, true, true, true, true, true, true, true, true, false, false]) (by kernel_rfl) rfl rfl (e_appendL elt36 hM (fun _ => (.s (.s (.s (.s (.s (.s .z))))))) (Src.row Try.underlying36 (RowOk.row (hM.row (p := pStem) .z)) (RowOk.len (hM.row (p := pStem) .z))) hl10000 hA rfl rfl (by decide) ?_)
                      clear hM hA; intro w10092 A10090 c10091 hM hE hlo10093 a hA
                      refine ⟨fun h => absurd h (by decide), ?_⟩
                      refine d_takef (i := 14) (L' := #[true, true, true, true, true, true, true, true, true, true, true, true, true, true, true, false]) rfl (by kernel_rfl) rfl (fun _ _ _ h => h) hA (by decide) (fun h => absurd h (by decide)) (fun a w' hA => run_field' Try.underlying39 rfl rfl Try.sizeOf36 (by decide) (hA.ev rfl)) ?_; clear hA; intro a hA
                      refine d_one (i := 15) (L' := #[true, true, true, true, true, true, true, true, true, true, true, true, true, true, true, true]) (by kernel_rfl) rfl rfl (e_store (g := g5132) (off := 3) (cur := [(.int .u32 (IntKind.u32.wrap r5126.1)), (.bool (r5129.1 == 0)), (.slice A5728 xs5730.length c5729), (.slice A9154 xs9156.length c9155), (.slice A9159 xs9161.length c9160)]) (cs' := [(.int .u32 (IntKind.u32.wrap r5126.1)), (.bool (r5129.1 == 0)), (.slice A5728 xs5730.length c5729), (.slice A10090 (xs9156.length + 1) c10091), (.slice A9159 xs9161.length c9160)]) hM (.s (.s (.s (.s .z)))) Try.sizeOf36 hA rfl (by simp [add_mk]) rfl (by first | rfl | simp [Value.cells, Pl.len]) (one_val rfl) (by first | exact Nat.le_of_ble_eq_true rfl | (simp [Pl.len]; done)) (rfl) ?_)
                      clear hM hA; intro w10094  hM hE  a hA
                      refine ⟨fun h => absurd h (by decide), ?_⟩
                      refine d_done (by kernel_rfl) ?_
                      exact ⟨r9991.2.At_, (xs9156 ++ [(Stem.mk (((Vector.replicate 32 0 : Vector Int 32).setIfInBounds 0 (IntKind.u8.wrap t9163))) (IntKind.i64.wrap (r9985.1 - 1)) r9988.1 (IntKind.u32.wrap r9991.1))]), (.slice A10090 (xs9156.length + 1) c10091), Option.some.inj H9982, (hM.sel [1, 3, 4, 5, 6, 7] rfl (by decide)), ((((hA.nil.cons (hA.get 5 _ rfl)).cons (hA.get 3 _ rfl)).cons (hA.get 2 _ rfl)).cons (hA.get 0 _ rfl))⟩
            · refine d_op (i := 4) (L' := #[true, false, false, true, true, false, true, false, true, false, false, false, false, false, false, false]) rfl rfl (st_call Try.call23 hA [(.pointer (some (⟨g0, 0, none⟩))), (.int .i64 5)] rfl (by decide) (mill_Deck_Next.calls _ (lightclientmill_Deck.mk d_0.L r9188.2.At_) _ _ _ _ _ _ ((RoV.mk (hM.roC (Ms := [_]) hr0_0) (Eq.refl d_0.L.length) hc0_0)) (hM.front (Ms := [_])) H9986) ?_)
              clear hA; rintro _ w10095 ⟨rfl, hMc⟩ a hA
              have hM := hM.call (Ms := [_]) hMc
              clear hMc; simp only [List.cons_append, List.nil_append] at hM
              refine ⟨fun h => absurd h (by decide), ?_⟩
              refine d_takef (i := 5) (L' := #[true, false, false, true, true, true, true, false, true, false, false, false, false, false, false, false]) rfl (by kernel_rfl) rfl (fun _ _ _ h => h) hA (by decide) (fun h => absurd h (by decide)) (fun a w' hA => run_bin (hA.ev rfl) (hA.ev rfl) (bin_sub _ _ _ _)) ?_; clear hA; intro a hA
              refine d_many (is := [1, 2, 7]) (by kernel_rfl) (by decide) ⟨?_, ?_, ?_, trivial⟩
              · refine d_op (i := 1) (L' := #[true, true, false, true, true, true, true, false, true, false, false, false, false, false, false, false]) rfl rfl (stv hA (by decide) (run_ld (hA.ev rfl) (run_loadS Try.isAgg36 (At.seg1 (hM.box (.s (.s (.s .z)))) 3 rfl))) ?_)
                clear hA; intro a hA
                refine ⟨fun h => absurd h (by decide), ?_⟩
                refine d_many (is := [2, 7]) (by kernel_rfl) (by decide) ⟨?_, ?_, trivial⟩
                · refine d_op (i := 2) (L' := #[true, true, true, true, true, true, true, false, true, false, false, false, false, false, false, false]) rfl rfl (stv hA (by decide) (run_ld (hA.ev rfl) (run_loadP Try.isAgg34 Try.sizeOf34 (hM.box (.s .z)))) ?_)
                  clear hA; intro a hA
                  refine ⟨fun h => absurd h (by decide), ?_⟩
                  refine d_one (i := 7) (L' := #[true, true, true, true, true, true, true, true, true, false, false, false, false, false, false, false]) (by kernel_rfl) rfl rfl (st_call Try.call23 hA [(.pointer (some (⟨g0, 0, none⟩))), (.int .i64 5)] rfl (by decide) (mill_Deck_Next.calls _ (lightclientmill_Deck.mk d_0.L r9985.2.At_) _ _ _ _ _ _ ((RoV.mk (hM.roC (Ms := [_]) hr0_0) (Eq.refl d_0.L.length) hc0_0)) (hM.front (Ms := [_])) H9989) ?_)
                  clear hA; rintro _ w10096 ⟨rfl, hMc⟩ a hA
                  have hM := hM.call (Ms := [_]) hMc
                  clear hMc; simp only [List.cons_append, List.nil_append] at hM
                  refine ⟨fun h => absurd h (by decide), ?_⟩
                  refine d_one (i := 9) (L' := #[true, true, true, true, true, true, true, true, true, true, false, false, false, false, false, false]) (by kernel_rfl) rfl rfl (st_call Try.call23 hA [(.pointer (some (⟨g0, 0, none⟩))), (.int .i64 50)] rfl (by decide) (mill_Deck_Next.calls _ (lightclientmill_Deck.mk d_0.L r9988.2.At_) _ _ _ _ _ _ ((RoV.mk (hM.roC (Ms := [_]) hr0_0) (Eq.refl d_0.L.length) hc0_0)) (hM.front (Ms := [_])) H9992) ?_)
                  clear hA; rintro _ w10097 ⟨rfl, hMc⟩ a hA
                  have hM := hM.call (Ms := [_]) hMc
                  clear hMc; simp only [List.cons_append, List.nil_append] at hM
                  refine ⟨fun h => absurd h (by decide), ?_⟩
                  refine d_takef (i := 10) (L' := #[true, true, true, true, true, true, true, true, true, true, true, false, false, false, false, false]) rfl (by kernel_rfl) rfl (fun _ _ _ h => h) hA (by decide) (fun h => absurd h (by decide)) (fun a w' hA => run_conv Try.underlying3 Try.underlying35 (hA.ev rfl)) ?_; clear hA; intro a hA
                  refine d_takef (i := 11) (L' := #[true, true, true, true, true, true, true, true, true, true, true, true, false, false, false, false]) rfl (by kernel_rfl) rfl (fun _ _ _ h => h) hA (by decide) (fun h => absurd h (by decide)) (fun a w' hA => run_build [(0, (.agg (pHash.enc (((Vector.replicate 32 0 : Vector Int 32).setIfInBounds 0 (IntKind.u8.wrap t9163)))).toArray)), (1, (.int .i64 (IntKind.i64.wrap (r9985.1 - 1)))), (2, (.int .i64 r9988.1)), (3, (.int .u32 (IntKind.u32.wrap r9991.1)))] zero61 Try.underlying61 (ss := [32, 1, 1, 1]) ⟨Try.sizeOf34, Try.sizeOf3, Try.sizeOf3, Try.sizeOf35, trivial⟩ hA rfl (fill_step rfl (by simp [Value.cells, Pl.len]; try rfl) (enc_fit _ _ rfl) (arr_eq (Stem.spl_ID _ _)) (fill_step rfl rfl (enc_fit _ _ rfl) (arr_eq (Stem.spl_From_ _ _)) (fill_step rfl rfl (enc_fit _ _ rfl) (arr_eq (Stem.spl_To_ _ _)) (fill_step rfl rfl (enc_fit _ _ rfl) (arr_eq (Stem.spl_Due _ _)) (fill_nil)))))) ?_; clear hA; intro a hA
                  refine d_one (i := 12) (L' := #[true, true, true, true, true, true, true, true, true, true, true, true, true, false, false, false]) (by kernel_rfl) rfl rfl (e_litNL [(Stem.mk (((Vector.replicate 32 0 : Vector Int 32).setIfInBounds 0 (IntKind.u8.wrap t9163))) (IntKind.i64.wrap (r9985.1 - 1)) r9988.1 (IntKind.u32.wrap r9991.1))] [(.agg (pStem.enc (Stem.mk (((Vector.replicate 32 0 : Vector Int 32).setIfInBounds 0 (IntKind.u8.wrap t9163))) (IntKind.i64.wrap (r9985.1 - 1)) r9988.1 (IntKind.u32.wrap r9991.1))).toArray)] elt36 hM rfl (by decide) hA rfl rfl (List.cons_ne_nil _ _) (by decide) ?_)
                  clear hM hA; intro w10099 g10098 hM hE hlo10100 a hA
                  refine ⟨fun h => absurd h (by decide), ?_⟩
                  refine d_one (i := 13) (L' := #[true, true, true, true, true, true, true, true, true, true, true, true, true, true, false, false]) (by kernel_rfl) rfl rfl (e_appendL elt36 hM (fun _ => (.s (.s (.s (.s (.s (.s .z))))))) (Src.row Try.underlying36 (RowOk.row (hM.row (p := pStem) .z)) (RowOk.len (hM.row (p := pStem) .z))) hl10000 hA rfl rfl (by decide) ?_)
                  clear hM hA; intro w10103 A10101 c10102 hM hE hlo10104 a hA
                  refine ⟨fun h => absurd h (by decide), ?_⟩
                  refine d_takef (i := 14) (L' := #[true, true, true, true, true, true, true, true, true, true, true, true, true, true, true, false]) rfl (by kernel_rfl) rfl (fun _ _ _ h => h) hA (by decide) (fun h => absurd h (by decide)) (fun a w' hA => run_field' Try.underlying39 rfl rfl Try.sizeOf36 (by decide) (hA.ev rfl)) ?_; clear hA; intro a hA
                  refine d_one (i := 15) (L' := #[true, true, true, true, true, true, true, true, true, true, true, true, true, true, true, true]) (by kernel_rfl) rfl rfl (e_store (g := g5132) (off := 3) (cur := [(.int .u32 (IntKind.u32.wrap r5126.1)), (.bool (r5129.1 == 0)), (.slice A5728 xs5730.length c5729), (.slice A9154 xs9156.length c9155), (.slice A9159 xs9161.length c9160)]) (cs' := [(.int .u32 (IntKind.u32.wrap r5126.1)), (.bool (r5129.1 == 0)), (.slice A5728 xs5730.length c5729), (.slice A10101 (xs9156.length + 1) c10102), (.slice A9159 xs9161.length c9160)]) hM (.s (.s (.s (.s .z)))) Try.sizeOf36 hA rfl (by simp [add_mk]) rfl (by first | rfl | simp [Value.cells, Pl.len]) (one_val rfl) (by first | exact Nat.le_of_ble_eq_true rfl | (simp [Pl.len]; done)) (rfl) ?_)
                  clear hM hA; intro w10105  hM hE  a hA
                  refine ⟨fun h => absurd h (by decide), ?_⟩
                  refine d_done (by kernel_rfl) ?_
                  exact ⟨r9991.2.At_, (xs9156 ++ [(Stem.mk (((Vector.replicate 32 0 : Vector Int 32).setIfInBounds 0 (IntKind.u8.wrap t9163))) (IntKind.i64.wrap (r9985.1 - 1)) r9988.1 (IntKind.u32.wrap r9991.1))]), (.slice A10101 (xs9156.length + 1) c10102), Option.some.inj H9982, (hM.sel [1, 3, 4, 5, 6, 7] rfl (by decide)), ((((hA.nil.cons (hA.get 5 _ rfl)).cons (hA.get 3 _ rfl)).cons (hA.get 2 _ rfl)).cons (hA.get 0 _ rfl))⟩
                · refine d_op (i := 7) (L' := #[true, true, false, true, true, true, true, true, true, false, false, false, false, false, false, false]) rfl rfl (st_call Try.call23 hA [(.pointer (some (⟨g0, 0, none⟩))), (.int .i64 5)] rfl (by decide) (mill_Deck_Next.calls _ (lightclientmill_Deck.mk d_0.L r9985.2.At_) _ _ _ _ _ _ ((RoV.mk (hM.roC (Ms := [_]) hr0_0) (Eq.refl d_0.L.length) hc0_0)) (hM.front (Ms := [_])) H9989) ?_)
                  clear hA; rintro _ w10106 ⟨rfl, hMc⟩ a hA
                  have hM := hM.call (Ms := [_]) hMc
                  clear hMc; simp only [List.cons_append, List.nil_append] at hM
                  refine ⟨fun h => absurd h (by decide), ?_⟩
                  refine d_many (is := [2, 9]) (by kernel_rfl) (by decide) ⟨?_, ?_, trivial⟩
                  · refine d_op (i := 2) (L' := #[true, true, true, true, true, true, true, true, true, false, false, false, false, false, false, false]) rfl rfl (stv hA (by decide) (run_ld (hA.ev rfl) (run_loadP Try.isAgg34 Try.sizeOf34 (hM.box (.s .z)))) ?_)
                    clear hA; intro a hA
                    refine ⟨fun h => absurd h (by decide), ?_⟩
                    refine d_one (i := 9) (L' := #[true, true, true, true, true, true, true, true, true, true, false, false, false, false, false, false]) (by kernel_rfl) rfl rfl (st_call Try.call23 hA [(.pointer (some (⟨g0, 0, none⟩))), (.int .i64 50)] rfl (by decide) (mill_Deck_Next.calls _ (lightclientmill_Deck.mk d_0.L r9988.2.At_) _ _ _ _ _ _ ((RoV.mk (hM.roC (Ms := [_]) hr0_0) (Eq.refl d_0.L.length) hc0_0)) (hM.front (Ms := [_])) H9992) ?_)
                    clear hA; rintro _ w10107 ⟨rfl, hMc⟩ a hA
                    have hM := hM.call (Ms := [_]) hMc
                    clear hMc; simp only [List.cons_append, List.nil_append] at hM
                    refine ⟨fun h => absurd h (by decide), ?_⟩
                    refine d_takef (i := 10) (L' := #[true, true, true, true, true, true, true, true, true, true, true, false, false, false, false, false]) rfl (by kernel_rfl) rfl (fun _ _ _ h => h) hA (by decide) (fun h => absurd h (by decide)) (fun a w' hA => run_conv Try.underlying3 Try.underlying35 (hA.ev rfl)) ?_; clear hA; intro a hA
                    refine d_takef (i := 11) (L' := #[true, true, true, true, true, true, true, true, true, true, true, true, false, false, false, false]) rfl (by kernel_rfl) rfl (fun _ _ _ h => h) hA (by decide) (fun h => absurd h (by decide)) (fun a w' hA => run_build [(0, (.agg (pHash.enc (((Vector.replicate 32 0 : Vector Int 32).setIfInBounds 0 (IntKind.u8.wrap t9163)))).toArray)), (1, (.int .i64 (IntKind.i64.wrap (r9985.1 - 1)))), (2, (.int .i64 r9988.1)), (3, (.int .u32 (IntKind.u32.wrap r9991.1)))] zero61 Try.underlying61 (ss := [32, 1, 1, 1]) ⟨Try.sizeOf34, Try.sizeOf3, Try.sizeOf3, Try.sizeOf35, trivial⟩ hA rfl (fill_step rfl (by simp [Value.cells, Pl.len]; try rfl) (enc_fit _ _ rfl) (arr_eq (Stem.spl_ID _ _)) (fill_step rfl rfl (enc_fit _ _ rfl) (arr_eq (Stem.spl_From_ _ _)) (fill_step rfl rfl (enc_fit _ _ rfl) (arr_eq (Stem.spl_To_ _ _)) (fill_step rfl rfl (enc_fit _ _ rfl) (arr_eq (Stem.spl_Due _ _)) (fill_nil)))))) ?_; clear hA; intro a hA
                    refine d_one (i := 12) (L' := #[true, true, true, true, true, true, true, true, true, true, true, true, true, false, false, false]) (by kernel_rfl) rfl rfl (e_litNL [(Stem.mk (((Vector.replicate 32 0 : Vector Int 32).setIfInBounds 0 (IntKind.u8.wrap t9163))) (IntKind.i64.wrap (r9985.1 - 1)) r9988.1 (IntKind.u32.wrap r9991.1))] [(.agg (pStem.enc (Stem.mk (((Vector.replicate 32 0 : Vector Int 32).setIfInBounds 0 (IntKind.u8.wrap t9163))) (IntKind.i64.wrap (r9985.1 - 1)) r9988.1 (IntKind.u32.wrap r9991.1))).toArray)] elt36 hM rfl (by decide) hA rfl rfl (List.cons_ne_nil _ _) (by decide) ?_)
                    clear hM hA; intro w10109 g10108 hM hE hlo10110 a hA
                    refine ⟨fun h => absurd h (by decide), ?_⟩
                    refine d_one (i := 13) (L' := #[true, true, true, true, true, true, true, true, true, true, true, true, true, true, false, false]) (by kernel_rfl) rfl rfl (e_appendL elt36 hM (fun _ => (.s (.s (.s (.s (.s (.s .z))))))) (Src.row Try.underlying36 (RowOk.row (hM.row (p := pStem) .z)) (RowOk.len (hM.row (p := pStem) .z))) hl10000 hA rfl rfl (by decide) ?_)
                    clear hM hA; intro w10113 A10111 c10112 hM hE hlo10114 a hA
                    refine ⟨fun h => absurd h (by decide), ?_⟩
                    refine d_takef (i := 14) (L' := #[true, true, true, true, true, true, true, true, true, true, true, true, true, true, true, false]) rfl (by kernel_rfl) rfl (fun _ _ _ h => h) hA (by decide) (fun h => absurd h (by decide)) (fun a w' hA => run_field' Try.underlying39 rfl rfl Try.sizeOf36 (by decide) (hA.ev rfl)) ?_; clear hA; intro a hA
                    refine d_one (i := 15) (L' := #[true, true, true, true, true, true, true, true, true, true, true, true, true, true, true, true]) (by kernel_rfl) rfl rfl (e_store (g := g5132) (off := 3) (cur := [(.int .u32 (IntKind.u32.wrap r5126.1)), (.bool (r5129.1 == 0)), (.slice A5728 xs5730.length c5729), (.slice A9154 xs9156.length c9155), (.slice A9159 xs9161.length c9160)]) (cs' := [(.int .u32 (IntKind.u32.wrap r5126.1)), (.bool (r5129.1 == 0)), (.slice A5728 xs5730.length c5729), (.slice A10111 (xs9156.length + 1) c10112), (.slice A9159 xs9161.length c9160)]) hM (.s (.s (.s (.s .z)))) Try.sizeOf36 hA rfl (by simp [add_mk]) rfl (by first | rfl | simp [Value.cells, Pl.len]) (one_val rfl) (by first | exact Nat.le_of_ble_eq_true rfl | (simp [Pl.len]; done)) (rfl) ?_)
                    clear hM hA; intro w10115  hM hE  a hA
                    refine ⟨fun h => absurd h (by decide), ?_⟩
                    refine d_done (by kernel_rfl) ?_
                    exact ⟨r9991.2.At_, (xs9156 ++ [(Stem.mk (((Vector.replicate 32 0 : Vector Int 32).setIfInBounds 0 (IntKind.u8.wrap t9163))) (IntKind.i64.wrap (r9985.1 - 1)) r9988.1 (IntKind.u32.wrap r9991.1))]), (.slice A10111 (xs9156.length + 1) c10112), Option.some.inj H9982, (hM.sel [1, 3, 4, 5, 6, 7] rfl (by decide)), ((((hA.nil.cons (hA.get 5 _ rfl)).cons (hA.get 3 _ rfl)).cons (hA.get 2 _ rfl)).cons (hA.get 0 _ rfl))⟩
                  · refine d_op (i := 9) (L' := #[true, true, false, true, true, true, true, true, true, true, false, false, false, false, false, false]) rfl rfl (st_call Try.call23 hA [(.pointer (some (⟨g0, 0, none⟩))), (.int .i64 50)] rfl (by decide) (mill_Deck_Next.calls _ (lightclientmill_Deck.mk d_0.L r9988.2.At_) _ _ _ _ _ _ ((RoV.mk (hM.roC (Ms := [_]) hr0_0) (Eq.refl d_0.L.length) hc0_0)) (hM.front (Ms := [_])) H9992) ?_)
                    clear hA; rintro _ w10116 ⟨rfl, hMc⟩ a hA
                    have hM := hM.call (Ms := [_]) hMc
                    clear hMc; simp only [List.cons_append, List.nil_append] at hM
                    refine ⟨fun h => absurd h (by decide), ?_⟩
                    refine d_takef (i := 10) (L' := #[true, true, false, true, true, true, true, true, true, true, true, false, false, false, false, false]) rfl (by kernel_rfl) rfl (fun _ _ _ h => h) hA (by decide) (fun h => absurd h (by decide)) (fun a w' hA => run_conv Try.underlying3 Try.underlying35 (hA.ev rfl)) ?_; clear hA; intro a hA
                    refine d_one (i := 2) (L' := #[true, true, true, true, true, true, true, true, true, true, true, false, false, false, false, false]) (by kernel_rfl) rfl rfl (stv hA (by decide) (run_ld (hA.ev rfl) (run_loadP Try.isAgg34 Try.sizeOf34 (hM.box (.s .z)))) ?_)
                    clear hA; intro a hA
                    refine ⟨fun h => absurd h (by decide), ?_⟩
                    refine d_takef (i := 11) (L' := #[true, true, true, true, true, true, true, true, true, true, true, true, false, false, false, false]) rfl (by kernel_rfl) rfl (fun _ _ _ h => h) hA (by decide) (fun h => absurd h (by decide)) (fun a w' hA => run_build [(0, (.agg (pHash.enc (((Vector.replicate 32 0 : Vector Int 32).setIfInBounds 0 (IntKind.u8.wrap t9163)))).toArray)), (1, (.int .i64 (IntKind.i64.wrap (r9985.1 - 1)))), (2, (.int .i64 r9988.1)), (3, (.int .u32 (IntKind.u32.wrap r9991.1)))] zero61 Try.underlying61 (ss := [32, 1, 1, 1]) ⟨Try.sizeOf34, Try.sizeOf3, Try.sizeOf3, Try.sizeOf35, trivial⟩ hA rfl (fill_step rfl (by simp [Value.cells, Pl.len]; try rfl) (enc_fit _ _ rfl) (arr_eq (Stem.spl_ID _ _)) (fill_step rfl rfl (enc_fit _ _ rfl) (arr_eq (Stem.spl_From_ _ _)) (fill_step rfl rfl (enc_fit _ _ rfl) (arr_eq (Stem.spl_To_ _ _)) (fill_step rfl rfl (enc_fit _ _ rfl) (arr_eq (Stem.spl_Due _ _)) (fill_nil)))))) ?_; clear hA; intro a hA
                    refine d_one (i := 12) (L' := #[true, true, true, true, true, true, true, true, true, true, true, true, true, false, false, false]) (by kernel_rfl) rfl rfl (e_litNL [(Stem.mk (((Vector.replicate 32 0 : Vector Int 32).setIfInBounds 0 (IntKind.u8.wrap t9163))) (IntKind.i64.wrap (r9985.1 - 1)) r9988.1 (IntKind.u32.wrap r9991.1))] [(.agg (pStem.enc (Stem.mk (((Vector.replicate 32 0 : Vector Int 32).setIfInBounds 0 (IntKind.u8.wrap t9163))) (IntKind.i64.wrap (r9985.1 - 1)) r9988.1 (IntKind.u32.wrap r9991.1))).toArray)] elt36 hM rfl (by decide) hA rfl rfl (List.cons_ne_nil _ _) (by decide) ?_)
                    clear hM hA; intro w10118 g10117 hM hE hlo10119 a hA
                    refine ⟨fun h => absurd h (by decide), ?_⟩
                    refine d_one (i := 13) (L' := #[true, true, true, true, true, true, true, true, true, true, true, true, true, true, false, false]) (by kernel_rfl) rfl rfl (e_appendL elt36 hM (fun _ => (.s (.s (.s (.s (.s (.s .z))))))) (Src.row Try.underlying36 (RowOk.row (hM.row (p := pStem) .z)) (RowOk.len (hM.row (p := pStem) .z))) hl10000 hA rfl rfl (by decide) ?_)
                    clear hM hA; intro w10122 A10120 c10121 hM hE hlo10123 a hA
                    refine ⟨fun h => absurd h (by decide), ?_⟩
                    refine d_takef (i := 14) (L' := #[true, true, true, true, true, true, true, true, true, true, true, true, true, true, true, false]) rfl (by kernel_rfl) rfl (fun _ _ _ h => h) hA (by decide) (fun h => absurd h (by decide)) (fun a w' hA => run_field' Try.underlying39 rfl rfl Try.sizeOf36 (by decide) (hA.ev rfl)) ?_; clear hA; intro a hA
                    refine d_one (i := 15) (L' := #[true, true, true, true, true, true, true, true, true, true, true, true, true, true, true, true]) (by kernel_rfl) rfl rfl (e_store (g := g5132) (off := 3) (cur := [(.int .u32 (IntKind.u32.wrap r5126.1)), (.bool (r5129.1 == 0)), (.slice A5728 xs5730.length c5729), (.slice A9154 xs9156.length c9155), (.slice A9159 xs9161.length c9160)]) (cs' := [(.int .u32 (IntKind.u32.wrap r5126.1)), (.bool (r5129.1 == 0)), (.slice A5728 xs5730.length c5729), (.slice A10120 (xs9156.length + 1) c10121), (.slice A9159 xs9161.length c9160)]) hM (.s (.s (.s (.s .z)))) Try.sizeOf36 hA rfl (by simp [add_mk]) rfl (by first | rfl | simp [Value.cells, Pl.len]) (one_val rfl) (by first | exact Nat.le_of_ble_eq_true rfl | (simp [Pl.len]; done)) (rfl) ?_)
                    clear hM hA; intro w10124  hM hE  a hA
                    refine ⟨fun h => absurd h (by decide), ?_⟩
                    refine d_done (by kernel_rfl) ?_
                    exact ⟨r9991.2.At_, (xs9156 ++ [(Stem.mk (((Vector.replicate 32 0 : Vector Int 32).setIfInBounds 0 (IntKind.u8.wrap t9163))) (IntKind.i64.wrap (r9985.1 - 1)) r9988.1 (IntKind.u32.wrap r9991.1))]), (.slice A10120 (xs9156.length + 1) c10121), Option.some.inj H9982, (hM.sel [1, 3, 4, 5, 6, 7] rfl (by decide)), ((((hA.nil.cons (hA.get 5 _ rfl)).cons (hA.get 3 _ rfl)).cons (hA.get 2 _ rfl)).cons (hA.get 0 _ rfl))⟩
              · refine d_op (i := 2) (L' := #[true, false, true, true, true, true, true, false, true, false, false, false, false, false, false, false]) rfl rfl (stv hA (by decide) (run_ld (hA.ev rfl) (run_loadP Try.isAgg34 Try.sizeOf34 (hM.box (.s .z)))) ?_)
                clear hA; intro a hA
                refine ⟨fun h => absurd h (by decide), ?_⟩
                refine d_many (is := [1, 7]) (by kernel_rfl) (by decide) ⟨?_, ?_, trivial⟩
                · refine d_op (i := 1) (L' := #[true, true, true, true, true, true, true, false, true, false, false, false, false, false, false, false]) rfl rfl (stv hA (by decide) (run_ld (hA.ev rfl) (run_loadS Try.isAgg36 (At.seg1 (hM.box (.s (.s (.s .z)))) 3 rfl))) ?_)
                  clear hA; intro a hA
                  refine ⟨fun h => absurd h (by decide), ?_⟩
                  refine d_one (i := 7) (L' := #[true, true, true, true, true, true, true, true, true, false, false, false, false, false, false, false]) (by kernel_rfl) rfl rfl (st_call Try.call23 hA [(.pointer (some (⟨g0, 0, none⟩))), (.int .i64 5)] rfl (by decide) (mill_Deck_Next.calls _ (lightclientmill_Deck.mk d_0.L r9985.2.At_) _ _ _ _ _ _ ((RoV.mk (hM.roC (Ms := [_]) hr0_0) (Eq.refl d_0.L.length) hc0_0)) (hM.front (Ms := [_])) H9989) ?_)
                  clear hA; rintro _ w10125 ⟨rfl, hMc⟩ a hA
                  have hM := hM.call (Ms := [_]) hMc
                  clear hMc; simp only [List.cons_append, List.nil_append] at hM
                  refine ⟨fun h => absurd h (by decide), ?_⟩
                  refine d_one (i := 9) (L' := #[true, true, true, true, true, true, true, true, true, true, false, false, false, false, false, false]) (by kernel_rfl) rfl rfl (st_call Try.call23 hA [(.pointer (some (⟨g0, 0, none⟩))), (.int .i64 50)] rfl (by decide) (mill_Deck_Next.calls _ (lightclientmill_Deck.mk d_0.L r9988.2.At_) _ _ _ _ _ _ ((RoV.mk (hM.roC (Ms := [_]) hr0_0) (Eq.refl d_0.L.length) hc0_0)) (hM.front (Ms := [_])) H9992) ?_)
                  clear hA; rintro _ w10126 ⟨rfl, hMc⟩ a hA
                  have hM := hM.call (Ms := [_]) hMc
                  clear hMc; simp only [List.cons_append, List.nil_append] at hM
                  refine ⟨fun h => absurd h (by decide), ?_⟩
                  refine d_takef (i := 10) (L' := #[true, true, true, true, true, true, true, true, true, true, true, false, false, false, false, false]) rfl (by kernel_rfl) rfl (fun _ _ _ h => h) hA (by decide) (fun h => absurd h (by decide)) (fun a w' hA => run_conv Try.underlying3 Try.underlying35 (hA.ev rfl)) ?_; clear hA; intro a hA
                  refine d_takef (i := 11) (L' := #[true, true, true, true, true, true, true, true, true, true, true, true, false, false, false, false]) rfl (by kernel_rfl) rfl (fun _ _ _ h => h) hA (by decide) (fun h => absurd h (by decide)) (fun a w' hA => run_build [(0, (.agg (pHash.enc (((Vector.replicate 32 0 : Vector Int 32).setIfInBounds 0 (IntKind.u8.wrap t9163)))).toArray)), (1, (.int .i64 (IntKind.i64.wrap (r9985.1 - 1)))), (2, (.int .i64 r9988.1)), (3, (.int .u32 (IntKind.u32.wrap r9991.1)))] zero61 Try.underlying61 (ss := [32, 1, 1, 1]) ⟨Try.sizeOf34, Try.sizeOf3, Try.sizeOf3, Try.sizeOf35, trivial⟩ hA rfl (fill_step rfl (by simp [Value.cells, Pl.len]; try rfl) (enc_fit _ _ rfl) (arr_eq (Stem.spl_ID _ _)) (fill_step rfl rfl (enc_fit _ _ rfl) (arr_eq (Stem.spl_From_ _ _)) (fill_step rfl rfl (enc_fit _ _ rfl) (arr_eq (Stem.spl_To_ _ _)) (fill_step rfl rfl (enc_fit _ _ rfl) (arr_eq (Stem.spl_Due _ _)) (fill_nil)))))) ?_; clear hA; intro a hA
                  refine d_one (i := 12) (L' := #[true, true, true, true, true, true, true, true, true, true, true, true, true, false, false, false]) (by kernel_rfl) rfl rfl (e_litNL [(Stem.mk (((Vector.replicate 32 0 : Vector Int 32).setIfInBounds 0 (IntKind.u8.wrap t9163))) (IntKind.i64.wrap (r9985.1 - 1)) r9988.1 (IntKind.u32.wrap r9991.1))] [(.agg (pStem.enc (Stem.mk (((Vector.replicate 32 0 : Vector Int 32).setIfInBounds 0 (IntKind.u8.wrap t9163))) (IntKind.i64.wrap (r9985.1 - 1)) r9988.1 (IntKind.u32.wrap r9991.1))).toArray)] elt36 hM rfl (by decide) hA rfl rfl (List.cons_ne_nil _ _) (by decide) ?_)
                  clear hM hA; intro w10128 g10127 hM hE hlo10129 a hA
                  refine ⟨fun h => absurd h (by decide), ?_⟩
                  refine d_one (i := 13) (L' := #[true, true, true, true, true, true, true, true, true, true, true, true, true, true, false, false]) (by kernel_rfl) rfl rfl (e_appendL elt36 hM (fun _ => (.s (.s (.s (.s (.s (.s .z))))))) (Src.row Try.underlying36 (RowOk.row (hM.row (p := pStem) .z)) (RowOk.len (hM.row (p := pStem) .z))) hl10000 hA rfl rfl (by decide) ?_)
                  clear hM hA; intro w10132 A10130 c10131 hM hE hlo10133 a hA
                  refine ⟨fun h => absurd h (by decide), ?_⟩
                  refine d_takef (i := 14) (L' := #[true, true, true, true, true, true, true, true, true, true, true, true, true, true, true, false]) rfl (by kernel_rfl) rfl (fun _ _ _ h => h) hA (by decide) (fun h => absurd h (by decide)) (fun a w' hA => run_field' Try.underlying39 rfl rfl Try.sizeOf36 (by decide) (hA.ev rfl)) ?_; clear hA; intro a hA
                  refine d_one (i := 15) (L' := #[true, true, true, true, true, true, true, true, true, true, true, true, true, true, true, true]) (by kernel_rfl) rfl rfl (e_store (g := g5132) (off := 3) (cur := [(.int .u32 (IntKind.u32.wrap r5126.1)), (.bool (r5129.1 == 0)), (.slice A5728 xs5730.length c5729), (.slice A9154 xs9156.length c9155), (.slice A9159 xs9161.length c9160)]) (cs' := [(.int .u32 (IntKind.u32.wrap r5126.1)), (.bool (r5129.1 == 0)), (.slice A5728 xs5730.length c5729), (.slice A10130 (xs9156.length + 1) c10131), (.slice A9159 xs9161.length c9160)]) hM (.s (.s (.s (.s .z)))) Try.sizeOf36 hA rfl (by simp [add_mk]) rfl (by first | rfl | simp [Value.cells, Pl.len]) (one_val rfl) (by first | exact Nat.le_of_ble_eq_true rfl | (simp [Pl.len]; done)) (rfl) ?_)
                  clear hM hA; intro w10134  hM hE  a hA
                  refine ⟨fun h => absurd h (by decide), ?_⟩
                  refine d_done (by kernel_rfl) ?_
                  exact ⟨r9991.2.At_, (xs9156 ++ [(Stem.mk (((Vector.replicate 32 0 : Vector Int 32).setIfInBounds 0 (IntKind.u8.wrap t9163))) (IntKind.i64.wrap (r9985.1 - 1)) r9988.1 (IntKind.u32.wrap r9991.1))]), (.slice A10130 (xs9156.length + 1) c10131), Option.some.inj H9982, (hM.sel [1, 3, 4, 5, 6, 7] rfl (by decide)), ((((hA.nil.cons (hA.get 5 _ rfl)).cons (hA.get 3 _ rfl)).cons (hA.get 2 _ rfl)).cons (hA.get 0 _ rfl))⟩
                · refine d_op (i := 7) (L' := #[true, false, true, true, true, true, true, true, true, false, false, false, false, false, false, false]) rfl rfl (st_call Try.call23 hA [(.pointer (some (⟨g0, 0, none⟩))), (.int .i64 5)] rfl (by decide) (mill_Deck_Next.calls _ (lightclientmill_Deck.mk d_0.L r9985.2.At_) _ _ _ _ _ _ ((RoV.mk (hM.roC (Ms := [_]) hr0_0) (Eq.refl d_0.L.length) hc0_0)) (hM.front (Ms := [_])) H9989) ?_)
                  clear hA; rintro _ w10135 ⟨rfl, hMc⟩ a hA
                  have hM := hM.call (Ms := [_]) hMc
                  clear hMc; simp only [List.cons_append, List.nil_append] at hM
                  refine ⟨fun h => absurd h (by decide), ?_⟩
                  refine d_many (is := [1, 9]) (by kernel_rfl) (by decide) ⟨?_, ?_, trivial⟩
                  · refine d_op (i := 1) (L' := #[true, true, true, true, true, true, true, true, true, false, false, false, false, false, false, false]) rfl rfl (stv hA (by decide) (run_ld (hA.ev rfl) (run_loadS Try.isAgg36 (At.seg1 (hM.box (.s (.s (.s .z)))) 3 rfl))) ?_)
                    clear hA; intro a hA
                    refine ⟨fun h => absurd h (by decide), ?_⟩
                    refine d_one (i := 9) (L' := #[true, true, true, true, true, true, true, true, true, true, false, false, false, false, false, false]) (by kernel_rfl) rfl rfl (st_call Try.call23 hA [(.pointer (some (⟨g0, 0, none⟩))), (.int .i64 50)] rfl (by decide) (mill_Deck_Next.calls _ (lightclientmill_Deck.mk d_0.L r9988.2.At_) _ _ _ _ _ _ ((RoV.mk (hM.roC (Ms := [_]) hr0_0) (Eq.refl d_0.L.length) hc0_0)) (hM.front (Ms := [_])) H9992) ?_)
                    clear hA; rintro _ w10136 ⟨rfl, hMc⟩ a hA
                    have hM := hM.call (Ms := [_]) hMc
                    clear hMc; simp only [List.cons_append, List.nil_append] at hM
                    refine ⟨fun h => absurd h (by decide), ?_⟩
                    refine d_takef (i := 10) (L' := #[true, true, true, true, true, true, true, true, true, true, true, false, false, false, false, false]) rfl (by kernel_rfl) rfl (fun _ _ _ h => h) hA (by decide) (fun h => absurd h (by decide)) (fun a w' hA => run_conv Try.underlying3 Try.underlying35 (hA.ev rfl)) ?_; clear hA; intro a hA
                    refine d_takef (i := 11) (L' := #[true, true, true, true, true, true, true, true, true, true, true, true, false, false, false, false]) rfl (by kernel_rfl) rfl (fun _ _ _ h => h) hA (by decide) (fun h => absurd h (by decide)) (fun a w' hA => run_build [(0, (.agg (pHash.enc (((Vector.replicate 32 0 : Vector Int 32).setIfInBounds 0 (IntKind.u8.wrap t9163)))).toArray)), (1, (.int .i64 (IntKind.i64.wrap (r9985.1 - 1)))), (2, (.int .i64 r9988.1)), (3, (.int .u32 (IntKind.u32.wrap r9991.1)))] zero61 Try.underlying61 (ss := [32, 1, 1, 1]) ⟨Try.sizeOf34, Try.sizeOf3, Try.sizeOf3, Try.sizeOf35, trivial⟩ hA rfl (fill_step rfl (by simp [Value.cells, Pl.len]; try rfl) (enc_fit _ _ rfl) (arr_eq (Stem.spl_ID _ _)) (fill_step rfl rfl (enc_fit _ _ rfl) (arr_eq (Stem.spl_From_ _ _)) (fill_step rfl rfl (enc_fit _ _ rfl) (arr_eq (Stem.spl_To_ _ _)) (fill_step rfl rfl (enc_fit _ _ rfl) (arr_eq (Stem.spl_Due _ _)) (fill_nil)))))) ?_; clear hA; intro a hA
                    refine d_one (i := 12) (L' := #[true, true, true, true, true, true, true, true, true, true, true, true, true, false, false, false]) (by kernel_rfl) rfl rfl (e_litNL [(Stem.mk (((Vector.replicate 32 0 : Vector Int 32).setIfInBounds 0 (IntKind.u8.wrap t9163))) (IntKind.i64.wrap (r9985.1 - 1)) r9988.1 (IntKind.u32.wrap r9991.1))] [(.agg (pStem.enc (Stem.mk (((Vector.replicate 32 0 : Vector Int 32).setIfInBounds 0 (IntKind.u8.wrap t9163))) (IntKind.i64.wrap (r9985.1 - 1)) r9988.1 (IntKind.u32.wrap r9991.1))).toArray)] elt36 hM rfl (by decide) hA rfl rfl (List.cons_ne_nil _ _) (by decide) ?_)
                    clear hM hA; intro w10138 g10137 hM hE hlo10139 a hA
                    refine ⟨fun h => absurd h (by decide), ?_⟩
                    refine d_one (i := 13) (L' := #[true, true, true, true, true, true, true, true, true, true, true, true, true, true, false, false]) (by kernel_rfl) rfl rfl (e_appendL elt36 hM (fun _ => (.s (.s (.s (.s (.s (.s .z))))))) (Src.row Try.underlying36 (RowOk.row (hM.row (p := pStem) .z)) (RowOk.len (hM.row (p := pStem) .z))) hl10000 hA rfl rfl (by decide) ?_)
                    clear hM hA; intro w10142 A10140 c10141 hM hE hlo10143 a hA
                    refine ⟨fun h => absurd h (by decide), ?_⟩
                    refine d_takef (i := 14) (L' := #[true, true, true, true, true, true, true, true, true, true, true, true, true, true, true, false]) rfl (by kernel_rfl) rfl (fun _ _ _ h => h) hA (by decide) (fun h => absurd h (by decide)) (fun a w' hA => run_field' Try.underlying39 rfl rfl Try.sizeOf36 (by decide) (hA.ev rfl)) ?_; clear hA; intro a hA
                    refine d_one (i := 15) (L' := #[true, true, true, true, true, true, true, true, true, true, true, true, true, true, true, true]) (by kernel_rfl) rfl rfl (e_store (g := g5132) (off := 3) (cur := [(.int .u32 (IntKind.u32.wrap r5126.1)), (.bool (r5129.1 == 0)), (.slice A5728 xs5730.length c5729), (.slice A9154 xs9156.length c9155), (.slice A9159 xs9161.length c9160)]) (cs' := [(.int .u32 (IntKind.u32.wrap r5126.1)), (.bool (r5129.1 == 0)), (.slice A5728 xs5730.length c5729), (.slice A10140 (xs9156.length + 1) c10141), (.slice A9159 xs9161.length c9160)]) hM (.s (.s (.s (.s .z)))) Try.sizeOf36 hA rfl (by simp [add_mk]) rfl (by first | rfl | simp [Value.cells, Pl.len]) (one_val rfl) (by first | exact Nat.le_of_ble_eq_true rfl | (simp [Pl.len]; done)) (rfl) ?_)
                    clear hM hA; intro w10144  hM hE  a hA
                    refine ⟨fun h => absurd h (by decide), ?_⟩
                    refine d_done (by kernel_rfl) ?_
                    exact ⟨r9991.2.At_, (xs9156 ++ [(Stem.mk (((Vector.replicate 32 0 : Vector Int 32).setIfInBounds 0 (IntKind.u8.wrap t9163))) (IntKind.i64.wrap (r9985.1 - 1)) r9988.1 (IntKind.u32.wrap r9991.1))]), (.slice A10140 (xs9156.length + 1) c10141), Option.some.inj H9982, (hM.sel [1, 3, 4, 5, 6, 7] rfl (by decide)), ((((hA.nil.cons (hA.get 5 _ rfl)).cons (hA.get 3 _ rfl)).cons (hA.get 2 _ rfl)).cons (hA.get 0 _ rfl))⟩
                  · refine d_op (i := 9) (L' := #[true, false, true, true, true, true, true, true, true, true, false, false, false, false, false, false]) rfl rfl (st_call Try.call23 hA [(.pointer (some (⟨g0, 0, none⟩))), (.int .i64 50)] rfl (by decide) (mill_Deck_Next.calls _ (lightclientmill_Deck.mk d_0.L r9988.2.At_) _ _ _ _ _ _ ((RoV.mk (hM.roC (Ms := [_]) hr0_0) (Eq.refl d_0.L.length) hc0_0)) (hM.front (Ms := [_])) H9992) ?_)
                    clear hA; rintro _ w10145 ⟨rfl, hMc⟩ a hA
                    have hM := hM.call (Ms := [_]) hMc
                    clear hMc; simp only [List.cons_append, List.nil_append] at hM
                    refine ⟨fun h => absurd h (by decide), ?_⟩
                    refine d_takef (i := 10) (L' := #[true, false, true, true, true, true, true, true, true, true, true, false, false, false, false, false]) rfl (by kernel_rfl) rfl (fun _ _ _ h => h) hA (by decide) (fun h => absurd h (by decide)) (fun a w' hA => run_conv Try.underlying3 Try.underlying35 (hA.ev rfl)) ?_; clear hA; intro a hA
                    refine d_takef (i := 11) (L' := #[true, false, true, true, true, true, true, true, true, true, true, true, false, false, false, false]) rfl (by kernel_rfl) rfl (fun _ _ _ h => h) hA (by decide) (fun h => absurd h (by decide)) (fun a w' hA => run_build [(0, (.agg (pHash.enc (((Vector.replicate 32 0 : Vector Int 32).setIfInBounds 0 (IntKind.u8.wrap t9163)))).toArray)), (1, (.int .i64 (IntKind.i64.wrap (r9985.1 - 1)))), (2, (.int .i64 r9988.1)), (3, (.int .u32 (IntKind.u32.wrap r9991.1)))] zero61 Try.underlying61 (ss := [32, 1, 1, 1]) ⟨Try.sizeOf34, Try.sizeOf3, Try.sizeOf3, Try.sizeOf35, trivial⟩ hA rfl (fill_step rfl (by simp [Value.cells, Pl.len]; try rfl) (enc_fit _ _ rfl) (arr_eq (Stem.spl_ID _ _)) (fill_step rfl rfl (enc_fit _ _ rfl) (arr_eq (Stem.spl_From_ _ _)) (fill_step rfl rfl (enc_fit _ _ rfl) (arr_eq (Stem.spl_To_ _ _)) (fill_step rfl rfl (enc_fit _ _ rfl) (arr_eq (Stem.spl_Due _ _)) (fill_nil)))))) ?_; clear hA; intro a hA
                    refine d_many (is := [1, 12]) (by kernel_rfl) (by decide) ⟨?_, ?_, trivial⟩
                    · refine d_op (i := 1) (L' := #[true, true, true, true, true, true, true, true, true, true, true, true, false, false, false, false]) rfl rfl (stv hA (by decide) (run_ld (hA.ev rfl) (run_loadS Try.isAgg36 (At.seg1 (hM.box (.s (.s (.s .z)))) 3 rfl))) ?_)
                      clear hA; intro a hA
                      refine ⟨fun h => absurd h (by decide), ?_⟩
                      refine d_one (i := 12) (L' := #[true, true, true, true, true, true, true, true, true, true, true, true, true, false, false, false]) (by kernel_rfl) rfl rfl (e_litNL [(Stem.mk (((Vector.replicate 32 0 : Vector Int 32).setIfInBounds 0 (IntKind.u8.wrap t9163))) (IntKind.i64.wrap (r9985.1 - 1)) r9988.1 (IntKind.u32.wrap r9991.1))] [(.agg (pStem.enc (Stem.mk (((Vector.replicate 32 0 : Vector Int 32).setIfInBounds 0 (IntKind.u8.wrap t9163))) (IntKind.i64.wrap (r9985.1 - 1)) r9988.1 (IntKind.u32.wrap r9991.1))).toArray)] elt36 hM rfl (by decide) hA rfl rfl (List.cons_ne_nil _ _) (by decide) ?_)
                      clear hM hA; intro w10147 g10146 hM hE hlo10148 a hA
                      refine ⟨fun h => absurd h (by decide), ?_⟩
                      refine d_one (i := 13) (L' := #[true, true, true, true, true, true, true, true, true, true, true, true, true, true, false, false]) (by kernel_rfl) rfl rfl (e_appendL elt36 hM (fun _ => (.s (.s (.s (.s (.s (.s .z))))))) (Src.row Try.underlying36 (RowOk.row (hM.row (p := pStem) .z)) (RowOk.len (hM.row (p := pStem) .z))) hl10000 hA rfl rfl (by decide) ?_)
                      clear hM hA; intro w10151 A10149 c10150 hM hE hlo10152 a hA
                      refine ⟨fun h => absurd h (by decide), ?_⟩
                      refine d_takef (i := 14) (L' := #[true, true, true, true, true, true, true, true, true, true, true, true, true, true, true, false]) rfl (by kernel_rfl) rfl (fun _ _ _ h => h) hA (by decide) (fun h => absurd h (by decide)) (fun a w' hA => run_field' Try.underlying39 rfl rfl Try.sizeOf36 (by decide) (hA.ev rfl)) ?_; clear hA; intro a hA
                      refine d_one (i := 15) (L' := #[true, true, true, true, true, true, true, true, true, true, true, true, true, true, true, true]) (by kernel_rfl) rfl rfl (e_store (g := g5132) (off := 3) (cur := [(.int .u32 (IntKind.u32.wrap r5126.1)), (.bool (r5129.1 == 0)), (.slice A5728 xs5730.length c5729), (.slice A9154 xs9156.length c9155), (.slice A9159 xs9161.length c9160)]) (cs' := [(.int .u32 (IntKind.u32.wrap r5126.1)), (.bool (r5129.1 == 0)), (.slice A5728 xs5730.length c5729), (.slice A10149 (xs9156.length + 1) c10150), (.slice A9159 xs9161.length c9160)]) hM (.s (.s (.s (.s .z)))) Try.sizeOf36 hA rfl (by simp [add_mk]) rfl (by first | rfl | simp [Value.cells, Pl.len]) (one_val rfl) (by first | exact Nat.le_of_ble_eq_true rfl | (simp [Pl.len]; done)) (rfl) ?_)
                      clear hM hA; intro w10153  hM hE  a hA
                      refine ⟨fun h => absurd h (by decide), ?_⟩
                      refine d_done (by kernel_rfl) ?_
                      exact ⟨r9991.2.At_, (xs9156 ++ [(Stem.mk (((Vector.replicate 32 0 : Vector Int 32).setIfInBounds 0 (IntKind.u8.wrap t9163))) (IntKind.i64.wrap (r9985.1 - 1)) r9988.1 (IntKind.u32.wrap r9991.1))]), (.slice A10149 (xs9156.length + 1) c10150), Option.some.inj H9982, (hM.sel [1, 3, 4, 5, 6, 7] rfl (by decide)), ((((hA.nil.cons (hA.get 5 _ rfl)).cons (hA.get 3 _ rfl)).cons (hA.get 2 _ rfl)).cons (hA.get 0 _ rfl))⟩
                    · refine d_op (i := 12) (L' := #[true, false, true, true, true, true, true, true, true, true, true, true, true, false, false, false]) rfl rfl (e_litNL [(Stem.mk (((Vector.replicate 32 0 : Vector Int 32).setIfInBounds 0 (IntKind.u8.wrap t9163))) (IntKind.i64.wrap (r9985.1 - 1)) r9988.1 (IntKind.u32.wrap r9991.1))] [(.agg (pStem.enc (Stem.mk (((Vector.replicate 32 0 : Vector Int 32).setIfInBounds 0 (IntKind.u8.wrap t9163))) (IntKind.i64.wrap (r9985.1 - 1)) r9988.1 (IntKind.u32.wrap r9991.1))).toArray)] elt36 hM rfl (by decide) hA rfl rfl (List.cons_ne_nil _ _) (by decide) ?_)
                      clear hM hA; intro w10155 g10154 hM hE hlo10156 a hA
                      refine ⟨fun h => absurd h (by decide), ?_⟩
                      refine d_one (i := 1) (L' := #[true, true, true, true, true, true, true, true, true, true, true, true, true, false, false, false]) (by kernel_rfl) rfl rfl (stv hA (by decide) (run_ld (hA.ev rfl) (run_loadS Try.isAgg36 (At.seg1 (hM.box (.s (.s (.s (.s .z))))) 3 rfl))) ?_)
                      clear hA; intro a hA
                      refine ⟨fun h => absurd h (by decide), ?_⟩
                      refine d_one (i := 13) (L' := #[true, true, true, true, true, true, true, true, true, true, true, true, true, true, false, false]) (by kernel_rfl) rfl rfl (e_appendL elt36 hM (fun _ => (.s (.s (.s (.s (.s (.s .z))))))) (Src.row Try.underlying36 (RowOk.row (hM.row (p := pStem) .z)) (RowOk.len (hM.row (p := pStem) .z))) hl10000 hA rfl rfl (by decide) ?_)
                      clear hM hA; intro w10159 A10157 c10158 hM hE hlo10160 a hA
                      refine ⟨fun h => absurd h (by decide), ?_⟩
                      refine d_takef (i := 14) (L' := #[true, true, true, true, true, true, true, true, true, true, true, true, true, true, true, false]) rfl (by kernel_rfl) rfl (fun _ _ _ h => h) hA (by decide) (fun h => absurd h (by decide)) (fun a w' hA => run_field' Try.underlying39 rfl rfl Try.sizeOf36 (by decide) (hA.ev rfl)) ?_; clear hA; intro a hA
                      refine d_one (i := 15) (L' := #[true, true, true, true, true, true, true, true, true, true, true, true, true, true, true, true]) (by kernel_rfl) rfl rfl (e_store (g := g5132) (off := 3) (cur := [(.int .u32 (IntKind.u32.wrap r5126.1)), (.bool (r5129.1 == 0)), (.slice A5728 xs5730.length c5729), (.slice A9154 xs9156.length c9155), (.slice A9159 xs9161.length c9160)]) (cs' := [(.int .u32 (IntKind.u32.wrap r5126.1)), (.bool (r5129.1 == 0)), (.slice A5728 xs5730.length c5729), (.slice A10157 (xs9156.length + 1) c10158), (.slice A9159 xs9161.length c9160)]) hM (.s (.s (.s (.s .z)))) Try.sizeOf36 hA rfl (by simp [add_mk]) rfl (by first | rfl | simp [Value.cells, Pl.len]) (one_val rfl) (by first | exact Nat.le_of_ble_eq_true rfl | (simp [Pl.len]; done)) (rfl) ?_)
                      clear hM hA; intro w10161  hM hE  a hA
                      refine ⟨fun h => absurd h (by decide), ?_⟩
                      refine d_done (by kernel_rfl) ?_
                      exact ⟨r9991.2.At_, (xs9156 ++ [(Stem.mk (((Vector.replicate 32 0 : Vector Int 32).setIfInBounds 0 (IntKind.u8.wrap t9163))) (IntKind.i64.wrap (r9985.1 - 1)) r9988.1 (IntKind.u32.wrap r9991.1))]), (.slice A10157 (xs9156.length + 1) c10158), Option.some.inj H9982, (hM.sel [1, 3, 4, 5, 6, 7] rfl (by decide)), ((((hA.nil.cons (hA.get 5 _ rfl)).cons (hA.get 3 _ rfl)).cons (hA.get 2 _ rfl)).cons (hA.get 0 _ rfl))⟩
              · refine d_op (i := 7) (L' := #[true, false, false, true, true, true, true, true, true, false, false, false, false, false, false, false]) rfl rfl (st_call Try.call23 hA [(.pointer (some (⟨g0, 0, none⟩))), (.int .i64 5)] rfl (by decide) (mill_Deck_Next.calls _ (lightclientmill_Deck.mk d_0.L r9985.2.At_) _ _ _ _ _ _ ((RoV.mk (hM.roC (Ms := [_]) hr0_0) (Eq.refl d_0.L.length) hc0_0)) (hM.front (Ms := [_])) H9989) ?_)
                clear hA; rintro _ w10162 ⟨rfl, hMc⟩ a hA
                have hM := hM.call (Ms := [_]) hMc
                clear hMc; simp only [List.cons_append, List.nil_append] at hM
                refine ⟨fun h => absurd h (by decide), ?_⟩
                refine d_many (is := [1, 2, 9]) (by kernel_rfl) (by decide) ⟨?_, ?_, ?_, trivial⟩
                · refine d_op (i := 1) (L' := #[true, true, false, true, true, true, true, true, true, false, false, false, false, false, false, false]) rfl rfl (stv hA (by decide) (run_ld (hA.ev rfl) (run_loadS Try.isAgg36 (At.seg1 (hM.box (.s (.s (.s .z)))) 3 rfl))) ?_)
                  clear hA; intro a hA
                  refine ⟨fun h => absurd h (by decide), ?_⟩
                  refine d_many (is := [2, 9]) (by kernel_rfl) (by decide) ⟨?_, ?_, trivial⟩
                  · refine d_op (i := 2) (L' := #[true, true, true, true, true, true, true, true, true, false, false, false, false, false, false, false]) rfl rfl (stv hA (by decide) (run_ld (hA.ev rfl) (run_loadP Try.isAgg34 Try.sizeOf34 (hM.box (.s .z)))) ?_)
                    clear hA; intro a hA
                    refine ⟨fun h => absurd h (by decide), ?_⟩
                    refine d_one (i := 9) (L' := #[true, true, true, true, true, true, true, true, true, true, false, false, false, false, false, false]) (by kernel_rfl) rfl rfl (st_call Try.call23 hA [(.pointer (some (⟨g0, 0, none⟩))), (.int .i64 50)] rfl (by decide) (mill_Deck_Next.calls _ (lightclientmill_Deck.mk d_0.L r9988.2.At_) _ _ _ _ _ _ ((RoV.mk (hM.roC (Ms := [_]) hr0_0) (Eq.refl d_0.L.length) hc0_0)) (hM.front (Ms := [_])) H9992) ?_)
                    clear hA; rintro _ w10163 ⟨rfl, hMc⟩ a hA
                    have hM := hM.call (Ms := [_]) hMc
                    clear hMc; simp only [List.cons_append, List.nil_append] at hM
                    refine ⟨fun h => absurd h (by decide), ?_⟩
                    refine d_takef (i := 10) (L' := #[true, true, true, true, true, true, true, true, true, true, true, false, false, false, false, false]) rfl (by kernel_rfl) rfl (fun _ _ _ h => h) hA (by decide) (fun h => absurd h (by decide)) (fun a w' hA => run_conv Try.underlying3 Try.underlying35 (hA.ev rfl)) ?_; clear hA; intro a hA
                    refine d_takef (i := 11) (L' := #[true, true, true, true, true, true, true, true, true, true, true, true, false, false, false, false]) rfl (by kernel_rfl) rfl (fun _ _ _ h => h) hA (by decide) (fun h => absurd h (by decide)) (fun a w' hA => run_build [(0, (.agg (pHash.enc (((Vector.replicate 32 0 : Vector Int 32).setIfInBounds 0 (IntKind.u8.wrap t9163)))).toArray)), (1, (.int .i64 (IntKind.i64.wrap (r9985.1 - 1)))), (2, (.int .i64 r9988.1)), (3, (.int .u32 (IntKind.u32.wrap r9991.1)))] zero61 Try.underlying61 (ss := [32, 1, 1, 1]) ⟨Try.sizeOf34, Try.sizeOf3, Try.sizeOf3, Try.sizeOf35, trivial⟩ hA rfl (fill_step rfl (by simp [Value.cells, Pl.len]; try rfl) (enc_fit _ _ rfl) (arr_eq (Stem.spl_ID _ _)) (fill_step rfl rfl (enc_fit _ _ rfl) (arr_eq (Stem.spl_From_ _ _)) (fill_step rfl rfl (enc_fit _ _ rfl) (arr_eq (Stem.spl_To_ _ _)) (fill_step rfl rfl (enc_fit _ _ rfl) (arr_eq (Stem.spl_Due _ _)) (fill_nil)))))) ?_; clear hA; intro a hA
                    refine d_one (i := 12) (L' := #[true, true, true, true, true, true, true, true, true, true, true, true, true, false, false, false]) (by kernel_rfl) rfl rfl (e_litNL [(Stem.mk (((Vector.replicate 32 0 : Vector Int 32).setIfInBounds 0 (IntKind.u8.wrap t9163))) (IntKind.i64.wrap (r9985.1 - 1)) r9988.1 (IntKind.u32.wrap r9991.1))] [(.agg (pStem.enc (Stem.mk (((Vector.replicate 32 0 : Vector Int 32).setIfInBounds 0 (IntKind.u8.wrap t9163))) (IntKind.i64.wrap (r9985.1 - 1)) r9988.1 (IntKind.u32.wrap r9991.1))).toArray)] elt36 hM rfl (by decide) hA rfl rfl (List.cons_ne_nil _ _) (by decide) ?_)
                    clear hM hA; intro w10165 g10164 hM hE hlo10166 a hA
                    refine ⟨fun h => absurd h (by decide), ?_⟩
                    refine d_one (i := 13) (L' := #[true, true, true, true, true, true, true, true, true, true, true, true, true, true, false, false]) (by kernel_rfl) rfl rfl (e_appendL elt36 hM (fun _ => (.s (.s (.s (.s (.s (.s .z))))))) (Src.row Try.underlying36 (RowOk.row (hM.row (p := pStem) .z)) (RowOk.len (hM.row (p := pStem) .z))) hl10000 hA rfl rfl (by decide) ?_)
                    clear hM hA; intro w10169 A10167 c10168 hM hE hlo10170 a hA
                    refine ⟨fun h => absurd h (by decide), ?_⟩
                    refine d_takef (i := 14) (L' := #[true, true, true, true, true, true, true, true, true, true, true, true, true, true, true, false]) rfl (by kernel_rfl) rfl (fun _ _ _ h => h) hA (by decide) (fun h => absurd h (by decide)) (fun a w' hA => run_field' Try.underlying39 rfl rfl Try.sizeOf36 (by decide) (hA.ev rfl)) ?_; clear hA; intro a hA
                    refine d_one (i := 15) (L' := #[true, true, true, true, true, true, true, true, true, true, true, true, true, true, true, true]) (by kernel_rfl) rfl rfl (e_store (g := g5132) (off := 3) (cur := [(.int .u32 (IntKind.u32.wrap r5126.1)), (.bool (r5129.1 == 0)), (.slice A5728 xs5730.length c5729), (.slice A9154 xs9156.length c9155), (.slice A9159 xs9161.length c9160)]) (cs' := [(.int .u32 (IntKind.u32.wrap r5126.1)), (.bool (r5129.1 == 0)), (.slice A5728 xs5730.length c5729), (.slice A10167 (xs9156.length + 1) c10168), (.slice A9159 xs9161.length c9160)]) hM (.s (.s (.s (.s .z)))) Try.sizeOf36 hA rfl (by simp [add_mk]) rfl (by first | rfl | simp [Value.cells, Pl.len]) (one_val rfl) (by first | exact Nat.le_of_ble_eq_true rfl | (simp [Pl.len]; done)) (rfl) ?_)
                    clear hM hA; intro w10171  hM hE  a hA
                    refine ⟨fun h => absurd h (by decide), ?_⟩
                    refine d_done (by kernel_rfl) ?_
                    exact ⟨r9991.2.At_, (xs9156 ++ [(Stem.mk (((Vector.replicate 32 0 : Vector Int 32).setIfInBounds 0 (IntKind.u8.wrap t9163))) (IntKind.i64.wrap (r9985.1 - 1)) r9988.1 (IntKind.u32.wrap r9991.1))]), (.slice A10167 (xs9156.length + 1) c10168), Option.some.inj H9982, (hM.sel [1, 3, 4, 5, 6, 7] rfl (by decide)), ((((hA.nil.cons (hA.get 5 _ rfl)).cons (hA.get 3 _ rfl)).cons (hA.get 2 _ rfl)).cons (hA.get 0 _ rfl))⟩
                  · refine d_op (i := 9) (L' := #[true, true, false, true, true, true, true, true, true, true, false, false, false, false, false, false]) rfl rfl (st_call Try.call23 hA [(.pointer (some (⟨g0, 0, none⟩))), (.int .i64 50)] rfl (by decide) (mill_Deck_Next.calls _ (lightclientmill_Deck.mk d_0.L r9988.2.At_) _ _ _ _ _ _ ((RoV.mk (hM.roC (Ms := [_]) hr0_0) (Eq.refl d_0.L.length) hc0_0)) (hM.front (Ms := [_])) H9992) ?_)
                    clear hA; rintro _ w10172 ⟨rfl, hMc⟩ a hA
                    have hM := hM.call (Ms := [_]) hMc
                    clear hMc; simp only [List.cons_append, List.nil_append] at hM
                    refine ⟨fun h => absurd h (by decide), ?_⟩
                    refine d_takef (i := 10) (L' := #[true, true, false, true, true, true, true, true, true, true, true, false, false, false, false, false]) rfl (by kernel_rfl) rfl (fun _ _ _ h => h) hA (by decide) (fun h => absurd h (by decide)) (fun a w' hA => run_conv Try.underlying3 Try.underlying35 (hA.ev rfl)) ?_; clear hA; intro a hA
                    refine d_one (i := 2) (L' := #[true, true, true, true, true, true, true, true, true, true, true, false, false, false, false, false]) (by kernel_rfl) rfl rfl (stv hA (by decide) (run_ld (hA.ev rfl) (run_loadP Try.isAgg34 Try.sizeOf34 (hM.box (.s .z)))) ?_)
                    clear hA; intro a hA
                    refine ⟨fun h => absurd h (by decide), ?_⟩
                    refine d_takef (i := 11) (L' := #[true, true, true, true, true, true, true, true, true, true, true, true, false, false, false, false]) rfl (by kernel_rfl) rfl (fun _ _ _ h => h) hA (by decide) (fun h => absurd h (by decide)) (fun a w' hA => run_build [(0, (.agg (pHash.enc (((Vector.replicate 32 0 : Vector Int 32).setIfInBounds 0 (IntKind.u8.wrap t9163)))).toArray)), (1, (.int .i64 (IntKind.i64.wrap (r9985.1 - 1)))), (2, (.int .i64 r9988.1)), (3, (.int .u32 (IntKind.u32.wrap r9991.1)))] zero61 Try.underlying61 (ss := [32, 1, 1, 1]) ⟨Try.sizeOf34, Try.sizeOf3, Try.sizeOf3, Try.sizeOf35, trivial⟩ hA rfl (fill_step rfl (by simp [Value.cells, Pl.len]; try rfl) (enc_fit _ _ rfl) (arr_eq (Stem.spl_ID _ _)) (fill_step rfl rfl (enc_fit _ _ rfl) (arr_eq (Stem.spl_From_ _ _)) (fill_step rfl rfl (enc_fit _ _ rfl) (arr_eq (Stem.spl_To_ _ _)) (fill_step rfl rfl (enc_fit _ _ rfl) (arr_eq (Stem.spl_Due _ _)) (fill_nil)))))) ?_; clear hA; intro a hA
                    refine d_one (i := 12) (L' := #[true, true, true, true, true, true, true, true, true, true, true, true, true, false, false, false]) (by kernel_rfl) rfl rfl (e_litNL [(Stem.mk (((Vector.replicate 32 0 : Vector Int 32).setIfInBounds 0 (IntKind.u8.wrap t9163))) (IntKind.i64.wrap (r9985.1 - 1)) r9988.1 (IntKind.u32.wrap r9991.1))] [(.agg (pStem.enc (Stem.mk (((Vector.replicate 32 0 : Vector Int 32).setIfInBounds 0 (IntKind.u8.wrap t9163))) (IntKind.i64.wrap (r9985.1 - 1)) r9988.1 (IntKind.u32.wrap r9991.1))).toArray)] elt36 hM rfl (by decide) hA rfl rfl (List.cons_ne_nil _ _) (by decide) ?_)
                    clear hM hA; intro w10174 g10173 hM hE hlo10175 a hA
                    refine ⟨fun h => absurd h (by decide), ?_⟩
                    refine d_one (i := 13) (L' := #[true, true, true, true, true, true, true, true, true, true, true, true, true, true, false, false]) (by kernel_rfl) rfl rfl (e_appendL elt36 hM (fun _ => (.s (.s (.s (.s (.s (.s .z))))))) (Src.row Try.underlying36 (RowOk.row (hM.row (p := pStem) .z)) (RowOk.len (hM.row (p := pStem) .z))) hl10000 hA rfl rfl (by decide) ?_)
                    clear hM hA; intro w10178 A10176 c10177 hM hE hlo10179 a hA
                    refine ⟨fun h => absurd h (by decide), ?_⟩
                    refine d_takef (i := 14) (L' := #[true, true, true, true, true, true, true, true, true, true, true, true, true, true, true, false]) rfl (by kernel_rfl) rfl (fun _ _ _ h => h) hA (by decide) (fun h => absurd h (by decide)) (fun a w' hA => run_field' Try.underlying39 rfl rfl Try.sizeOf36 (by decide) (hA.ev rfl)) ?_; clear hA; intro a hA
                    refine d_one (i := 15) (L' := #[true, true, true, true, true, true, true, true, true, true, true, true, true, true, true, true]) (by kernel_rfl) rfl rfl (e_store (g := g5132) (off := 3) (cur := [(.int .u32 (IntKind.u32.wrap r5126.1)), (.bool (r5129.1 == 0)), (.slice A5728 xs5730.length c5729), (.slice A9154 xs9156.length c9155), (.slice A9159 xs9161.length c9160)]) (cs' := [(.int .u32 (IntKind.u32.wrap r5126.1)), (.bool (r5129.1 == 0)), (.slice A5728 xs5730.length c5729), (.slice A10176 (xs9156.length + 1) c10177), (.slice A9159 xs9161.length c9160)]) hM (.s (.s (.s (.s .z)))) Try.sizeOf36 hA rfl (by simp [add_mk]) rfl (by first | rfl | simp [Value.cells, Pl.len]) (one_val rfl) (by first | exact Nat.le_of_ble_eq_true rfl | (simp [Pl.len]; done)) (rfl) ?_)
                    clear hM hA; intro w10180  hM hE  a hA
                    refine ⟨fun h => absurd h (by decide), ?_⟩
                    refine d_done (by kernel_rfl) ?_
                    exact ⟨r9991.2.At_, (xs9156 ++ [(Stem.mk (((Vector.replicate 32 0 : Vector Int 32).setIfInBounds 0 (IntKind.u8.wrap t9163))) (IntKind.i64.wrap (r9985.1 - 1)) r9988.1 (IntKind.u32.wrap r9991.1))]), (.slice A10176 (xs9156.length + 1) c10177), Option.some.inj H9982, (hM.sel [1, 3, 4, 5, 6, 7] rfl (by decide)), ((((hA.nil.cons (hA.get 5 _ rfl)).cons (hA.get 3 _ rfl)).cons (hA.get 2 _ rfl)).cons (hA.get 0 _ rfl))⟩
                · refine d_op (i := 2) (L' := #[true, false, true, true, true, true, true, true, true, false, false, false, false, false, false, false]) rfl rfl (stv hA (by decide) (run_ld (hA.ev rfl) (run_loadP Try.isAgg34 Try.sizeOf34 (hM.box (.s .z)))) ?_)
                  clear hA; intro a hA
                  refine ⟨fun h => absurd h (by decide), ?_⟩
                  refine d_many (is := [1, 9]) (by kernel_rfl) (by decide) ⟨?_, ?_, trivial⟩
                  · refine d_op (i := 1) (L' := #[true, true, true, true, true, true, true, true, true, false, false, false, false, false, false, false]) rfl rfl (stv hA (by decide) (run_ld (hA.ev rfl) (run_loadS Try.isAgg36 (At.seg1 (hM.box (.s (.s (.s .z)))) 3 rfl))) ?_)
                    clear hA; intro a hA
                    refine ⟨fun h => absurd h (by decide), ?_⟩
                    refine d_one (i := 9) (L' := #[true, true, true, true, true, true, true, true, true, true, false, false, false, false, false, false]) (by kernel_rfl) rfl rfl (st_call Try.call23 hA [(.pointer (some (⟨g0, 0, none⟩))), (.int .i64 50)] rfl (by decide) (mill_Deck_Next.calls _ (lightclientmill_Deck.mk d_0.L r9988.2.At_) _ _ _ _ _ _ ((RoV.mk (hM.roC (Ms := [_]) hr0_0) (Eq.refl d_0.L.length) hc0_0)) (hM.front (Ms := [_])) H9992) ?_)
                    clear hA; rintro _ w10181 ⟨rfl, hMc⟩ a hA
                    have hM := hM.call (Ms := [_]) hMc
                    clear hMc; simp only [List.cons_append, List.nil_append] at hM
                    refine ⟨fun h => absurd h (by decide), ?_⟩
                    refine d_takef (i := 10) (L' := #[true, true, true, true, true, true, true, true, true, true, true, false, false, false, false, false]) rfl (by kernel_rfl) rfl (fun _ _ _ h => h) hA (by decide) (fun h => absurd h (by decide)) (fun a w' hA => run_conv Try.underlying3 Try.underlying35 (hA.ev rfl)) ?_; clear hA; intro a hA
                    refine d_takef (i := 11) (L' := #[true, true, true, true, true, true, true, true, true, true, true, true, false, false, false, false]) rfl (by kernel_rfl) rfl (fun _ _ _ h => h) hA (by decide) (fun h => absurd h (by decide)) (fun a w' hA => run_build [(0, (.agg (pHash.enc (((Vector.replicate 32 0 : Vector Int 32).setIfInBounds 0 (IntKind.u8.wrap t9163)))).toArray)), (1, (.int .i64 (IntKind.i64.wrap (r9985.1 - 1)))), (2, (.int .i64 r9988.1)), (3, (.int .u32 (IntKind.u32.wrap r9991.1)))] zero61 Try.underlying61 (ss := [32, 1, 1, 1]) ⟨Try.sizeOf34, Try.sizeOf3, Try.sizeOf3, Try.sizeOf35, trivial⟩ hA rfl (fill_step rfl (by simp [Value.cells, Pl.len]; try rfl) (enc_fit _ _ rfl) (arr_eq (Stem.spl_ID _ _)) (fill_step rfl rfl (enc_fit _ _ rfl) (arr_eq (Stem.spl_From_ _ _)) (fill_step rfl rfl (enc_fit _ _ rfl) (arr_eq (Stem.spl_To_ _ _)) (fill_step rfl rfl (enc_fit _ _ rfl) (arr_eq (Stem.spl_Due _ _)) (fill_nil)))))) ?_; clear hA; intro a hA
                    refine d_one (i := 12) (L' := #[true, true, true, true, true, true, true, true, true, true, true, true, true, false, false, false]) (by kernel_rfl) rfl rfl (e_litNL [(Stem.mk (((Vector.replicate 32 0 : Vector Int 32).setIfInBounds 0 (IntKind.u8.wrap t9163))) (IntKind.i64.wrap (r9985.1 - 1)) r9988.1 (IntKind.u32.wrap r9991.1))] [(.agg (pStem.enc (Stem.mk (((Vector.replicate 32 0 : Vector Int 32).setIfInBounds 0 (IntKind.u8.wrap t9163))) (IntKind.i64.wrap (r9985.1 - 1)) r9988.1 (IntKind.u32.wrap r9991.1))).toArray)] elt36 hM rfl (by decide) hA rfl rfl (List.cons_ne_nil _ _) (by decide) ?_)
                    clear hM hA; intro w10183 g10182 hM hE hlo10184 a hA
                    refine ⟨fun h => absurd h (by decide), ?_⟩
                    refine d_one (i := 13) (L' := #[true, true, true, true, true, true, true, true, true, true, true, true, true, true, false, false]) (by kernel_rfl) rfl rfl (e_appendL elt36 hM (fun _ => (.s (.s (.s (.s (.s (.s .z))))))) (Src.row Try.underlying36 (RowOk.row (hM.row (p := pStem) .z)) (RowOk.len (hM.row (p := pStem) .z))) hl10000 hA rfl rfl (by decide) ?_)
                    clear hM hA; intro w10187 A10185 c10186 hM hE hlo10188 a hA
                    refine ⟨fun h => absurd h (by decide), ?_⟩
                    refine d_takef (i := 14) (L' := #[true, true, true, true, true, true, true, true, true, true, true, true, true, true, true, false]) rfl (by kernel_rfl) rfl (fun _ _ _ h => h) hA (by decide) (fun h => absurd h (by decide)) (fun a w' hA => run_field' Try.underlying39 rfl rfl Try.sizeOf36 (by decide) (hA.ev rfl)) ?_; clear hA; intro a hA
                    refine d_one (i := 15) (L' := #[true, true, true, true, true, true, true, true, true, true, true, true, true, true, true, true]) (by kernel_rfl) rfl rfl (e_store (g := g5132) (off := 3) (cur := [(.int .u32 (IntKind.u32.wrap r5126.1)), (.bool (r5129.1 == 0)), (.slice A5728 xs5730.length c5729), (.slice A9154 xs9156.length c9155), (.slice A9159 xs9161.length c9160)]) (cs' := [(.int .u32 (IntKind.u32.wrap r5126.1)), (.bool (r5129.1 == 0)), (.slice A5728 xs5730.length c5729), (.slice A10185 (xs9156.length + 1) c10186), (.slice A9159 xs9161.length c9160)]) hM (.s (.s (.s (.s .z)))) Try.sizeOf36 hA rfl (by simp [add_mk]) rfl (by first | rfl | simp [Value.cells, Pl.len]) (one_val rfl) (by first | exact Nat.le_of_ble_eq_true rfl | (simp [Pl.len]; done)) (rfl) ?_)
                    clear hM hA; intro w10189  hM hE  a hA
                    refine ⟨fun h => absurd h (by decide), ?_⟩
                    refine d_done (by kernel_rfl) ?_
                    exact ⟨r9991.2.At_, (xs9156 ++ [(Stem.mk (((Vector.replicate 32 0 : Vector Int 32).setIfInBounds 0 (IntKind.u8.wrap t9163))) (IntKind.i64.wrap (r9985.1 - 1)) r9988.1 (IntKind.u32.wrap r9991.1))]), (.slice A10185 (xs9156.length + 1) c10186), Option.some.inj H9982, (hM.sel [1, 3, 4, 5, 6, 7] rfl (by decide)), ((((hA.nil.cons (hA.get 5 _ rfl)).cons (hA.get 3 _ rfl)).cons (hA.get 2 _ rfl)).cons (hA.get 0 _ rfl))⟩
                  · refine d_op (i := 9) (L' := #[true, false, true, true, true, true, true, true, true, true, false, false, false, false, false, false]) rfl rfl (st_call Try.call23 hA [(.pointer (some (⟨g0, 0, none⟩))), (.int .i64 50)] rfl (by decide) (mill_Deck_Next.calls _ (lightclientmill_Deck.mk d_0.L r9988.2.At_) _ _ _ _ _ _ ((RoV.mk (hM.roC (Ms := [_]) hr0_0) (Eq.refl d_0.L.length) hc0_0)) (hM.front (Ms := [_])) H9992) ?_)
                    clear hA; rintro _ w10190 ⟨rfl, hMc⟩ a hA
                    have hM := hM.call (Ms := [_]) hMc
                    clear hMc; simp only [List.cons_append, List.nil_append] at hM
                    refine ⟨fun h => absurd h (by decide), ?_⟩
                    refine d_takef (i := 10) (L' := #[true, false, true, true, true, true, true, true, true, true, true, false, false, false, false, false]) rfl (by kernel_rfl) rfl (fun _ _ _ h => h) hA (by decide) (fun h => absurd h (by decide)) (fun a w' hA => run_conv Try.underlying3 Try.underlying35 (hA.ev rfl)) ?_; clear hA; intro a hA
                    refine d_takef (i := 11) (L' := #[true, false, true, true, true, true, true, true, true, true, true, true, false, false, false, false]) rfl (by kernel_rfl) rfl (fun _ _ _ h => h) hA (by decide) (fun h => absurd h (by decide)) (fun a w' hA => run_build [(0, (.agg (pHash.enc (((Vector.replicate 32 0 : Vector Int 32).setIfInBounds 0 (IntKind.u8.wrap t9163)))).toArray)), (1, (.int .i64 (IntKind.i64.wrap (r9985.1 - 1)))), (2, (.int .i64 r9988.1)), (3, (.int .u32 (IntKind.u32.wrap r9991.1)))] zero61 Try.underlying61 (ss := [32, 1, 1, 1]) ⟨Try.sizeOf34, Try.sizeOf3, Try.sizeOf3, Try.sizeOf35, trivial⟩ hA rfl (fill_step rfl (by simp [Value.cells, Pl.len]; try rfl) (enc_fit _ _ rfl) (arr_eq (Stem.spl_ID _ _)) (fill_step rfl rfl (enc_fit _ _ rfl) (arr_eq (Stem.spl_From_ _ _)) (fill_step rfl rfl (enc_fit _ _ rfl) (arr_eq (Stem.spl_To_ _ _)) (fill_step rfl rfl (enc_fit _ _ rfl) (arr_eq (Stem.spl_Due _ _)) (fill_nil)))))) ?_; clear hA; intro a hA
                    refine d_many (is := [1, 12]) (by kernel_rfl) (by decide) ⟨?_, ?_, trivial⟩
                    · refine d_op (i := 1) (L' := #[true, true, true, true, true, true, true, true, true, true, true, true, false, false, false, false]) rfl rfl (stv hA (by decide) (run_ld (hA.ev rfl) (run_loadS Try.isAgg36 (At.seg1 (hM.box (.s (.s (.s .z)))) 3 rfl))) ?_)
                      clear hA; intro a hA
                      refine ⟨fun h => absurd h (by decide), ?_⟩
                      refine d_one (i := 12) (L' := #[true, true, true, true, true, true, true, true, true, true, true, true, true, false, false, false]) (by kernel_rfl) rfl rfl (e_litNL [(Stem.mk (((Vector.replicate 32 0 : Vector Int 32).setIfInBounds 0 (IntKind.u8.wrap t9163))) (IntKind.i64.wrap (r9985.1 - 1)) r9988.1 (IntKind.u32.wrap r9991.1))] [(.agg (pStem.enc (Stem.mk (((Vector.replicate 32 0 : Vector Int 32).setIfInBounds 0 (IntKind.u8.wrap t9163))) (IntKind.i64.wrap (r9985.1 - 1)) r9988.1 (IntKind.u32.wrap r9991.1))).toArray)] elt36 hM rfl (by decide) hA rfl rfl (List.cons_ne_nil _ _) (by decide) ?_)
                      clear hM hA; intro w10192 g10191 hM hE hlo10193 a hA
                      refine ⟨fun h => absurd h (by decide), ?_⟩
                      refine d_one (i := 13) (L' := #[true, true, true, true, true, true, true, true, true, true, true, true, true, true, false, false]) (by kernel_rfl) rfl rfl (e_appendL elt36 hM (fun _ => (.s (.s (.s (.s (.s (.s .z))))))) (Src.row Try.underlying36 (RowOk.row (hM.row (p := pStem) .z)) (RowOk.len (hM.row (p := pStem) .z))) hl10000 hA rfl rfl (by decide) ?_)
                      clear hM hA; intro w10196 A10194 c10195 hM hE hlo10197 a hA
                      refine ⟨fun h => absurd h (by decide), ?_⟩
                      refine d_takef (i := 14) (L' := #[true, true, true, true, true, true, true, true, true, true, true, true, true, true, true, false]) rfl (by kernel_rfl) rfl (fun _ _ _ h => h) hA (by decide) (fun h => absurd h (by decide)) (fun a w' hA => run_field' Try.underlying39 rfl rfl Try.sizeOf36 (by decide) (hA.ev rfl)) ?_; clear hA; intro a hA
                      refine d_one (i := 15) (L' := #[true, true, true, true, true, true, true, true, true, true, true, true, true, true, true, true]) (by kernel_rfl) rfl rfl (e_store (g := g5132) (off := 3) (cur := [(.int .u32 (IntKind.u32.wrap r5126.1)), (.bool (r5129.1 == 0)), (.slice A5728 xs5730.length c5729), (.slice A9154 xs9156.length c9155), (.slice A9159 xs9161.length c9160)]) (cs' := [(.int .u32 (IntKind.u32.wrap r5126.1)), (.bool (r5129.1 == 0)), (.slice A5728 xs5730.length c5729), (.slice A10194 (xs9156.length + 1) c10195), (.slice A9159 xs9161.length c9160)]) hM (.s (.s (.s (.s .z)))) Try.sizeOf36 hA rfl (by simp [add_mk]) rfl (by first | rfl | simp [Value.cells, Pl.len]) (one_val rfl) (by first | exact Nat.le_of_ble_eq_true rfl | (simp [Pl.len]; done)) (rfl) ?_)
                      clear hM hA; intro w10198  hM hE  a hA
                      refine ⟨fun h => absurd h (by decide), ?_⟩
                      refine d_done (by kernel_rfl) ?_
                      exact ⟨r9991.2.At_, (xs9156 ++ [(Stem.mk (((Vector.replicate 32 0 : Vector Int 32).setIfInBounds 0 (IntKind.u8.wrap t9163))) (IntKind.i64.wrap (r9985.1 - 1)) r9988.1 (IntKind.u32.wrap r9991.1))]), (.slice A10194 (xs9156.length + 1) c10195), Option.some.inj H9982, (hM.sel [1, 3, 4, 5, 6, 7] rfl (by decide)), ((((hA.nil.cons (hA.get 5 _ rfl)).cons (hA.get 3 _ rfl)).cons (hA.get 2 _ rfl)).cons (hA.get 0 _ rfl))⟩
                    · refine d_op (i := 12) (L' := #[true, false, true, true, true, true, true, true, true, true, true, true, true, false, false, false]) rfl rfl (e_litNL [(Stem.mk (((Vector.replicate 32 0 : Vector Int 32).setIfInBounds 0 (IntKind.u8.wrap t9163))) (IntKind.i64.wrap (r9985.1 - 1)) r9988.1 (IntKind.u32.wrap r9991.1))] [(.agg (pStem.enc (Stem.mk (((Vector.replicate 32 0 : Vector Int 32).setIfInBounds 0 (IntKind.u8.wrap t9163))) (IntKind.i64.wrap (r9985.1 - 1)) r9988.1 (IntKind.u32.wrap r9991.1))).toArray)] elt36 hM rfl (by decide) hA rfl rfl (List.cons_ne_nil _ _) (by decide) ?_)
                      clear hM hA; intro w10200 g10199 hM hE hlo10201 a hA
                      refine ⟨fun h => absurd h (by decide), ?_⟩
                      refine d_one (i := 1) (L' := #[true, true, true, true, true, true, true, true, true, true, true, true, true, false, false, false]) (by kernel_rfl) rfl rfl (stv hA (by decide) (run_ld (hA.ev rfl) (run_loadS Try.isAgg36 (At.seg1 (hM.box (.s (.s (.s (.s .z))))) 3 rfl))) ?_)
                      clear hA; intro a hA
                      refine ⟨fun h => absurd h (by decide), ?_⟩
                      refine d_one (i := 13) (L' := #[true, true, true, true, true, true, true, true, true, true, true, true, true, true, false, false]) (by kernel_rfl) rfl rfl (e_appendL elt36 hM (fun _ => (.s (.s (.s (.s (.s (.s .z))))))) (Src.row Try.underlying36 (RowOk.row (hM.row (p := pStem) .z)) (RowOk.len (hM.row (p := pStem) .z))) hl10000 hA rfl rfl (by decide) ?_)
                      clear hM hA; intro w10204 A10202 c10203 hM hE hlo10205 a hA
                      refine ⟨fun h => absurd h (by decide), ?_⟩
                      refine d_takef (i := 14) (L' := #[true, true, true, true, true, true, true, true, true, true, true, true, true, true, true, false]) rfl (by kernel_rfl) rfl (fun _ _ _ h => h) hA (by decide) (fun h => absurd h (by decide)) (fun a w' hA => run_field' Try.underlying39 rfl rfl Try.sizeOf36 (by decide) (hA.ev rfl)) ?_; clear hA; intro a hA
                      refine d_one (i := 15) (L' := #[true, true, true, true, true, true, true, true, true, true, true, true, true, true, true, true]) (by kernel_rfl) rfl rfl (e_store (g := g5132) (off := 3) (cur := [(.int .u32 (IntKind.u32.wrap r5126.1)), (.bool (r5129.1 == 0)), (.slice A5728 xs5730.length c5729), (.slice A9154 xs9156.length c9155), (.slice A9159 xs9161.length c9160)]) (cs' := [(.int .u32 (IntKind.u32.wrap r5126.1)), (.bool (r5129.1 == 0)), (.slice A5728 xs5730.length c5729), (.slice A10202 (xs9156.length + 1) c10203), (.slice A9159 xs9161.length c9160)]) hM (.s (.s (.s (.s .z)))) Try.sizeOf36 hA rfl (by simp [add_mk]) rfl (by first | rfl | simp [Value.cells, Pl.len]) (one_val rfl) (by first | exact Nat.le_of_ble_eq_true rfl | (simp [Pl.len]; done)) (rfl) ?_)
                      clear hM hA; intro w10206  hM hE  a hA
                      refine ⟨fun h => absurd h (by decide), ?_⟩
                      refine d_done (by kernel_rfl) ?_
                      exact ⟨r9991.2.At_, (xs9156 ++ [(Stem.mk (((Vector.replicate 32 0 : Vector Int 32).setIfInBounds 0 (IntKind.u8.wrap t9163))) (IntKind.i64.wrap (r9985.1 - 1)) r9988.1 (IntKind.u32.wrap r9991.1))]), (.slice A10202 (xs9156.length + 1) c10203), Option.some.inj H9982, (hM.sel [1, 3, 4, 5, 6, 7] rfl (by decide)), ((((hA.nil.cons (hA.get 5 _ rfl)).cons (hA.get 3 _ rfl)).cons (hA.get 2 _ rfl)).cons (hA.get 0 _ rfl))⟩
                · refine d_op (i := 9) (L' := #[true, false, false, true, true, true, true, true, true, true, false, false, false, false, false, false]) rfl rfl (st_call Try.call23 hA [(.pointer (some (⟨g0, 0, none⟩))), (.int .i64 50)] rfl (by decide) (mill_Deck_Next.calls _ (lightclientmill_Deck.mk d_0.L r9988.2.At_) _ _ _ _ _ _ ((RoV.mk (hM.roC (Ms := [_]) hr0_0) (Eq.refl d_0.L.length) hc0_0)) (hM.front (Ms := [_])) H9992) ?_)
                  clear hA; rintro _ w10207 ⟨rfl, hMc⟩ a hA
                  have hM := hM.call (Ms := [_]) hMc
                  clear hMc; simp only [List.cons_append, List.nil_append] at hM
                  refine ⟨fun h => absurd h (by decide), ?_⟩
                  refine d_takef (i := 10) (L' := #[true, false, false, true, true, true, true, true, true, true, true, false, false, false, false, false]) rfl (by kernel_rfl) rfl (fun _ _ _ h => h) hA (by decide) (fun h => absurd h (by decide)) (fun a w' hA => run_conv Try.underlying3 Try.underlying35 (hA.ev rfl)) ?_; clear hA; intro a hA
                  refine d_many (is := [1, 2]) (by kernel_rfl) (by decide) ⟨?_, ?_, trivial⟩
                  · refine d_op (i := 1) (L' := #[true, true, false, true, true, true, true, true, true, true, true, false, false, false, false, false]) rfl rfl (stv hA (by decide) (run_ld (hA.ev rfl) (run_loadS Try.isAgg36 (At.seg1 (hM.box (.s (.s (.s .z)))) 3 rfl))) ?_)
                    clear hA; intro a hA
                    refine ⟨fun h => absurd h (by decide), ?_⟩
                    refine d_one (i := 2) (L' := #[true, true, true, true, true, true, true, true, true, true, true, false, false, false, false, false]) (by kernel_rfl) rfl rfl (stv hA (by decide) (run_ld (hA.ev rfl) (run_loadP Try.isAgg34 Try.sizeOf34 (hM.box (.s .z)))) ?_)
                    clear hA; intro a hA
                    refine ⟨fun h => absurd h (by decide), ?_⟩
                    refine d_takef (i := 11) (L' := #[true, true, true, true, true, true, true, true, true, true, true, true, false, false, false, false]) rfl (by kernel_rfl) rfl (fun _ _ _ h => h) hA (by decide) (fun h => absurd h (by decide)) (fun a w' hA => run_build [(0, (.agg (pHash.enc (((Vector.replicate 32 0 : Vector Int 32).setIfInBounds 0 (IntKind.u8.wrap t9163)))).toArray)), (1, (.int .i64 (IntKind.i64.wrap (r9985.1 - 1)))), (2, (.int .i64 r9988.1)), (3, (.int .u32 (IntKind.u32.wrap r9991.1)))] zero61 Try.underlying61 (ss := [32, 1, 1, 1]) ⟨Try.sizeOf34, Try.sizeOf3, Try.sizeOf3, Try.sizeOf35, trivial⟩ hA rfl (fill_step rfl (by simp [Value.cells, Pl.len]; try rfl) (enc_fit _ _ rfl) (arr_eq (Stem.spl_ID _ _)) (fill_step rfl rfl (enc_fit _ _ rfl) (arr_eq (Stem.spl_From_ _ _)) (fill_step rfl rfl (enc_fit _ _ rfl) (arr_eq (Stem.spl_To_ _ _)) (fill_step rfl rfl (enc_fit _ _ rfl) (arr_eq (Stem.spl_Due _ _)) (fill_nil)))))) ?_; clear hA; intro a hA
                    refine d_one (i := 12) (L' := #[true, true, true, true, true, true, true, true, true, true, true, true, true, false, false, false]) (by kernel_rfl) rfl rfl (e_litNL [(Stem.mk (((Vector.replicate 32 0 : Vector Int 32).setIfInBounds 0 (IntKind.u8.wrap t9163))) (IntKind.i64.wrap (r9985.1 - 1)) r9988.1 (IntKind.u32.wrap r9991.1))] [(.agg (pStem.enc (Stem.mk (((Vector.replicate 32 0 : Vector Int 32).setIfInBounds 0 (IntKind.u8.wrap t9163))) (IntKind.i64.wrap (r9985.1 - 1)) r9988.1 (IntKind.u32.wrap r9991.1))).toArray)] elt36 hM rfl (by decide) hA rfl rfl (List.cons_ne_nil _ _) (by decide) ?_)
                    clear hM hA; intro w10209 g10208 hM hE hlo10210 a hA
                    refine ⟨fun h => absurd h (by decide), ?_⟩
                    refine d_one (i := 13) (L' := #[true, true, true, true, true, true, true, true, true, true, true, true, true, true, false, false]) (by kernel_rfl) rfl rfl (e_appendL elt36 hM (fun _ => (.s (.s (.s (.s (.s (.s .z))))))) (Src.row Try.underlying36 (RowOk.row (hM.row (p := pStem) .z)) (RowOk.len (hM.row (p := pStem) .z))) hl10000 hA rfl rfl (by decide) ?_)
                    clear hM hA; intro w10213 A10211 c10212 hM hE hlo10214 a hA
                    refine ⟨fun h => absurd h (by decide), ?_⟩
                    refine d_takef (i := 14) (L' := #[true, true, true, true, true, true, true, true, true, true, true, true, true, true, true, false]) rfl (by kernel_rfl) rfl (fun _ _ _ h => h) hA (by decide) (fun h => absurd h (by decide)) (fun a w' hA => run_field' Try.underlying39 rfl rfl Try.sizeOf36 (by decide) (hA.ev rfl)) ?_; clear hA; intro a hA
                    refine d_one (i := 15) (L' := #[true, true, true, true, true, true, true, true, true, true, true, true, true, true, true, true]) (by kernel_rfl) rfl rfl (e_store (g := g5132) (off := 3) (cur := [(.int .u32 (IntKind.u32.wrap r5126.1)), (.bool (r5129.1 == 0)), (.slice A5728 xs5730.length c5729), (.slice A9154 xs9156.length c9155), (.slice A9159 xs9161.length c9160)]) (cs' := [(.int .u32 (IntKind.u32.wrap r5126.1)), (.bool (r5129.1 == 0)), (.slice A5728 xs5730.length c5729), (.slice A10211 (xs9156.length + 1) c10212), (.slice A9159 xs9161.length c9160)]) hM (.s (.s (.s (.s .z)))) Try.sizeOf36 hA rfl (by simp [add_mk]) rfl (by first | rfl | simp [Value.cells, Pl.len]) (one_val rfl) (by first | exact Nat.le_of_ble_eq_true rfl | (simp [Pl.len]; done)) (rfl) ?_)
                    clear hM hA; intro w10215  hM hE  a hA
                    refine ⟨fun h => absurd h (by decide), ?_⟩
                    refine d_done (by kernel_rfl) ?_
                    exact ⟨r9991.2.At_, (xs9156 ++ [(Stem.mk (((Vector.replicate 32 0 : Vector Int 32).setIfInBounds 0 (IntKind.u8.wrap t9163))) (IntKind.i64.wrap (r9985.1 - 1)) r9988.1 (IntKind.u32.wrap r9991.1))]), (.slice A10211 (xs9156.length + 1) c10212), Option.some.inj H9982, (hM.sel [1, 3, 4, 5, 6, 7] rfl (by decide)), ((((hA.nil.cons (hA.get 5 _ rfl)).cons (hA.get 3 _ rfl)).cons (hA.get 2 _ rfl)).cons (hA.get 0 _ rfl))⟩
                  · refine d_op (i := 2) (L' := #[true, false, true, true, true, true, true, true, true, true, true, false, false, false, false, false]) rfl rfl (stv hA (by decide) (run_ld (hA.ev rfl) (run_loadP Try.isAgg34 Try.sizeOf34 (hM.box (.s .z)))) ?_)
                    clear hA; intro a hA
                    refine ⟨fun h => absurd h (by decide), ?_⟩
                    refine d_takef (i := 11) (L' := #[true, false, true, true, true, true, true, true, true, true, true, true, false, false, false, false]) rfl (by kernel_rfl) rfl (fun _ _ _ h => h) hA (by decide) (fun h => absurd h (by decide)) (fun a w' hA => run_build [(0, (.agg (pHash.enc (((Vector.replicate 32 0 : Vector Int 32).setIfInBounds 0 (IntKind.u8.wrap t9163)))).toArray)), (1, (.int .i64 (IntKind.i64.wrap (r9985.1 - 1)))), (2, (.int .i64 r9988.1)), (3, (.int .u32 (IntKind.u32.wrap r9991.1)))] zero61 Try.underlying61 (ss := [32, 1, 1, 1]) ⟨Try.sizeOf34, Try.sizeOf3, Try.sizeOf3, Try.sizeOf35, trivial⟩ hA rfl (fill_step rfl (by simp [Value.cells, Pl.len]; try rfl) (enc_fit _ _ rfl) (arr_eq (Stem.spl_ID _ _)) (fill_step rfl rfl (enc_fit _ _ rfl) (arr_eq (Stem.spl_From_ _ _)) (fill_step rfl rfl (enc_fit _ _ rfl) (arr_eq (Stem.spl_To_ _ _)) (fill_step rfl rfl (enc_fit _ _ rfl) (arr_eq (Stem.spl_Due _ _)) (fill_nil)))))) ?_; clear hA; intro a hA
                    refine d_many (is := [1, 12]) (by kernel_rfl) (by decide) ⟨?_, ?_, trivial⟩
                    · refine d_op (i := 1) (L' := #[true, true, true, true, true, true, true, true, true, true, true, true, false, false, false, false]) rfl rfl (stv hA (by decide) (run_ld (hA.ev rfl) (run_loadS Try.isAgg36 (At.seg1 (hM.box (.s (.s (.s .z)))) 3 rfl))) ?_)
                      clear hA; intro a hA
                      refine ⟨fun h => absurd h (by decide), ?_⟩
                      refine d_one (i := 12) (L' := #[true, true, true, true, true, true, true, true, true, true, true, true, true, false, false, false]) (by kernel_rfl) rfl rfl (e_litNL [(Stem.mk (((Vector.replicate 32 0 : Vector Int 32).setIfInBounds 0 (IntKind.u8.wrap t9163))) (IntKind.i64.wrap (r9985.1 - 1)) r9988.1 (IntKind.u32.wrap r9991.1))] [(.agg (pStem.enc (Stem.mk (((Vector.replicate 32 0 : Vector Int 32).setIfInBounds 0 (IntKind.u8.wrap t9163))) (IntKind.i64.wrap (r9985.1 - 1)) r9988.1 (IntKind.u32.wrap r9991.1))).toArray)] elt36 hM rfl (by decide) hA rfl rfl (List.cons_ne_nil _ _) (by decide) ?_)
                      clear hM hA; intro w10217 g10216 hM hE hlo10218 a hA
                      refine ⟨fun h => absurd h (by decide), ?_⟩
                      refine d_one (i := 13) (L' := #[true, true, true, true, true, true, true, true, true, true, true, true, true, true, false, false]) (by kernel_rfl) rfl rfl (e_appendL elt36 hM (fun _ => (.s (.s (.s (.s (.s (.s .z))))))) (Src.row Try.underlying36 (RowOk.row (hM.row (p := pStem) .z)) (RowOk.len (hM.row (p := pStem) .z))) hl10000 hA rfl rfl (by decide) ?_)
                      clear hM hA; intro w10221 A10219 c10220 hM hE hlo10222 a hA
                      refine ⟨fun h => absurd h (by decide), ?_⟩
                      refine d_takef (i := 14) (L' := #[true, true, true, true, true, true, true, true, true, true, true, true, true, true, true, false]) rfl (by kernel_rfl) rfl (fun _ _ _ h => h) hA (by decide) (fun h => absurd h (by decide)) (fun a w' hA => run_field' Try.underlying39 rfl rfl Try.sizeOf36 (by decide) (hA.ev rfl)) ?_; clear hA; intro a hA
                      refine d_one (i := 15) (L' := #[true, true, true, true, true, true, true, true, true, true, true, true, true, true, true, true]) (by kernel_rfl) rfl rfl (e_store (g := g5132) (off := 3) (cur := [(.int .u32 (IntKind.u32.wrap r5126.1)), (.bool (r5129.1 == 0)), (.slice A5728 xs5730.length c5729), (.slice A9154 xs9156.length c9155), (.slice A9159 xs9161.length c9160)]) (cs' := [(.int .u32 (IntKind.u32.wrap r5126.1)), (.bool (r5129.1 == 0)), (.slice A5728 xs5730.length c5729), (.slice A10219 (xs9156.length + 1) c10220), (.slice A9159 xs9161.length c9160)]) hM (.s (.s (.s (.s .z)))) Try.sizeOf36 hA rfl (by simp [add_mk]) rfl (by first | rfl | simp [Value.cells, Pl.len]) (one_val rfl) (by first | exact Nat.le_of_ble_eq_true rfl | (simp [Pl.len]; done)) (rfl) ?_)
                      clear hM hA; intro w10223  hM hE  a hA
                      refine ⟨fun h => absurd h (by decide), ?_⟩
                      refine d_done (by kernel_rfl) ?_
                      exact ⟨r9991.2.At_, (xs9156 ++ [(Stem.mk (((Vector.replicate 32 0 : Vector Int 32).setIfInBounds 0 (IntKind.u8.wrap t9163))) (IntKind.i64.wrap (r9985.1 - 1)) r9988.1 (IntKind.u32.wrap r9991.1))]), (.slice A10219 (xs9156.length + 1) c10220), Option.some.inj H9982, (hM.sel [1, 3, 4, 5, 6, 7] rfl (by decide)), ((((hA.nil.cons (hA.get 5 _ rfl)).cons (hA.get 3 _ rfl)).cons (hA.get 2 _ rfl)).cons (hA.get 0 _ rfl))⟩
                    · refine d_op (i := 12) (L' := #[true, false, true, true, true, true, true, true, true, true, true, true, true, false, false, false]) rfl rfl (e_litNL [(Stem.mk (((Vector.replicate 32 0 : Vector Int 32).setIfInBounds 0 (IntKind.u8.wrap t9163))) (IntKind.i64.wrap (r9985.1 - 1)) r9988.1 (IntKind.u32.wrap r9991.1))] [(.agg (pStem.enc (Stem.mk (((Vector.replicate 32 0 : Vector Int 32).setIfInBounds 0 (IntKind.u8.wrap t9163))) (IntKind.i64.wrap (r9985.1 - 1)) r9988.1 (IntKind.u32.wrap r9991.1))).toArray)] elt36 hM rfl (by decide) hA rfl rfl (List.cons_ne_nil _ _) (by decide) ?_)
                      clear hM hA; intro w10225 g10224 hM hE hlo10226 a hA
                      refine ⟨fun h => absurd h (by decide), ?_⟩
                      refine d_one (i := 1) (L' := #[true, true, true, true, true, true, true, true, true, true, true, true, true, false, false, false]) (by kernel_rfl) rfl rfl (stv hA (by decide) (run_ld (hA.ev rfl) (run_loadS Try.isAgg36 (At.seg1 (hM.box (.s (.s (.s (.s .z))))) 3 rfl))) ?_)
                      clear hA; intro a hA
                      refine ⟨fun h => absurd h (by decide), ?_⟩
                      refine d_one (i := 13) (L' := #[true, true, true, true, true, true, true, true, true, true, true, true, true, true, false, false]) (by kernel_rfl) rfl rfl (e_appendL elt36 hM (fun _ => (.s (.s (.s (.s (.s (.s .z))))))) (Src.row Try.underlying36 (RowOk.row (hM.row (p := pStem) .z)) (RowOk.len (hM.row (p := pStem) .z))) hl10000 hA rfl rfl (by decide) ?_)
                      clear hM hA; intro w10229 A10227 c10228 hM hE hlo10230 a hA
                      refine ⟨fun h => absurd h (by decide), ?_⟩
                      refine d_takef (i := 14) (L' := #[true, true, true, true, true, true, true, true, true, true, true, true, true, true, true, false]) rfl (by kernel_rfl) rfl (fun _ _ _ h => h) hA (by decide) (fun h => absurd h (by decide)) (fun a w' hA => run_field' Try.underlying39 rfl rfl Try.sizeOf36 (by decide) (hA.ev rfl)) ?_; clear hA; intro a hA
                      refine d_one (i := 15) (L' := #[true, true, true, true, true, true, true, true, true, true, true, true, true, true, true, true]) (by kernel_rfl) rfl rfl (e_store (g := g5132) (off := 3) (cur := [(.int .u32 (IntKind.u32.wrap r5126.1)), (.bool (r5129.1 == 0)), (.slice A5728 xs5730.length c5729), (.slice A9154 xs9156.length c9155), (.slice A9159 xs9161.length c9160)]) (cs' := [(.int .u32 (IntKind.u32.wrap r5126.1)), (.bool (r5129.1 == 0)), (.slice A5728 xs5730.length c5729), (.slice A10227 (xs9156.length + 1) c10228), (.slice A9159 xs9161.length c9160)]) hM (.s (.s (.s (.s .z)))) Try.sizeOf36 hA rfl (by simp [add_mk]) rfl (by first | rfl | simp [Value.cells, Pl.len]) (one_val rfl) (by first | exact Nat.le_of_ble_eq_true rfl | (simp [Pl.len]; done)) (rfl) ?_)
                      clear hM hA; intro w10231  hM hE  a hA
                      refine ⟨fun h => absurd h (by decide), ?_⟩
                      refine d_done (by kernel_rfl) ?_
                      exact ⟨r9991.2.At_, (xs9156 ++ [(Stem.mk (((Vector.replicate 32 0 : Vector Int 32).setIfInBounds 0 (IntKind.u8.wrap t9163))) (IntKind.i64.wrap (r9985.1 - 1)) r9988.1 (IntKind.u32.wrap r9991.1))]), (.slice A10227 (xs9156.length + 1) c10228), Option.some.inj H9982, (hM.sel [1, 3, 4, 5, 6, 7] rfl (by decide)), ((((hA.nil.cons (hA.get 5 _ rfl)).cons (hA.get 3 _ rfl)).cons (hA.get 2 _ rfl)).cons (hA.get 0 _ rfl))⟩
          clear hM hA
          rintro a w10232 ⟨x9974, xs9980, v9977, rfl, hM, hA⟩
          try dsimp only at H9722
          obtain ⟨A9978, c9979, rfl⟩ := RowOk.form (hM.row (p := pStem) (.s (.s (.s (.s .z)))))
          exact ⟨x9974, xs9980, xs9161, (.slice A9978 xs9980.length c9979), (.slice A9159 xs9161.length c9160), Option.some.inj H9722, hM, ((((hA.nil.cons (hA.get 5 _ rfl)).cons (hA.get 3 _ rfl)).cons (hA.get 2 _ rfl)).cons (hA.get 0 _ rfl))⟩
        · replace H9722 := ite_f hb9724 H9722
          refine wp_seq ?_
          refine wp_region_lit ?_
          refine L1 (stv hA (by decide) (run_bin (hA.ev rfl) (hA.ev rfl) (bin_eql _ _ _ _)) ?_)
          clear hA; intro a hA
          refine L1 (stv hA (by decide) (run_assign (hA.ev rfl)) ?_)
          clear hA; intro a hA
          refine LQ ?_
          refine TN ?_
          refine tcond (b := (r9188.1 == 1)) hA rfl (fun hb10233 => ?_) (fun hb10233 => ?_)
          · replace H9722 := ite_t hb10233 H9722
            refine wp_region_lit ?_
            refine L1 (stv hA (by decide) (run_field' Try.underlying39 rfl rfl Try.sizeOf37 (by decide) (hA.ev rfl)) ?_)
            clear hA; intro a hA
            refine L1 (stv hA (by decide) (run_ld (hA.ev rfl) (run_loadS Try.isAgg37 (At.seg1 (hM.box (.s (.s (.s .z)))) 4 rfl))) ?_)
            clear hA; intro a hA
            refine L1 (stv hA (by decide) (run_ld (hA.ev rfl) (run_loadP Try.isAgg34 Try.sizeOf34 (hM.box (.s .z)))) ?_)
            clear hA; intro a hA
            refine L1 (e_litN [(((Vector.replicate 32 0 : Vector Int 32).setIfInBounds 0 (IntKind.u8.wrap t9163)))] [(.agg (pHash.enc (((Vector.replicate 32 0 : Vector Int 32).setIfInBounds 0 (IntKind.u8.wrap t9163)))).toArray)] elt37 hM rfl (by decide) hA rfl rfl (List.cons_ne_nil _ _) (by decide) ?_)
            clear hM hA; intro w10235 g10234 hM hE  a hA
            obtain ⟨hl10239, H9722⟩ := ite_some H9722
            refine L1 (e_append elt37 hM (fun _ => (.s (.s (.s (.s (.s (.s (.s .z)))))))) (Src.row Try.underlying37 (RowOk.row (hM.row (p := pHash) .z)) (RowOk.len (hM.row (p := pHash) .z))) hl10239 hA rfl rfl (by decide) ?_)
            clear hM hA; intro w10240 A10237 c10238 hM hE  a hA
            refine L1 (stv hA (by decide) (run_field' Try.underlying39 rfl rfl Try.sizeOf37 (by decide) (hA.ev rfl)) ?_)
            clear hA; intro a hA
            refine L1 (e_store (g := g5132) (off := 4) (cur := [(.int .u32 (IntKind.u32.wrap r5126.1)), (.bool (r5129.1 == 0)), (.slice A5728 xs5730.length c5729), (.slice A9154 xs9156.length c9155), (.slice A9159 xs9161.length c9160)]) (cs' := [(.int .u32 (IntKind.u32.wrap r5126.1)), (.bool (r5129.1 == 0)), (.slice A5728 xs5730.length c5729), (.slice A9154 xs9156.length c9155), (.slice A10237 (xs9161.length + 1) c10238)]) hM (.s (.s (.s (.s .z)))) Try.sizeOf37 hA rfl (by simp [add_mk]) rfl (by first | rfl | simp [Value.cells, Pl.len]) (one_val rfl) (by first | exact Nat.le_of_ble_eq_true rfl | (simp [Pl.len]; done)) (rfl) ?_)
            clear hM hA; intro w10241  hM hE  a hA
            refine LQ ?_
            exact ⟨r9188.2.At_, xs9156, (xs9161 ++ [(((Vector.replicate 32 0 : Vector Int 32).setIfInBounds 0 (IntKind.u8.wrap t9163)))]), (.slice A9154 xs9156.length c9155), (.slice A10237 (xs9161.length + 1) c10238), Option.some.inj H9722, (hM.sel [1, 3, 4, 5, 6, 7] rfl (by decide)), ((((hA.nil.cons (hA.get 5 _ rfl)).cons (hA.get 3 _ rfl)).cons (hA.get 2 _ rfl)).cons (hA.get 0 _ rfl))⟩
          · replace H9722 := ite_f hb10233 H9722
            refine wp_skip ?_
            exact ⟨r9188.2.At_, xs9156, xs9161, (.slice A9154 xs9156.length c9155), (.slice A9159 xs9161.length c9160), Option.some.inj H9722, (hM.sel [0, 2, 3, 4, 5, 6] rfl (by decide)), ((((hA.nil.cons (hA.get 5 _ rfl)).cons (hA.get 3 _ rfl)).cons (hA.get 2 _ rfl)).cons (hA.get 0 _ rfl))⟩
      clear hM hA
      rintro a w10242 ⟨x9710, xs9716, xs9720, v9713, v9717, rfl, hM, hA⟩
      try dsimp only at H9177
      obtain ⟨A9714, c9715, rfl⟩ := RowOk.form (hM.row (p := pStem) (.s (.s (.s (.s .z)))))
      obtain ⟨A9718, c9719, rfl⟩ := RowOk.form (hM.row (p := pHash) (.s (.s (.s (.s (.s .z))))))
      refine BN ?_
      refine BN ?_
      refine TN ?_
      refine wp_region_lit ?_
      refine L1 (stv hA (by decide) (run_move (hA.ev rfl)) ?_)
      clear hA; intro a hA
      refine L1 (stv hA (by decide) (run_bin (hA.ev rfl) (hA.ev rfl) (bin_add _ _ _ _)) ?_)
      clear hA; intro a hA
      refine L1 (stv hA (by decide) (run_assign (hA.ev rfl)) ?_)
      clear hA; intro a hA
      refine LQ ?_
      exact ⟨_, Nat.lt_succ_self m9181, x9710, xs9716, xs9720, IntKind.i64.wrap (t9163 + 1), (.slice A9714 xs9716.length c9715), (.slice A9718 xs9720.length c9719), H9177, hM, ((((hA.nil.cons (hA.get 5 _ rfl)).cons (hA.get 3 _ rfl)).cons (hA.get 2 _ rfl)).cons (hA.get 0 _ rfl))⟩
    · replace H9177 := ite_f hb9183 H9177
      refine wp_exit ?_
      refine TX ?_
      refine TX ?_
      refine BX ?_
      exact ⟨xs9156, xs9161, x9149, (.slice A9154 xs9156.length c9155), (.slice A9159 xs9161.length c9160), Option.some.inj H9177, (hM.sel [1, 2, 3, 4, 5, 0] rfl (by decide)), ((hA.nil.cons (hA.get 3 _ rfl)).cons (hA.get 2 _ rfl))⟩
  clear hM hA
  rintro a w10243 ⟨xs9170, xs9175, x9176, v9167, v9172, rfl, hM, hA⟩
  try dsimp only at H
  obtain ⟨A9168, c9169, rfl⟩ := RowOk.form (hM.row (p := pStem) (.s (.s (.s .z))))
  obtain ⟨A9173, c9174, rfl⟩ := RowOk.form (hM.row (p := pHash) (.s (.s (.s (.s .z)))))
  refine TN ?_
  refine wp_seq ?_
  refine wp_region_lit ?_
  refine L1 (stv hA (by decide) (run_ld (hA.ev rfl) (run_loadW Try.isAgg39 Try.sizeOf39 (by simp [Pl.len]; try rfl) (hM.box (.s .z)))) ?_)
  clear hA; intro a hA
  refine L1 (e_store (g := g5123) (off := 0) (cur := [(.int .u32 0), (.bool false), (.slice none 0 0), (.slice none 0 0), (.slice none 0 0)]) (cs' := [(.int .u32 (IntKind.u32.wrap r5126.1)), (.bool (r5129.1 == 0)), (.slice A5728 xs5730.length c5729), (.slice A9168 xs9170.length c9169), (.slice A9173 xs9175.length c9174)]) hM .z Try.sizeOf39 hA rfl (by simp [add_mk]) rfl (by first | rfl | simp [Value.cells, Pl.len]) (by simp [Value.cells, Value.oneCell']) (by first | exact Nat.le_of_ble_eq_true rfl | (simp [Pl.len]; done)) (spl_all (by first | rfl | simp [Value.cells, Pl.len])) ?_)
  clear hM hA; intro w10244  hM hE  a hA
  refine LQ ?_
  refine TN ?_
  refine wp_ret ?_
  obtain rfl := Option.some.inj H
  exact ret_cell (fn := Try.f12) hA rfl rfl (run_loadW Try.isAgg39 Try.sizeOf39 (by simp [Pl.len]; try rfl) (hM.box .z)) ⟨_, rfl, (.slice A5728 xs5730.length c5729), (.slice A9168 xs9170.length c9169), (.slice A9173 xs9175.length c9174), rfl, (hM.sel [5, 2, 3, 4] rfl (by decide))⟩

def mill_New.f (k : Nat) (l_0 : (List Int)) : Option lightclientmill_Deck := (some (lightclientmill_Deck.mk l_0 0))
set_option maxRecDepth 100000 in
theorem mill_New.calls (k : Nat) (l_0 : (List Int)) (F : List (Option Nat)) (v0 : Value) (r : lightclientmill_Deck) (w0 : World) (h0 : RoV F (Pl.int .i64) w0 v0 l_0) (hM : Mem F w0 w0 []) (H : mill_New.f k l_0 = some r) :
    Calls Try.prog 13 #[v0] w0 fun e w' => ∃ v, e = .returned v ∧ ∃ (ggr_0 : Nat), v = (.pointer (some (⟨ggr_0, 0, none⟩))) ∧ Mem F w0 w' [.box ggr_0 63 [v0, (.int .i64 r.At_)]] := by
  unfold mill_New.f at H
  obtain ⟨A0, c0, rfl, hr0, hc0⟩ := h0
  refine enterL (n := 6) [(.slice A0 l_0.length c0)] Try.func13 rfl rfl rfl ?_
  intro a hA
  refine wp_seq ?_
  refine wp_region_lit ?_
  refine L1 (stv hA (by decide) (run_assign (hA.ev rfl)) ?_)
  clear hA; intro a hA
  refine LQ ?_
  refine TN ?_
  refine wp_seq ?_
  refine wp_region_lit ?_
  refine L1 (stv hA (by decide) (run_move (hA.ev rfl)) ?_)
  clear hA; intro a hA
  refine L1 (stv hA (by decide) (run_build (cells := #[(.slice A0 l_0.length c0), (.int .i64 0)]) [(0, (.slice A0 l_0.length c0))] zero63 Try.underlying63 (ss := [1, 1]) ⟨Try.sizeOf22, Try.sizeOf3, trivial⟩ hA rfl (by rfl)) ?_)
  clear hA; intro a hA
  refine L1 (e_box (cs := [(.slice A0 l_0.length c0), (.int .i64 0)]) hM hA rfl rfl (by decide) ?_)
  clear hM hA; intro w5 g4 hM hE  a hA
  refine L1 (stv hA (by decide) (run_assign (hA.ev rfl)) ?_)
  clear hA; intro a hA
  refine LQ ?_
  refine TN ?_
  refine wp_ret ?_
  obtain rfl := Option.some.inj H
  exact ret_post1 (fn := Try.f13) hA rfl rfl ⟨_, rfl, g4, rfl, hM⟩

def ref40_Copied.f (k : Nat) (r_0 : Relay) : Option Relay := (if (0 + r_0.Routes.length) * 8 ≤ 140737488355328 then (if (0 + r_0.Stems.length) * 56 ≤ 140737488355328 then (if (0 + r_0.Fluffed.length) * 32 ≤ 140737488355328 then (some (Relay.mk r_0.Epoch r_0.Diffuse (([] : List Int) ++ r_0.Routes) (([] : List Stem) ++ r_0.Stems) (([] : List (Vector Int 32)) ++ r_0.Fluffed))) else none) else none) else none)
set_option maxRecDepth 100000 in
theorem ref40_Copied.calls (k : Nat) (r_0 : Relay) (F : List (Option Nat)) (v0_2 : Value) (v0_3 : Value) (v0_4 : Value) (r : Relay) (w0 : World) (h0_2 : RoV F (Pl.int .i64) w0 v0_2 r_0.Routes) (h0_3 : RoV F pStem w0 v0_3 r_0.Stems) (h0_4 : RoV F pHash w0 v0_4 r_0.Fluffed) (hM : Mem F w0 w0 []) (H : ref40_Copied.f k r_0 = some r) :
    Calls Try.prog 29 #[(.agg #[(.int .u32 r_0.Epoch), (.bool r_0.Diffuse), v0_2, v0_3, v0_4])] w0 fun e w' => ∃ v, e = .returned v ∧ ∃ (ur_0_2 : Value) (ur_0_3 : Value) (ur_0_4 : Value), v = (.agg #[(.int .u32 r.Epoch), (.bool r.Diffuse), ur_0_2, ur_0_3, ur_0_4]) ∧ Mem F w0 w' [.row 3 (Pl.int .i64).sz ur_0_2 ((Pl.int .i64).flat r.Routes), .row 61 pStem.sz ur_0_3 (pStem.flat r.Stems), .row 34 pHash.sz ur_0_4 (pHash.flat r.Fluffed)] := by
  unfold ref40_Copied.f at H
  obtain ⟨A0_2, c0_2, rfl, hr0_2, hc0_2⟩ := h0_2
  obtain ⟨A0_3, c0_3, rfl, hr0_3, hc0_3⟩ := h0_3
  obtain ⟨A0_4, c0_4, rfl, hr0_4, hc0_4⟩ := h0_4
  refine enterL (n := 19) [(.agg #[(.int .u32 r_0.Epoch), (.bool r_0.Diffuse), (.slice A0_2 r_0.Routes.length c0_2), (.slice A0_3 r_0.Stems.length c0_3), (.slice A0_4 r_0.Fluffed.length c0_4)])] Try.func29 rfl rfl rfl ?_
  intro a hA
  refine wp_seq ?_
  refine wp_region_lit ?_
  refine L1 (e_box (cs := [(.int .u32 r_0.Epoch), (.bool r_0.Diffuse), (.slice A0_2 r_0.Routes.length c0_2), (.slice A0_3 r_0.Stems.length c0_3), (.slice A0_4 r_0.Fluffed.length c0_4)]) hM hA rfl rfl (by decide) ?_)
  clear hM hA; intro w33 g32 hM hE  a hA
  refine L1 (e_alloc (cs := [(.int .u32 0), (.bool false), (.slice none 0 0), (.slice none 0 0), (.slice none 0 0)]) hM zero39 rfl hA (by decide) ?_)
  clear hM hA; intro w36 g35 hM hE  a hA
  refine LQ ?_
  refine TN ?_
  refine wp_seq ?_
  refine wp_region_lit ?_
  refine L1 (e_lit0 elt22 hM hA (by decide) ?_)
  clear hM hA; intro w39 g38 hM hE  a hA
  refine L1 (stv hA (by decide) (run_field' Try.underlying39 rfl rfl Try.sizeOf22 (by decide) (hA.ev rfl)) ?_)
  clear hA; intro a hA
  refine L1 (stv hA (by decide) (run_ld (hA.ev rfl) (run_loadS Try.isAgg22 (At.seg1 (hM.box (.s (.s .z))) 2 rfl))) ?_)
  clear hA; intro a hA
  obtain ⟨hl43, H⟩ := ite_some H
  refine L1 (e_append elt22 hM (fun _ => .z) (Src.row Try.underlying22 (hM.ro hr0_2) (Eq.refl r_0.Routes.length)) hl43 hA rfl rfl (by decide) ?_)
  clear hM hA; intro w44 A41 c42 hM hE  a hA
  refine L1 (stv hA (by decide) (run_field' Try.underlying39 rfl rfl Try.sizeOf22 (by decide) (hA.ev rfl)) ?_)
  clear hA; intro a hA
  refine L1 (e_store (g := g32) (off := 2) (cur := [(.int .u32 r_0.Epoch), (.bool r_0.Diffuse), (.slice A0_2 r_0.Routes.length c0_2), (.slice A0_3 r_0.Stems.length c0_3), (.slice A0_4 r_0.Fluffed.length c0_4)]) (cs' := [(.int .u32 r_0.Epoch), (.bool r_0.Diffuse), (.slice A41 (0 + r_0.Routes.length) c42), (.slice A0_3 r_0.Stems.length c0_3), (.slice A0_4 r_0.Fluffed.length c0_4)]) hM (.s (.s .z)) Try.sizeOf22 hA rfl (by simp [add_mk]) rfl (by first | rfl | simp [Value.cells, Pl.len]) (one_val rfl) (by first | exact Nat.le_of_ble_eq_true rfl | (simp [Pl.len]; done)) (rfl) ?_)
  clear hM hA; intro w45  hM hE  a hA
  refine LQ ?_
  refine TN ?_
  refine wp_seq ?_
  refine wp_region_lit ?_
  refine L1 (e_lit0 elt36 hM hA (by decide) ?_)
  clear hM hA; intro w47 g46 hM hE  a hA
  refine L1 (stv hA (by decide) (run_field' Try.underlying39 rfl rfl Try.sizeOf36 (by decide) (hA.ev rfl)) ?_)
  clear hA; intro a hA
  refine L1 (stv hA (by decide) (run_ld (hA.ev rfl) (run_loadS Try.isAgg36 (At.seg1 (hM.box (.s (.s (.s .z)))) 3 rfl))) ?_)
  clear hA; intro a hA
  obtain ⟨hl51, H⟩ := ite_some H
  refine L1 (e_append elt36 hM (fun _ => .z) (Src.row Try.underlying36 (hM.ro hr0_3) (Eq.refl r_0.Stems.length)) hl51 hA rfl rfl (by decide) ?_)
  clear hM hA; intro w52 A49 c50 hM hE  a hA
  refine L1 (stv hA (by decide) (run_field' Try.underlying39 rfl rfl Try.sizeOf36 (by decide) (hA.ev rfl)) ?_)
  clear hA; intro a hA
  refine L1 (e_store (g := g32) (off := 3) (cur := [(.int .u32 r_0.Epoch), (.bool r_0.Diffuse), (.slice A41 (0 + r_0.Routes.length) c42), (.slice A0_3 r_0.Stems.length c0_3), (.slice A0_4 r_0.Fluffed.length c0_4)]) (cs' := [(.int .u32 r_0.Epoch), (.bool r_0.Diffuse), (.slice A41 (0 + r_0.Routes.length) c42), (.slice A49 (0 + r_0.Stems.length) c50), (.slice A0_4 r_0.Fluffed.length c0_4)]) hM (.s (.s (.s .z))) Try.sizeOf36 hA rfl (by simp [add_mk]) rfl (by first | rfl | simp [Value.cells, Pl.len]) (one_val rfl) (by first | exact Nat.le_of_ble_eq_true rfl | (simp [Pl.len]; done)) (rfl) ?_)
  clear hM hA; intro w53  hM hE  a hA
  refine LQ ?_
  refine TN ?_
  refine wp_seq ?_
  refine wp_region_lit ?_
  refine L1 (e_lit0 elt37 hM hA (by decide) ?_)
  clear hM hA; intro w55 g54 hM hE  a hA
  refine L1 (stv hA (by decide) (run_field' Try.underlying39 rfl rfl Try.sizeOf37 (by decide) (hA.ev rfl)) ?_)
  clear hA; intro a hA
  refine L1 (stv hA (by decide) (run_ld (hA.ev rfl) (run_loadS Try.isAgg37 (At.seg1 (hM.box (.s (.s (.s (.s .z))))) 4 rfl))) ?_)
  clear hA; intro a hA
  obtain ⟨hl59, H⟩ := ite_some H
  refine L1 (e_append elt37 hM (fun _ => .z) (Src.row Try.underlying37 (hM.ro hr0_4) (Eq.refl r_0.Fluffed.length)) hl59 hA rfl rfl (by decide) ?_)
  clear hM hA; intro w60 A57 c58 hM hE  a hA
  refine L1 (stv hA (by decide) (run_field' Try.underlying39 rfl rfl Try.sizeOf37 (by decide) (hA.ev rfl)) ?_)
  clear hA; intro a hA
  refine L1 (e_store (g := g32) (off := 4) (cur := [(.int .u32 r_0.Epoch), (.bool r_0.Diffuse), (.slice A41 (0 + r_0.Routes.length) c42), (.slice A49 (0 + r_0.Stems.length) c50), (.slice A0_4 r_0.Fluffed.length c0_4)]) (cs' := [(.int .u32 r_0.Epoch), (.bool r_0.Diffuse), (.slice A41 (0 + r_0.Routes.length) c42), (.slice A49 (0 + r_0.Stems.length) c50), (.slice A57 (0 + r_0.Fluffed.length) c58)]) hM (.s (.s (.s (.s .z)))) Try.sizeOf37 hA rfl (by simp [add_mk]) rfl (by first | rfl | simp [Value.cells, Pl.len]) (one_val rfl) (by first | exact Nat.le_of_ble_eq_true rfl | (simp [Pl.len]; done)) (rfl) ?_)
  clear hM hA; intro w61  hM hE  a hA
  refine LQ ?_
  refine TN ?_
  refine wp_seq ?_
  refine wp_region_lit ?_
  refine L1 (stv hA (by decide) (run_ld (hA.ev rfl) (run_loadW Try.isAgg39 Try.sizeOf39 (by simp [Pl.len]; try rfl) (hM.box (.s (.s (.s (.s .z))))))) ?_)
  clear hA; intro a hA
  refine L1 (e_store (g := g35) (off := 0) (cur := [(.int .u32 0), (.bool false), (.slice none 0 0), (.slice none 0 0), (.slice none 0 0)]) (cs' := [(.int .u32 r_0.Epoch), (.bool r_0.Diffuse), (.slice A41 (0 + r_0.Routes.length) c42), (.slice A49 (0 + r_0.Stems.length) c50), (.slice A57 (0 + r_0.Fluffed.length) c58)]) hM (.s (.s (.s .z))) Try.sizeOf39 hA rfl (by simp [add_mk]) rfl (by first | rfl | simp [Value.cells, Pl.len]) (by simp [Value.cells, Value.oneCell']) (by first | exact Nat.le_of_ble_eq_true rfl | (simp [Pl.len]; done)) (spl_all (by first | rfl | simp [Value.cells, Pl.len])) ?_)
  clear hM hA; intro w62  hM hE  a hA
  refine LQ ?_
  refine TN ?_
  refine wp_ret ?_
  obtain rfl := Option.some.inj H
  exact ret_cell (fn := Try.f29) hA rfl rfl (run_loadW Try.isAgg39 Try.sizeOf39 (by simp [Pl.len]; try rfl) (hM.box (.s (.s (.s .z))))) ⟨_, rfl, (.slice A41 (0 + r_0.Routes.length) c42), (.slice A49 (0 + r_0.Stems.length) c50), (.slice A57 (0 + r_0.Fluffed.length) c58), rfl, (hM.sel [2, 1, 0] rfl (by decide))⟩

def law40_spoil.f (k : Nat) (r_0 : Relay) (what_1 : Int) (at_2 : Int) : Option Relay := ((ref40_Copied.f k (Relay.mk r_0.Epoch r_0.Diffuse r_0.Routes r_0.Stems r_0.Fluffed)).bind fun r856 => ((mill_Mod.f k what_1 5).bind fun r872 => (Option.bind (α := (List Int) × (List Stem) × (List (Vector Int 32))) (if (r872 == 0) = true then ((mill_Mod.f k at_2 5).bind fun r1297 => (if (r856.Routes.length + 1) * 8 ≤ 140737488355328 then (some ((r856.Routes ++ [IntKind.i64.wrap (r1297 - 1)]), r856.Stems, r856.Fluffed)) else none)) else (if (r872 == 1) = true then (if (decide (((r856.Stems.length : Nat) : Int) > 0)) = true then (Option.bind (α := (List (Vector Int 32))) ((mill_Mod.f k at_2 ((r856.Stems.length : Nat) : Int)).bind fun r1380 => (if 0 ≤ r1380 ∧ r1380 < ((r856.Stems.length : Nat) : Int) then (if (r856.Fluffed.length + 1) * 32 ≤ 140737488355328 then (some (r856.Fluffed ++ [(r856.Stems.getD r1380.toNat Stem.z).ID])) else none) else none)) (fun xs1375 => (some (r856.Routes, r856.Stems, xs1375)))) else (some (r856.Routes, r856.Stems, r856.Fluffed))) else (if (r872 == 2) = true then (if (decide (((r856.Stems.length : Nat) : Int) > 0)) = true then (Option.bind (α := (List Stem)) ((mill_Mod.f k at_2 ((r856.Stems.length : Nat) : Int)).bind fun r1509 => (if 0 ≤ r1509 ∧ r1509 < ((r856.Stems.length : Nat) : Int) then (if (r856.Stems.length + 1) * 56 ≤ 140737488355328 then (some (r856.Stems ++ [(r856.Stems.getD r1509.toNat Stem.z)])) else none) else none)) (fun xs1504 => (some (r856.Routes, xs1504, r856.Fluffed)))) else (some (r856.Routes, r856.Stems, r856.Fluffed))) else (if (r872 == 3) = true then (if (decide (((r856.Fluffed.length : Nat) : Int) > 0)) = true then (Option.bind (α := (List (Vector Int 32))) ((mill_Mod.f k at_2 ((r856.Fluffed.length : Nat) : Int)).bind fun r1638 => (if 0 ≤ r1638 ∧ r1638 < ((r856.Fluffed.length : Nat) : Int) then (if (r856.Fluffed.length + 1) * 32 ≤ 140737488355328 then (some (r856.Fluffed ++ [(r856.Fluffed.getD r1638.toNat (Vector.replicate 32 0 : Vector Int 32))])) else none) else none)) (fun xs1633 => (some (r856.Routes, r856.Stems, xs1633)))) else (some (r856.Routes, r856.Stems, r856.Fluffed))) else (some (r856.Routes, r856.Stems, r856.Fluffed)))))) (fun st => match st with | (xs1282, xs1286, xs1290) => (some (Relay.mk r856.Epoch r856.Diffuse xs1282 xs1286 xs1290))))))
set_option maxRecDepth 100000 in
theorem law40_spoil.calls (k : Nat) (r_0 : Relay) (what_1 : Int) (at_2 : Int) (F : List (Option Nat)) (v0_2 : Value) (v0_3 : Value) (v0_4 : Value) (r : Relay) (w0 : World) (h0_2 : RoV F (Pl.int .i64) w0 v0_2 r_0.Routes) (h0_3 : RoV F pStem w0 v0_3 r_0.Stems) (h0_4 : RoV F pHash w0 v0_4 r_0.Fluffed) (hM : Mem F w0 w0 []) (H : law40_spoil.f k r_0 what_1 at_2 = some r) :
    Calls Try.prog 14 #[(.agg #[(.int .u32 r_0.Epoch), (.bool r_0.Diffuse), v0_2, v0_3, v0_4]), (.int .i64 what_1), (.int .i64 at_2)] w0 fun e w' => ∃ v, e = .returned v ∧ ∃ (ur_0_2 : Value) (ur_0_3 : Value) (ur_0_4 : Value), v = (.agg #[(.int .u32 r.Epoch), (.bool r.Diffuse), ur_0_2, ur_0_3, ur_0_4]) ∧ Mem F w0 w' [.row 3 (Pl.int .i64).sz ur_0_2 ((Pl.int .i64).flat r.Routes), .row 61 pStem.sz ur_0_3 (pStem.flat r.Stems), .row 34 pHash.sz ur_0_4 (pHash.flat r.Fluffed)] := by
  unfold law40_spoil.f at H
  obtain ⟨A0_2, c0_2, rfl, hr0_2, hc0_2⟩ := h0_2
  obtain ⟨A0_3, c0_3, rfl, hr0_3, hc0_3⟩ := h0_3
  obtain ⟨A0_4, c0_4, rfl, hr0_4, hc0_4⟩ := h0_4
  refine enterL (n := 83) [(.agg #[(.int .u32 r_0.Epoch), (.bool r_0.Diffuse), (.slice A0_2 r_0.Routes.length c0_2), (.slice A0_3 r_0.Stems.length c0_3), (.slice A0_4 r_0.Fluffed.length c0_4)]), (.int .i64 what_1), (.int .i64 at_2)] Try.func14 rfl rfl rfl ?_
  intro a hA
  refine wp_seq ?_
  refine wp_region_lit ?_
  refine L1 (e_box (cs := [(.int .u32 r_0.Epoch), (.bool r_0.Diffuse), (.slice A0_2 r_0.Routes.length c0_2), (.slice A0_3 r_0.Stems.length c0_3), (.slice A0_4 r_0.Fluffed.length c0_4)]) hM hA rfl rfl (by decide) ?_)
  clear hM hA; intro w851 g850 hM hE  a hA
  refine L1 (e_alloc (cs := [(.int .u32 0), (.bool false), (.slice none 0 0), (.slice none 0 0), (.slice none 0 0)]) hM zero39 rfl hA (by decide) ?_)
  clear hM hA; intro w854 g853 hM hE  a hA
  refine LQ ?_
  refine TN ?_
  refine wp_seq ?_
  refine wp_region_lit ?_
  refine L1 (stv hA (by decide) (run_ld (hA.ev rfl) (run_loadW Try.isAgg39 Try.sizeOf39 (by simp [Pl.len]; try rfl) (hM.box (.s .z)))) ?_)
  clear hA; intro a hA
  obtain ⟨r856, H857, H⟩ := Option.bind_eq_some_iff.1 H
  refine L1 (st_call Try.call29 hA [(.agg #[(.int .u32 r_0.Epoch), (.bool r_0.Diffuse), (.slice A0_2 r_0.Routes.length c0_2), (.slice A0_3 r_0.Stems.length c0_3), (.slice A0_4 r_0.Fluffed.length c0_4)])] rfl (by decide) (ref40_Copied.calls _ (Relay.mk r_0.Epoch r_0.Diffuse r_0.Routes r_0.Stems r_0.Fluffed) _ _ _ _ _ _ ((RoV.mk (hM.roC (Ms := []) hr0_2) (Eq.refl r_0.Routes.length) hc0_2)) ((RoV.mk (hM.roC (Ms := []) hr0_3) (Eq.refl r_0.Stems.length) hc0_3)) ((RoV.mk (hM.roC (Ms := []) hr0_4) (Eq.refl r_0.Fluffed.length) hc0_4)) (hM.front (Ms := [])) H857) ?_)
  clear hA; rintro _ w858 ⟨v859, v860, v861, rfl, hMc⟩ a hA
  have hE := hMc.below; have hM := hM.call (Ms := []) hMc
  clear hMc; simp only [List.cons_append, List.nil_append] at hM
  obtain ⟨A863, c864, rfl⟩ := RowOk.form (hM.row (p := (Pl.int .i64)) .z)
  obtain ⟨A866, c867, rfl⟩ := RowOk.form (hM.row (p := pStem) (.s .z))
  obtain ⟨A869, c870, rfl⟩ := RowOk.form (hM.row (p := pHash) (.s (.s .z)))
  refine L1 (e_store (g := g850) (off := 0) (cur := [(.int .u32 r_0.Epoch), (.bool r_0.Diffuse), (.slice A0_2 r_0.Routes.length c0_2), (.slice A0_3 r_0.Stems.length c0_3), (.slice A0_4 r_0.Fluffed.length c0_4)]) (cs' := [(.int .u32 r856.Epoch), (.bool r856.Diffuse), (.slice A863 r856.Routes.length c864), (.slice A866 r856.Stems.length c867), (.slice A869 r856.Fluffed.length c870)]) hM (.s (.s (.s (.s .z)))) Try.sizeOf39 hA rfl (by simp [add_mk]) rfl (by first | rfl | simp [Value.cells, Pl.len]) (by simp [Value.cells, Value.oneCell']) (by first | exact Nat.le_of_ble_eq_true rfl | (simp [Pl.len]; done)) (spl_all (by first | rfl | simp [Value.cells, Pl.len])) ?_)
  clear hM hA; intro w871  hM hE  a hA
  refine LQ ?_
  refine TN ?_
  refine wp_seq ?_
  refine wp_seq ?_
  refine wp_region_lit ?_
  refine L1 (stv hA (by decide) (run_move (hA.ev rfl)) ?_)
  clear hA; intro a hA
  obtain ⟨r872, H873, H⟩ := Option.bind_eq_some_iff.1 H
  refine L1 (st_call Try.call9 hA [(.int .i64 what_1), (.int .i64 5)] rfl (by decide) (mill_Mod.calls _ _ _ _ _ _ (hM.front (Ms := [])) H873) ?_)
  clear hA; rintro _ w874 ⟨rfl, hMc⟩ a hA
  have hE := hMc.below; have hM := hM.call (Ms := []) hMc
  clear hMc; simp only [List.cons_append, List.nil_append] at hM
  refine LQ ?_
  refine TN ?_
  refine wp_block ?_
  refine wp_seq ?_
  refine wp_region_lit ?_
  refine L1 (stv hA (by decide) (run_bin (hA.ev rfl) (hA.ev rfl) (bin_eql _ _ _ _)) ?_)
  clear hA; intro a hA
  refine L1 (stv hA (by decide) (run_assign (hA.ev rfl)) ?_)
  clear hA; intro a hA
  refine LQ ?_
  refine TN ?_
  obtain ⟨o1293, H1292, H⟩ := Option.bind_eq_some_iff.1 H
  refine cutC (fun a w => ∃ (xs1282 : (List Int)) (xs1286 : (List Stem)) (xs1290 : (List (Vector Int 32))) (v1279 : Value) (v1283 : Value) (v1287 : Value), (xs1282, xs1286, xs1290) = o1293 ∧ Mem F w0 w [.box g850 39 [(.int .u32 r856.Epoch), (.bool r856.Diffuse), v1279, v1283, v1287], .row 3 (Pl.int .i64).sz v1279 ((Pl.int .i64).flat xs1282), .row 61 pStem.sz v1283 (pStem.flat xs1286), .row 34 pHash.sz v1287 (pHash.flat xs1290), .box g853 39 [(.int .u32 0), (.bool false), (.slice none 0 0), (.slice none 0 0), (.slice none 0 0)]] ∧ Has 83 [(3, (.pointer (some (⟨g850, 0, none⟩)))), (6, (.pointer (some (⟨g853, 0, none⟩))))] a) ?_ ?_
  · refine tcond (b := (r872 == 0)) hA rfl (fun hb1294 => ?_) (fun hb1294 => ?_)
    · replace H1292 := ite_t hb1294 H1292
      refine draw (fun w' => Below w874.heap.size w874 w') [6, 8] rfl ?_
      intro w1295 hw hS; replace hM := hM.ext hS; clear hw
      refine d_takef (i := 0) (L' := #[true, false, false, false, false, false, false, false, false]) rfl (by kernel_rfl) rfl (fun _ _ _ h => h) hA (by decide) (fun _ => hS) (fun a w' hA => run_field' Try.underlying39 rfl rfl Try.sizeOf22 (by decide) (hA.ev rfl)) ?_; clear hA; intro a hA
      refine rebase hS ?_; clear hS; intro hS
      refine d_take (i := 1) (L' := #[true, true, false, false, false, false, false, false, false]) rfl (by kernel_rfl) rfl (fun _ _ _ h => h) hA (by decide) rfl hS (fun a w' hA hS' => run_ld (hA.ev rfl) (run_loadS Try.isAgg22 ((At.seg1 (hM.box (.s (.s (.s (.s .z))))) 2 rfl).extB hS'))) ?_; clear hA; intro a hA
      refine d_takef (i := 2) (L' := #[true, true, true, false, false, false, false, false, false]) rfl (by kernel_rfl) rfl (fun _ _ _ h => h) hA (by decide) (fun _ => hS) (fun a w' hA => run_move (hA.ev rfl)) ?_; clear hA; intro a hA
      obtain ⟨r1297, H1298, H1292⟩ := Option.bind_eq_some_iff.1 H1292
      refine d_one (i := 3) (L' := #[true, true, true, true, false, false, false, false, false]) (by kernel_rfl) rfl rfl (st_call Try.call9 hA [(.int .i64 at_2), (.int .i64 5)] rfl (by decide) (mill_Mod.calls _ _ _ _ _ _ (hM.front (Ms := [])) H1298) ?_)
      clear hA; rintro _ w1299 ⟨rfl, hMc⟩ a hA
      have hE := hMc.below; have hM := hM.call (Ms := []) hMc
      clear hMc; simp only [List.cons_append, List.nil_append] at hM
      replace hS := hS.trans (hE.mono hS.size)
      refine ⟨fun _ => hS, ?_⟩
      refine d_takef (i := 4) (L' := #[true, true, true, true, true, false, false, false, false]) rfl (by kernel_rfl) rfl (fun _ _ _ h => h) hA (by decide) (fun _ => hS) (fun a w' hA => run_bin (hA.ev rfl) (hA.ev rfl) (bin_sub _ _ _ _)) ?_; clear hA; intro a hA
      refine d_one (i := 5) (L' := #[true, true, true, true, true, true, false, false, false]) (by kernel_rfl) rfl rfl (e_litNL [IntKind.i64.wrap (r1297 - 1)] [(.int .i64 (IntKind.i64.wrap (r1297 - 1)))] elt22 hM rfl (by decide) hA rfl rfl (List.cons_ne_nil _ _) (by decide) ?_)
      clear hM hA; intro w1301 g1300 hM hE hlo1302 a hA
      have hlw1303 : ∀ k, Value.ownBlock (.slice (some ⟨g1300, 0, none⟩) 1 1) = some k → w1295.heap.size ≤ k := fun k hk => by cases hk; exact Nat.le_trans hS.size hlo1302
      replace hS := hS.trans (hE.mono hS.size)
      refine ⟨fun _ => hS, ?_⟩
      obtain ⟨hl1306, H1292⟩ := ite_some H1292
      refine d_one (i := 6) (L' := #[true, true, true, true, true, true, true, false, false]) (by kernel_rfl) rfl rfl (e_appendL elt22 hM (fun _ => (.s .z)) (Src.row Try.underlying22 (RowOk.row (hM.row (p := (Pl.int .i64)) .z)) (RowOk.len (hM.row (p := (Pl.int .i64)) .z))) hl1306 hA rfl rfl (by decide) ?_)
      clear hM hA; intro w1307 A1304 c1305 hM hE hlo1308 a hA
      refine ⟨fun h => absurd h (by decide), ?_⟩
      refine d_takef (i := 7) (L' := #[true, true, true, true, true, true, true, true, false]) rfl (by kernel_rfl) rfl (fun _ _ _ h => h) hA (by decide) (fun h => absurd h (by decide)) (fun a w' hA => run_field' Try.underlying39 rfl rfl Try.sizeOf22 (by decide) (hA.ev rfl)) ?_; clear hA; intro a hA
      refine d_one (i := 8) (L' := #[true, true, true, true, true, true, true, true, true]) (by kernel_rfl) rfl rfl (e_store (g := g850) (off := 2) (cur := [(.int .u32 r856.Epoch), (.bool r856.Diffuse), (.slice A863 r856.Routes.length c864), (.slice A866 r856.Stems.length c867), (.slice A869 r856.Fluffed.length c870)]) (cs' := [(.int .u32 r856.Epoch), (.bool r856.Diffuse), (.slice A1304 (r856.Routes.length + 1) c1305), (.slice A866 r856.Stems.length c867), (.slice A869 r856.Fluffed.length c870)]) hM (.s (.s (.s (.s (.s .z))))) Try.sizeOf22 hA rfl (by simp [add_mk]) rfl (by first | rfl | simp [Value.cells, Pl.len]) (one_val rfl) (by first | exact Nat.le_of_ble_eq_true rfl | (simp [Pl.len]; done)) (rfl) ?_)
      clear hM hA; intro w1309  hM hE  a hA
      refine ⟨fun h => absurd h (by decide), ?_⟩
      refine d_done (by kernel_rfl) ?_
      exact ⟨(r856.Routes ++ [IntKind.i64.wrap (r1297 - 1)]), r856.Stems, r856.Fluffed, (.slice A1304 (r856.Routes.length + 1) c1305), (.slice A866 r856.Stems.length c867), (.slice A869 r856.Fluffed.length c870), Option.some.inj H1292, (hM.sel [5, 1, 2, 3, 4] rfl (by decide)), ((hA.nil.cons (hA.get 6 _ rfl)).cons (hA.get 3 _ rfl))⟩
    · replace H1292 := ite_f hb1294 H1292
      refine wp_seq ?_
      refine wp_region_lit ?_
      refine L1 (stv hA (by decide) (run_bin (hA.ev rfl) (hA.ev rfl) (bin_eql _ _ _ _)) ?_)
      clear hA; intro a hA
      refine L1 (stv hA (by decide) (run_assign (hA.ev rfl)) ?_)
      clear hA; intro a hA
      refine LQ ?_
      refine TN ?_
      refine tcond (b := (r872 == 1)) hA rfl (fun hb1310 => ?_) (fun hb1310 => ?_)
      · replace H1292 := ite_t hb1310 H1292
        refine wp_seq ?_
        refine wp_region_lit ?_
        refine L1 (stv hA (by decide) (run_field' Try.underlying39 rfl rfl Try.sizeOf36 (by decide) (hA.ev rfl)) ?_)
        clear hA; intro a hA
        refine L1 (stv hA (by decide) (run_ld (hA.ev rfl) (run_loadS Try.isAgg36 (At.seg1 (hM.box (.s (.s (.s (.s .z))))) 3 rfl))) ?_)
        clear hA; intro a hA
        refine L1 (stv hA (by decide) (run_len_slice Try.underlying36 (hA.ev rfl)) ?_)
        clear hA; intro a hA
        refine L1 (stv hA (by decide) (run_bin (hA.ev rfl) (hA.ev rfl) (bin_gtr _ _ _ _)) ?_)
        clear hA; intro a hA
        refine LQ ?_
        refine TN ?_
        refine tcond (b := (decide (((r856.Stems.length : Nat) : Int) > 0))) hA rfl (fun hb1311 => ?_) (fun hb1311 => ?_)
        · replace H1292 := ite_t hb1311 H1292
          obtain ⟨o1378, H1377, H1292⟩ := Option.bind_eq_some_iff.1 H1292
          refine cutC (fun a w => ∃ (xs1375 : (List (Vector Int 32))) (v1372 : Value), xs1375 = o1378 ∧ Mem F w0 w [.box g850 39 [(.int .u32 r856.Epoch), (.bool r856.Diffuse), (.slice A863 r856.Routes.length c864), (.slice A866 r856.Stems.length c867), v1372], .row 3 (Pl.int .i64).sz (.slice A863 r856.Routes.length c864) ((Pl.int .i64).flat r856.Routes), .row 61 pStem.sz (.slice A866 r856.Stems.length c867) (pStem.flat r856.Stems), .row 34 pHash.sz v1372 (pHash.flat xs1375), .box g853 39 [(.int .u32 0), (.bool false), (.slice none 0 0), (.slice none 0 0), (.slice none 0 0)]] ∧ Has 83 [(3, (.pointer (some (⟨g850, 0, none⟩)))), (6, (.pointer (some (⟨g853, 0, none⟩))))] a) ?_ ?_
          · obtain ⟨r1380, H1381, H1377⟩ := Option.bind_eq_some_iff.1 H1377
            obtain ⟨⟨hi1383, hj1384⟩, H1377⟩ := ite_some H1377
            obtain ⟨hl1394, H1377⟩ := ite_some H1377
            refine draw (fun w' => Below w874.heap.size w874 w') [13, 15] rfl ?_
            intro w1398 hw hS; replace hM := hM.ext hS; clear hw
            refine d_takef (i := 0) (L' := #[true, false, false, false, false, false, false, false, false, false, false, false, false, false, false, false]) rfl (by kernel_rfl) rfl (fun _ _ _ h => h) hA (by decide) (fun _ => hS) (fun a w' hA => run_field' Try.underlying39 rfl rfl Try.sizeOf37 (by decide) (hA.ev rfl)) ?_; clear hA; intro a hA
            refine rebase hS ?_; clear hS; intro hS
            refine d_take (i := 1) (L' := #[true, true, false, false, false, false, false, false, false, false, false, false, false, false, false, false]) rfl (by kernel_rfl) rfl (fun _ _ _ h => h) hA (by decide) rfl hS (fun a w' hA hS' => run_ld (hA.ev rfl) (run_loadS Try.isAgg37 ((At.seg1 (hM.box (.s (.s (.s (.s .z))))) 4 rfl).extB hS'))) ?_; clear hA; intro a hA
            refine d_takef (i := 2) (L' := #[true, true, true, false, false, false, false, false, false, false, false, false, false, false, false, false]) rfl (by kernel_rfl) rfl (fun _ _ _ h => h) hA (by decide) (fun _ => hS) (fun a w' hA => run_field' Try.underlying39 rfl rfl Try.sizeOf36 (by decide) (hA.ev rfl)) ?_; clear hA; intro a hA
            refine d_takef (i := 4) (L' := #[true, true, true, false, true, false, false, false, false, false, false, false, false, false, false, false]) rfl (by kernel_rfl) rfl (fun _ _ _ h => h) hA (by decide) (fun _ => hS) (fun a w' hA => run_move (hA.ev rfl)) ?_; clear hA; intro a hA
            refine d_takef (i := 5) (L' := #[true, true, true, false, true, true, false, false, false, false, false, false, false, false, false, false]) rfl (by kernel_rfl) rfl (fun _ _ _ h => h) hA (by decide) (fun _ => hS) (fun a w' hA => run_field' Try.underlying39 rfl rfl Try.sizeOf36 (by decide) (hA.ev rfl)) ?_; clear hA; intro a hA
            refine d_many (is := [3, 6]) (by kernel_rfl) (by decide) ⟨?_, ?_, trivial⟩
            · refine d_op (i := 3) (L' := #[true, true, true, true, true, true, false, false, false, false, false, false, false, false, false, false]) rfl rfl (stv hA (by decide) (run_ld (hA.ev rfl) (run_loadS Try.isAgg36 (At.seg1 (hM.box (.s (.s (.s (.s .z))))) 3 rfl))) ?_)
              clear hA; intro a hA
              refine ⟨fun _ => hS, ?_⟩
              refine d_one (i := 6) (L' := #[true, true, true, true, true, true, true, false, false, false, false, false, false, false, false, false]) (by kernel_rfl) rfl rfl (stv hA (by decide) (run_ld (hA.ev rfl) (run_loadS Try.isAgg36 (At.seg1 (hM.box (.s (.s (.s (.s .z))))) 3 rfl))) ?_)
              clear hA; intro a hA
              refine ⟨fun _ => hS, ?_⟩
              refine d_takef (i := 7) (L' := #[true, true, true, true, true, true, true, true, false, false, false, false, false, false, false, false]) rfl (by kernel_rfl) rfl (fun _ _ _ h => h) hA (by decide) (fun _ => hS) (fun a w' hA => run_len_slice Try.underlying36 (hA.ev rfl)) ?_; clear hA; intro a hA
              refine d_one (i := 8) (L' := #[true, true, true, true, true, true, true, true, true, false, false, false, false, false, false, false]) (by kernel_rfl) rfl rfl (st_call Try.call9 hA [(.int .i64 at_2), (.int .i64 ((r856.Stems.length : Nat) : Int))] rfl (by decide) (mill_Mod.calls _ _ _ _ _ _ (hM.front (Ms := [])) H1381) ?_)
              clear hA; rintro _ w1399 ⟨rfl, hMc⟩ a hA
              have hE := hMc.below; have hM := hM.call (Ms := []) hMc
              clear hMc; simp only [List.cons_append, List.nil_append] at hM
              replace hS := hS.trans (hE.mono hS.size)
              refine ⟨fun _ => hS, ?_⟩
              obtain ⟨ad1400, hq1401, hat1402⟩ := Row.elem' (p := pStem) (RowOk.row (hM.row (p := pStem) (.s .z))) (RowOk.len (hM.row (p := pStem) (.s .z))) Stem.z r1380 hi1383 hj1384
              refine d_takef (i := 9) (L' := #[true, true, true, true, true, true, true, true, true, true, false, false, false, false, false, false]) rfl (by kernel_rfl) rfl (fun _ _ _ h => h) hA (by decide) (fun _ => hS) (fun a w' hA => run_idx Try.underlying36 Try.sizeOf61 (hA.ev rfl) hq1401 (hA.ev rfl) hi1383 hj1384) ?_; clear hA; intro a hA
              refine d_takef (i := 10) (L' := #[true, true, true, true, true, true, true, true, true, true, true, false, false, false, false, false]) rfl (by kernel_rfl) rfl (fun _ _ _ h => h) hA (by decide) (fun _ => hS) (fun a w' hA => run_field' Try.underlying61 rfl rfl Try.sizeOf34 (by decide) (hA.ev rfl)) ?_; clear hA; intro a hA
              refine d_one (i := 11) (L' := #[true, true, true, true, true, true, true, true, true, true, true, true, false, false, false, false]) (by kernel_rfl) rfl rfl (stv hA (by decide) (run_ld (hA.ev rfl) (run_loadP Try.isAgg34 Try.sizeOf34 (Stem.at_ID (hat1402)))) ?_)
              clear hA; intro a hA
              refine ⟨fun _ => hS, ?_⟩
              refine d_one (i := 12) (L' := #[true, true, true, true, true, true, true, true, true, true, true, true, true, false, false, false]) (by kernel_rfl) rfl rfl (e_litNL [(r856.Stems.getD r1380.toNat Stem.z).ID] [(.agg (pHash.enc ((r856.Stems.getD r1380.toNat Stem.z).ID)).toArray)] elt37 hM rfl (by decide) hA rfl rfl (List.cons_ne_nil _ _) (by decide) ?_)
              clear hM hA; intro w1404 g1403 hM hE hlo1405 a hA
              have hlw1406 : ∀ k, Value.ownBlock (.slice (some ⟨g1403, 0, none⟩) 1 1) = some k → w1398.heap.size ≤ k := fun k hk => by cases hk; exact Nat.le_trans hS.size hlo1405
              replace hS := hS.trans (hE.mono hS.size)
              refine ⟨fun _ => hS, ?_⟩
              refine d_one (i := 13) (L' := #[true, true, true, true, true, true, true, true, true, true, true, true, true, true, false, false]) (by kernel_rfl) rfl rfl (e_appendL elt37 hM (fun _ => (.s (.s (.s .z)))) (Src.row Try.underlying37 (RowOk.row (hM.row (p := pHash) .z)) (RowOk.len (hM.row (p := pHash) .z))) hl1394 hA rfl rfl (by decide) ?_)
              clear hM hA; intro w1409 A1407 c1408 hM hE hlo1410 a hA
              refine ⟨fun h => absurd h (by decide), ?_⟩
              refine d_takef (i := 14) (L' := #[true, true, true, true, true, true, true, true, true, true, true, true, true, true, true, false]) rfl (by kernel_rfl) rfl (fun _ _ _ h => h) hA (by decide) (fun h => absurd h (by decide)) (fun a w' hA => run_field' Try.underlying39 rfl rfl Try.sizeOf37 (by decide) (hA.ev rfl)) ?_; clear hA; intro a hA
              refine d_one (i := 15) (L' := #[true, true, true, true, true, true, true, true, true, true, true, true, true, true, true, true]) (by kernel_rfl) rfl rfl (e_store (g := g850) (off := 4) (cur := [(.int .u32 r856.Epoch), (.bool r856.Diffuse), (.slice A863 r856.Routes.length c864), (.slice A866 r856.Stems.length c867), (.slice A869 r856.Fluffed.length c870)]) (cs' := [(.int .u32 r856.Epoch), (.bool r856.Diffuse), (.slice A863 r856.Routes.length c864), (.slice A866 r856.Stems.length c867), (.slice A1407 (r856.Fluffed.length + 1) c1408)]) hM (.s (.s (.s (.s (.s .z))))) Try.sizeOf37 hA rfl (by simp [add_mk]) rfl (by first | rfl | simp [Value.cells, Pl.len]) (one_val rfl) (by first | exact Nat.le_of_ble_eq_true rfl | (simp [Pl.len]; done)) (rfl) ?_)
              clear hM hA; intro w1411  hM hE  a hA
              refine ⟨fun h => absurd h (by decide), ?_⟩
              refine d_done (by kernel_rfl) ?_
              exact ⟨(r856.Fluffed ++ [(r856.Stems.getD r1380.toNat Stem.z).ID]), (.slice A1407 (r856.Fluffed.length + 1) c1408), Option.some.inj H1377, (hM.sel [5, 1, 2, 3, 4] rfl (by decide)), ((hA.nil.cons (hA.get 6 _ rfl)).cons (hA.get 3 _ rfl))⟩
            · refine d_op (i := 6) (L' := #[true, true, true, false, true, true, true, false, false, false, false, false, false, false, false, false]) rfl rfl (stv hA (by decide) (run_ld (hA.ev rfl) (run_loadS Try.isAgg36 (At.seg1 (hM.box (.s (.s (.s (.s .z))))) 3 rfl))) ?_)
              clear hA; intro a hA
              refine ⟨fun _ => hS, ?_⟩
              refine d_takef (i := 7) (L' := #[true, true, true, false, true, true, true, true, false, false, false, false, false, false, false, false]) rfl (by kernel_rfl) rfl (fun _ _ _ h => h) hA (by decide) (fun _ => hS) (fun a w' hA => run_len_slice Try.underlying36 (hA.ev rfl)) ?_; clear hA; intro a hA
              refine d_many (is := [3, 8]) (by kernel_rfl) (by decide) ⟨?_, ?_, trivial⟩
              · refine d_op (i := 3) (L' := #[true, true, true, true, true, true, true, true, false, false, false, false, false, false, false, false]) rfl rfl (stv hA (by decide) (run_ld (hA.ev rfl) (run_loadS Try.isAgg36 (At.seg1 (hM.box (.s (.s (.s (.s .z))))) 3 rfl))) ?_)
                clear hA; intro a hA
                refine ⟨fun _ => hS, ?_⟩
                refine d_one (i := 8) (L' := #[true, true, true, true, true, true, true, true, true, false, false, false, false, false, false, false]) (by kernel_rfl) rfl rfl (st_call Try.call9 hA [(.int .i64 at_2), (.int .i64 ((r856.Stems.length : Nat) : Int))] rfl (by decide) (mill_Mod.calls _ _ _ _ _ _ (hM.front (Ms := [])) H1381) ?_)
                clear hA; rintro _ w1412 ⟨rfl, hMc⟩ a hA
                have hE := hMc.below; have hM := hM.call (Ms := []) hMc
                clear hMc; simp only [List.cons_append, List.nil_append] at hM
                replace hS := hS.trans (hE.mono hS.size)
                refine ⟨fun _ => hS, ?_⟩
                obtain ⟨ad1413, hq1414, hat1415⟩ := Row.elem' (p := pStem) (RowOk.row (hM.row (p := pStem) (.s .z))) (RowOk.len (hM.row (p := pStem) (.s .z))) Stem.z r1380 hi1383 hj1384
                refine d_takef (i := 9) (L' := #[true, true, true, true, true, true, true, true, true, true, false, false, false, false, false, false]) rfl (by kernel_rfl) rfl (fun _ _ _ h => h) hA (by decide) (fun _ => hS) (fun a w' hA => run_idx Try.underlying36 Try.sizeOf61 (hA.ev rfl) hq1414 (hA.ev rfl) hi1383 hj1384) ?_; clear hA; intro a hA
                refine d_takef (i := 10) (L' := #[true, true, true, true, true, true, true, true, true, true, true, false, false, false, false, false]) rfl (by kernel_rfl) rfl (fun _ _ _ h => h) hA (by decide) (fun _ => hS) (fun a w' hA => run_field' Try.underlying61 rfl rfl Try.sizeOf34 (by decide) (hA.ev rfl)) ?_; clear hA; intro a hA
                refine d_one (i := 11) (L' := #[true, true, true, true, true, true, true, true, true, true, true, true, false, false, false, false]) (by kernel_rfl) rfl rfl (stv hA (by decide) (run_ld (hA.ev rfl) (run_loadP Try.isAgg34 Try.sizeOf34 (Stem.at_ID (hat1415)))) ?_)
                clear hA; intro a hA
                refine ⟨fun _ => hS, ?_⟩
                refine d_one (i := 12) (L' := #[true, true, true, true, true, true, true, true, true, true, true, true, true, false, false, false]) (by kernel_rfl) rfl rfl (e_litNL [(r856.Stems.getD r1380.toNat Stem.z).ID] [(.agg (pHash.enc ((r856.Stems.getD r1380.toNat Stem.z).ID)).toArray)] elt37 hM rfl (by decide) hA rfl rfl (List.cons_ne_nil _ _) (by decide) ?_)
                clear hM hA; intro w1417 g1416 hM hE hlo1418 a hA
                have hlw1419 : ∀ k, Value.ownBlock (.slice (some ⟨g1416, 0, none⟩) 1 1) = some k → w1398.heap.size ≤ k := fun k hk => by cases hk; exact Nat.le_trans hS.size hlo1418
                replace hS := hS.trans (hE.mono hS.size)
                refine ⟨fun _ => hS, ?_⟩
                refine d_one (i := 13) (L' := #[true, true, true, true, true, true, true, true, true, true, true, true, true, true, false, false]) (by kernel_rfl) rfl rfl (e_appendL elt37 hM (fun _ => (.s (.s (.s .z)))) (Src.row Try.underlying37 (RowOk.row (hM.row (p := pHash) .z)) (RowOk.len (hM.row (p := pHash) .z))) hl1394 hA rfl rfl (by decide) ?_)
                clear hM hA; intro w1422 A1420 c1421 hM hE hlo1423 a hA
                refine ⟨fun h => absurd h (by decide), ?_⟩
                refine d_takef (i := 14) (L' := #[true, true, true, true, true, true, true, true, true, true, true, true, true, true, true, false]) rfl (by kernel_rfl) rfl (fun _ _ _ h => h) hA (by decide) (fun h => absurd h (by decide)) (fun a w' hA => run_field' Try.underlying39 rfl rfl Try.sizeOf37 (by decide) (hA.ev rfl)) ?_; clear hA; intro a hA
                refine d_one (i := 15) (L' := #[true, true, true, true, true, true, true, true, true, true, true, true, true, true, true, true]) (by kernel_rfl) rfl rfl (e_store (g := g850) (off := 4) (cur := [(.int .u32 r856.Epoch), (.bool r856.Diffuse), (.slice A863 r856.Routes.length c864), (.slice A866 r856.Stems.length c867), (.slice A869 r856.Fluffed.length c870)]) (cs' := [(.int .u32 r856.Epoch), (.bool r856.Diffuse), (.slice A863 r856.Routes.length c864), (.slice A866 r856.Stems.length c867), (.slice A1420 (r856.Fluffed.length + 1) c1421)]) hM (.s (.s (.s (.s (.s .z))))) Try.sizeOf37 hA rfl (by simp [add_mk]) rfl (by first | rfl | simp [Value.cells, Pl.len]) (one_val rfl) (by first | exact Nat.le_of_ble_eq_true rfl | (simp [Pl.len]; done)) (rfl) ?_)
                clear hM hA; intro w1424  hM hE  a hA
                refine ⟨fun h => absurd h (by decide), ?_⟩
                refine d_done (by kernel_rfl) ?_
                exact ⟨(r856.Fluffed ++ [(r856.Stems.getD r1380.toNat Stem.z).ID]), (.slice A1420 (r856.Fluffed.length + 1) c1421), Option.some.inj H1377, (hM.sel [5, 1, 2, 3, 4] rfl (by decide)), ((hA.nil.cons (hA.get 6 _ rfl)).cons (hA.get 3 _ rfl))⟩
              · refine d_op (i := 8) (L' := #[true, true, true, false, true, true, true, true, true, false, false, false, false, false, false, false]) rfl rfl (st_call Try.call9 hA [(.int .i64 at_2), (.int .i64 ((r856.Stems.length : Nat) : Int))] rfl (by decide) (mill_Mod.calls _ _ _ _ _ _ (hM.front (Ms := [])) H1381) ?_)
                clear hA; rintro _ w1425 ⟨rfl, hMc⟩ a hA
                have hE := hMc.below; have hM := hM.call (Ms := []) hMc
                clear hMc; simp only [List.cons_append, List.nil_append] at hM
                replace hS := hS.trans (hE.mono hS.size)
                refine ⟨fun _ => hS, ?_⟩
                refine d_one (i := 3) (L' := #[true, true, true, true, true, true, true, true, true, false, false, false, false, false, false, false]) (by kernel_rfl) rfl rfl (stv hA (by decide) (run_ld (hA.ev rfl) (run_loadS Try.isAgg36 (At.seg1 (hM.box (.s (.s (.s (.s .z))))) 3 rfl))) ?_)
                clear hA; intro a hA
                refine ⟨fun _ => hS, ?_⟩
                obtain ⟨ad1426, hq1427, hat1428⟩ := Row.elem' (p := pStem) (RowOk.row (hM.row (p := pStem) (.s .z))) (RowOk.len (hM.row (p := pStem) (.s .z))) Stem.z r1380 hi1383 hj1384
                refine d_takef (i := 9) (L' := #[true, true, true, true, true, true, true, true, true, true, false, false, false, false, false, false]) rfl (by kernel_rfl) rfl (fun _ _ _ h => h) hA (by decide) (fun _ => hS) (fun a w' hA => run_idx Try.underlying36 Try.sizeOf61 (hA.ev rfl) hq1427 (hA.ev rfl) hi1383 hj1384) ?_; clear hA; intro a hA
                refine d_takef (i := 10) (L' := #[true, true, true, true, true, true, true, true, true, true, true, false, false, false, false, false]) rfl (by kernel_rfl) rfl (fun _ _ _ h => h) hA (by decide) (fun _ => hS) (fun a w' hA => run_field' Try.underlying61 rfl rfl Try.sizeOf34 (by decide) (hA.ev rfl)) ?_; clear hA; intro a hA
                refine d_one (i := 11) (L' := #[true, true, true, true, true, true, true, true, true, true, true, true, false, false, false, false]) (by kernel_rfl) rfl rfl (stv hA (by decide) (run_ld (hA.ev rfl) (run_loadP Try.isAgg34 Try.sizeOf34 (Stem.at_ID (hat1428)))) ?_)
                clear hA; intro a hA
                refine ⟨fun _ => hS, ?_⟩
                refine d_one (i := 12) (L' := #[true, true, true, true, true, true, true, true, true, true, true, true, true, false, false, false]) (by kernel_rfl) rfl rfl (e_litNL [(r856.Stems.getD r1380.toNat Stem.z).ID] [(.agg (pHash.enc ((r856.Stems.getD r1380.toNat Stem.z).ID)).toArray)] elt37 hM rfl (by decide) hA rfl rfl (List.cons_ne_nil _ _) (by decide) ?_)
                clear hM hA; intro w1430 g1429 hM hE hlo1431 a hA
                have hlw1432 : ∀ k, Value.ownBlock (.slice (some ⟨g1429, 0, none⟩) 1 1) = some k → w1398.heap.size ≤ k := fun k hk => by cases hk; exact Nat.le_trans hS.size hlo1431
                replace hS := hS.trans (hE.mono hS.size)
                refine ⟨fun _ => hS, ?_⟩
                refine d_one (i := 13) (L' := #[true, true, true, true, true, true, true, true, true, true, true, true, true, true, false, false]) (by kernel_rfl) rfl rfl (e_appendL elt37 hM (fun _ => (.s (.s (.s .z)))) (Src.row Try.underlying37 (RowOk.row (hM.row (p := pHash) .z)) (RowOk.len (hM.row (p := pHash) .z))) hl1394 hA rfl rfl (by decide) ?_)
                clear hM hA; intro w1435 A1433 c1434 hM hE hlo1436 a hA
                refine ⟨fun h => absurd h (by decide), ?_⟩
                refine d_takef (i := 14) (L' := #[true, true, true, true, true, true, true, true, true, true, true, true, true, true, true, false]) rfl (by kernel_rfl) rfl (fun _ _ _ h => h) hA (by decide) (fun h => absurd h (by decide)) (fun a w' hA => run_field' Try.underlying39 rfl rfl Try.sizeOf37 (by decide) (hA.ev rfl)) ?_; clear hA; intro a hA
                refine d_one (i := 15) (L' := #[true, true, true, true, true, true, true, true, true, true, true, true, true, true, true, true]) (by kernel_rfl) rfl rfl (e_store (g := g850) (off := 4) (cur := [(.int .u32 r856.Epoch), (.bool r856.Diffuse), (.slice A863 r856.Routes.length c864), (.slice A866 r856.Stems.length c867), (.slice A869 r856.Fluffed.length c870)]) (cs' := [(.int .u32 r856.Epoch), (.bool r856.Diffuse), (.slice A863 r856.Routes.length c864), (.slice A866 r856.Stems.length c867), (.slice A1433 (r856.Fluffed.length + 1) c1434)]) hM (.s (.s (.s (.s (.s .z))))) Try.sizeOf37 hA rfl (by simp [add_mk]) rfl (by first | rfl | simp [Value.cells, Pl.len]) (one_val rfl) (by first | exact Nat.le_of_ble_eq_true rfl | (simp [Pl.len]; done)) (rfl) ?_)
                clear hM hA; intro w1437  hM hE  a hA
                refine ⟨fun h => absurd h (by decide), ?_⟩
                refine d_done (by kernel_rfl) ?_
                exact ⟨(r856.Fluffed ++ [(r856.Stems.getD r1380.toNat Stem.z).ID]), (.slice A1433 (r856.Fluffed.length + 1) c1434), Option.some.inj H1377, (hM.sel [5, 1, 2, 3, 4] rfl (by decide)), ((hA.nil.cons (hA.get 6 _ rfl)).cons (hA.get 3 _ rfl))⟩
          clear hM hA
          rintro a w1438 ⟨xs1375, v1372, rfl, hM, hA⟩
          try dsimp only at H1292
          obtain ⟨A1373, c1374, rfl⟩ := RowOk.form (hM.row (p := pHash) (.s (.s (.s .z))))
          exact ⟨r856.Routes, r856.Stems, xs1375, (.slice A863 r856.Routes.length c864), (.slice A866 r856.Stems.length c867), (.slice A1373 xs1375.length c1374), Option.some.inj H1292, hM, ((hA.nil.cons (hA.get 6 _ rfl)).cons (hA.get 3 _ rfl))⟩
        · replace H1292 := ite_f hb1311 H1292
          refine wp_skip ?_
          exact ⟨r856.Routes, r856.Stems, r856.Fluffed, (.slice A863 r856.Routes.length c864), (.slice A866 r856.Stems.length c867), (.slice A869 r856.Fluffed.length c870), Option.some.inj H1292, (hM.sel [4, 0, 1, 2, 3] rfl (by decide)), ((hA.nil.cons (hA.get 6 _ rfl)).cons (hA.get 3 _ rfl))⟩
      · replace H1292 := ite_f hb1310 H1292
        refine wp_seq ?_
        refine wp_region_lit ?_
        refine L1 (stv hA (by decide) (run_bin (hA.ev rfl) (hA.ev rfl) (bin_eql _ _ _ _)) ?_)
        clear hA; intro a hA
        refine L1 (stv hA (by decide) (run_assign (hA.ev rfl)) ?_)
        clear hA; intro a hA
        refine LQ ?_
        refine TN ?_
        refine tcond (b := (r872 == 2)) hA rfl (fun hb1439 => ?_) (fun hb1439 => ?_)
        · replace H1292 := ite_t hb1439 H1292
          refine wp_seq ?_
          refine wp_region_lit ?_
          refine L1 (stv hA (by decide) (run_field' Try.underlying39 rfl rfl Try.sizeOf36 (by decide) (hA.ev rfl)) ?_)
          clear hA; intro a hA
          refine L1 (stv hA (by decide) (run_ld (hA.ev rfl) (run_loadS Try.isAgg36 (At.seg1 (hM.box (.s (.s (.s (.s .z))))) 3 rfl))) ?_)
          clear hA; intro a hA
          refine L1 (stv hA (by decide) (run_len_slice Try.underlying36 (hA.ev rfl)) ?_)
          clear hA; intro a hA
          refine L1 (stv hA (by decide) (run_bin (hA.ev rfl) (hA.ev rfl) (bin_gtr _ _ _ _)) ?_)
          clear hA; intro a hA
          refine LQ ?_
          refine TN ?_
          refine tcond (b := (decide (((r856.Stems.length : Nat) : Int) > 0))) hA rfl (fun hb1440 => ?_) (fun hb1440 => ?_)
          · replace H1292 := ite_t hb1440 H1292
            obtain ⟨o1507, H1506, H1292⟩ := Option.bind_eq_some_iff.1 H1292
            refine cutC (fun a w => ∃ (xs1504 : (List Stem)) (v1501 : Value), xs1504 = o1507 ∧ Mem F w0 w [.box g850 39 [(.int .u32 r856.Epoch), (.bool r856.Diffuse), (.slice A863 r856.Routes.length c864), v1501, (.slice A869 r856.Fluffed.length c870)], .row 3 (Pl.int .i64).sz (.slice A863 r856.Routes.length c864) ((Pl.int .i64).flat r856.Routes), .row 61 pStem.sz v1501 (pStem.flat xs1504), .row 34 pHash.sz (.slice A869 r856.Fluffed.length c870) (pHash.flat r856.Fluffed), .box g853 39 [(.int .u32 0), (.bool false), (.slice none 0 0), (.slice none 0 0), (.slice none 0 0)]] ∧ Has 83 [(3, (.pointer (some (⟨g850, 0, none⟩)))), (6, (.pointer (some (⟨g853, 0, none⟩))))] a) ?_ ?_
            · obtain ⟨r1509, H1510, H1506⟩ := Option.bind_eq_some_iff.1 H1506
              obtain ⟨⟨hi1512, hj1513⟩, H1506⟩ := ite_some H1506
              obtain ⟨hl1523, H1506⟩ := ite_some H1506
              refine draw (fun w' => Below w874.heap.size w874 w') [12, 14] rfl ?_
              intro w1527 hw hS; replace hM := hM.ext hS; clear hw
              refine d_takef (i := 0) (L' := #[true, false, false, false, false, false, false, false, false, false, false, false, false, false, false]) rfl (by kernel_rfl) rfl (fun _ _ _ h => h) hA (by decide) (fun _ => hS) (fun a w' hA => run_field' Try.underlying39 rfl rfl Try.sizeOf36 (by decide) (hA.ev rfl)) ?_; clear hA; intro a hA
              refine rebase hS ?_; clear hS; intro hS
              refine d_take (i := 1) (L' := #[true, true, false, false, false, false, false, false, false, false, false, false, false, false, false]) rfl (by kernel_rfl) rfl (fun _ _ _ h => h) hA (by decide) rfl hS (fun a w' hA hS' => run_ld (hA.ev rfl) (run_loadS Try.isAgg36 ((At.seg1 (hM.box (.s (.s (.s (.s .z))))) 3 rfl).extB hS'))) ?_; clear hA; intro a hA
              refine d_takef (i := 2) (L' := #[true, true, true, false, false, false, false, false, false, false, false, false, false, false, false]) rfl (by kernel_rfl) rfl (fun _ _ _ h => h) hA (by decide) (fun _ => hS) (fun a w' hA => run_field' Try.underlying39 rfl rfl Try.sizeOf36 (by decide) (hA.ev rfl)) ?_; clear hA; intro a hA
              refine d_takef (i := 4) (L' := #[true, true, true, false, true, false, false, false, false, false, false, false, false, false, false]) rfl (by kernel_rfl) rfl (fun _ _ _ h => h) hA (by decide) (fun _ => hS) (fun a w' hA => run_move (hA.ev rfl)) ?_; clear hA; intro a hA
              refine d_takef (i := 5) (L' := #[true, true, true, false, true, true, false, false, false, false, false, false, false, false, false]) rfl (by kernel_rfl) rfl (fun _ _ _ h => h) hA (by decide) (fun _ => hS) (fun a w' hA => run_field' Try.underlying39 rfl rfl Try.sizeOf36 (by decide) (hA.ev rfl)) ?_; clear hA; intro a hA
              refine d_many (is := [3, 6]) (by kernel_rfl) (by decide) ⟨?_, ?_, trivial⟩
              · refine d_op (i := 3) (L' := #[true, true, true, true, true, true, false, false, false, false, false, false, false, false, false]) rfl rfl (stv hA (by decide) (run_ld (hA.ev rfl) (run_loadS Try.isAgg36 (At.seg1 (hM.box (.s (.s (.s (.s .z))))) 3 rfl))) ?_)
                clear hA; intro a hA
                refine ⟨fun _ => hS, ?_⟩
                refine d_one (i := 6) (L' := #[true, true, true, true, true, true, true, false, false, false, false, false, false, false, false]) (by kernel_rfl) rfl rfl (stv hA (by decide) (run_ld (hA.ev rfl) (run_loadS Try.isAgg36 (At.seg1 (hM.box (.s (.s (.s (.s .z))))) 3 rfl))) ?_)
                clear hA; intro a hA
                refine ⟨fun _ => hS, ?_⟩
                refine d_takef (i := 7) (L' := #[true, true, true, true, true, true, true, true, false, false, false, false, false, false, false]) rfl (by kernel_rfl) rfl (fun _ _ _ h => h) hA (by decide) (fun _ => hS) (fun a w' hA => run_len_slice Try.underlying36 (hA.ev rfl)) ?_; clear hA; intro a hA
                refine d_one (i := 8) (L' := #[true, true, true, true, true, true, true, true, true, false, false, false, false, false, false]) (by kernel_rfl) rfl rfl (st_call Try.call9 hA [(.int .i64 at_2), (.int .i64 ((r856.Stems.length : Nat) : Int))] rfl (by decide) (mill_Mod.calls _ _ _ _ _ _ (hM.front (Ms := [])) H1510) ?_)
                clear hA; rintro _ w1528 ⟨rfl, hMc⟩ a hA
                have hE := hMc.below; have hM := hM.call (Ms := []) hMc
                clear hMc; simp only [List.cons_append, List.nil_append] at hM
                replace hS := hS.trans (hE.mono hS.size)
                refine ⟨fun _ => hS, ?_⟩
                obtain ⟨ad1529, hq1530, hat1531⟩ := Row.elem' (p := pStem) (RowOk.row (hM.row (p := pStem) (.s .z))) (RowOk.len (hM.row (p := pStem) (.s .z))) Stem.z r1509 hi1512 hj1513
                refine d_takef (i := 9) (L' := #[true, true, true, true, true, true, true, true, true, true, false, false, false, false, false]) rfl (by kernel_rfl) rfl (fun _ _ _ h => h) hA (by decide) (fun _ => hS) (fun a w' hA => run_idx Try.underlying36 Try.sizeOf61 (hA.ev rfl) hq1530 (hA.ev rfl) hi1512 hj1513) ?_; clear hA; intro a hA
                refine d_one (i := 10) (L' := #[true, true, true, true, true, true, true, true, true, true, true, false, false, false, false]) (by kernel_rfl) rfl rfl (stv hA (by decide) (run_ld (hA.ev rfl) (run_loadP Try.isAgg61 Try.sizeOf61 hat1531)) ?_)
                clear hA; intro a hA
                refine ⟨fun _ => hS, ?_⟩
                refine d_one (i := 11) (L' := #[true, true, true, true, true, true, true, true, true, true, true, true, false, false, false]) (by kernel_rfl) rfl rfl (e_litNL [(r856.Stems.getD r1509.toNat Stem.z)] [(.agg (pStem.enc (r856.Stems.getD r1509.toNat Stem.z)).toArray)] elt36 hM rfl (by decide) hA rfl rfl (List.cons_ne_nil _ _) (by decide) ?_)
                clear hM hA; intro w1533 g1532 hM hE hlo1534 a hA
                have hlw1535 : ∀ k, Value.ownBlock (.slice (some ⟨g1532, 0, none⟩) 1 1) = some k → w1527.heap.size ≤ k := fun k hk => by cases hk; exact Nat.le_trans hS.size hlo1534
                replace hS := hS.trans (hE.mono hS.size)
                refine ⟨fun _ => hS, ?_⟩
                refine d_one (i := 12) (L' := #[true, true, true, true, true, true, true, true, true, true, true, true, true, false, false]) (by kernel_rfl) rfl rfl (e_appendL elt36 hM (fun _ => (.s (.s .z))) (Src.row Try.underlying36 (RowOk.row (hM.row (p := pStem) .z)) (RowOk.len (hM.row (p := pStem) .z))) hl1523 hA rfl rfl (by decide) ?_)
                clear hM hA; intro w1538 A1536 c1537 hM hE hlo1539 a hA
                refine ⟨fun h => absurd h (by decide), ?_⟩
                refine d_takef (i := 13) (L' := #[true, true, true, true, true, true, true, true, true, true, true, true, true, true, false]) rfl (by kernel_rfl) rfl (fun _ _ _ h => h) hA (by decide) (fun h => absurd h (by decide)) (fun a w' hA => run_field' Try.underlying39 rfl rfl Try.sizeOf36 (by decide) (hA.ev rfl)) ?_; clear hA; intro a hA
                refine d_one (i := 14) (L' := #[true, true, true, true, true, true, true, true, true, true, true, true, true, true, true]) (by kernel_rfl) rfl rfl (e_store (g := g850) (off := 3) (cur := [(.int .u32 r856.Epoch), (.bool r856.Diffuse), (.slice A863 r856.Routes.length c864), (.slice A866 r856.Stems.length c867), (.slice A869 r856.Fluffed.length c870)]) (cs' := [(.int .u32 r856.Epoch), (.bool r856.Diffuse), (.slice A863 r856.Routes.length c864), (.slice A1536 (r856.Stems.length + 1) c1537), (.slice A869 r856.Fluffed.length c870)]) hM (.s (.s (.s (.s (.s .z))))) Try.sizeOf36 hA rfl (by simp [add_mk]) rfl (by first | rfl | simp [Value.cells, Pl.len]) (one_val rfl) (by first | exact Nat.le_of_ble_eq_true rfl | (simp [Pl.len]; done)) (rfl) ?_)
                clear hM hA; intro w1540  hM hE  a hA
                refine ⟨fun h => absurd h (by decide), ?_⟩
                refine d_done (by kernel_rfl) ?_
                exact ⟨(r856.Stems ++ [(r856.Stems.getD r1509.toNat Stem.z)]), (.slice A1536 (r856.Stems.length + 1) c1537), Option.some.inj H1506, (hM.sel [5, 1, 2, 3, 4] rfl (by decide)), ((hA.nil.cons (hA.get 6 _ rfl)).cons (hA.get 3 _ rfl))⟩
              · refine d_op (i := 6) (L' := #[true, true, true, false, true, true, true, false, false, false, false, false, false, false, false]) rfl rfl (stv hA (by decide) (run_ld (hA.ev rfl) (run_loadS Try.isAgg36 (At.seg1 (hM.box (.s (.s (.s (.s .z))))) 3 rfl))) ?_)
                clear hA; intro a hA
                refine ⟨fun _ => hS, ?_⟩
                refine d_takef (i := 7) (L' := #[true, true, true, false, true, true, true, true, false, false, false, false, false, false, false]) rfl (by kernel_rfl) rfl (fun _ _ _ h => h) hA (by decide) (fun _ => hS) (fun a w' hA => run_len_slice Try.underlying36 (hA.ev rfl)) ?_; clear hA; intro a hA
                refine d_many (is := [3, 8]) (by kernel_rfl) (by decide) ⟨?_, ?_, trivial⟩
                · refine d_op (i := 3) (L' := #[true, true, true, true, true, true, true, true, false, false, false, false, false, false, false]) rfl rfl (stv hA (by decide) (run_ld (hA.ev rfl) (run_loadS Try.isAgg36 (At.seg1 (hM.box (.s (.s (.s (.s .z))))) 3 rfl))) ?_)
                  clear hA; intro a hA
                  refine ⟨fun _ => hS, ?_⟩
                  refine d_one (i := 8) (L' := #[true, true, true, true, true, true, true, true, true, false, false, false, false, false, false]) (by kernel_rfl) rfl rfl (st_call Try.call9 hA [(.int .i64 at_2), (.int .i64 ((r856.Stems.length : Nat) : Int))] rfl (by decide) (mill_Mod.calls _ _ _ _ _ _ (hM.front (Ms := [])) H1510) ?_)
                  clear hA; rintro _ w1541 ⟨rfl, hMc⟩ a hA
                  have hE := hMc.below; have hM := hM.call (Ms := []) hMc
                  clear hMc; simp only [List.cons_append, List.nil_append] at hM
                  replace hS := hS.trans (hE.mono hS.size)
                  refine ⟨fun _ => hS, ?_⟩
                  obtain ⟨ad1542, hq1543, hat1544⟩ := Row.elem' (p := pStem) (RowOk.row (hM.row (p := pStem) (.s .z))) (RowOk.len (hM.row (p := pStem) (.s .z))) Stem.z r1509 hi1512 hj1513
                  refine d_takef (i := 9) (L' := #[true, true, true, true, true, true, true, true, true, true, false, false, false, false, false]) rfl (by kernel_rfl) rfl (fun _ _ _ h => h) hA (by decide) (fun _ => hS) (fun a w' hA => run_idx Try.underlying36 Try.sizeOf61 (hA.ev rfl) hq1543 (hA.ev rfl) hi1512 hj1513) ?_; clear hA; intro a hA
                  refine d_one (i := 10) (L' := #[true, true, true, true, true, true, true, true, true, true, true, false, false, false, false]) (by kernel_rfl) rfl rfl (stv hA (by decide) (run_ld (hA.ev rfl) (run_loadP Try.isAgg61 Try.sizeOf61 hat1544)) ?_)
                  clear hA; intro a hA
                  refine ⟨fun _ => hS, ?_⟩
                  refine d_one (i := 11) (L' := #[true, true, true, true, true, true, true, true, true, true, true, true, false, false, false]) (by kernel_rfl) rfl rfl (e_litNL [(r856.Stems.getD r1509.toNat Stem.z)] [(.agg (pStem.enc (r856.Stems.getD r1509.toNat Stem.z)).toArray)] elt36 hM rfl (by decide) hA rfl rfl (List.cons_ne_nil _ _) (by decide) ?_)
                  clear hM hA; intro w1546 g1545 hM hE hlo1547 a hA
                  have hlw1548 : ∀ k, Value.ownBlock (.slice (some ⟨g1545, 0, none⟩) 1 1) = some k → w1527.heap.size ≤ k := fun k hk => by cases hk; exact Nat.le_trans hS.size hlo1547
                  replace hS := hS.trans (hE.mono hS.size)
                  refine ⟨fun _ => hS, ?_⟩
                  refine d_one (i := 12) (L' := #[true, true, true, true, true, true, true, true, true, true, true, true, true, false, false]) (by kernel_rfl) rfl rfl (e_appendL elt36 hM (fun _ => (.s (.s .z))) (Src.row Try.underlying36 (RowOk.row (hM.row (p := pStem) .z)) (RowOk.len (hM.row (p := pStem) .z))) hl1523 hA rfl rfl (by decide) ?_)
                  clear hM hA; intro w1551 A1549 c1550 hM hE hlo1552 a hA
                  refine ⟨fun h => absurd h (by decide), ?_⟩
                  refine d_takef (i := 13) (L' := #[true, true, true, true, true, true, true, true, true, true, true, true, true, true, false]) rfl (by kernel_rfl) rfl (fun _ _ _ h => h) hA (by decide) (fun h => absurd h (by decide)) (fun a w' hA => run_field' Try.underlying39 rfl rfl Try.sizeOf36 (by decide) (hA.ev rfl)) ?_; clear hA; intro a hA
                  refine d_one (i := 14) (L' := #[true, true, true, true, true, true, true, true, true, true, true, true, true, true, true]) (by kernel_rfl) rfl rfl (e_store (g := g850) (off := 3) (cur := [(.int .u32 r856.Epoch), (.bool r856.Diffuse), (.slice A863 r856.Routes.length c864), (.slice A866 r856.Stems.length c867), (.slice A869 r856.Fluffed.length c870)]) (cs' := [(.int .u32 r856.Epoch), (.bool r856.Diffuse), (.slice A863 r856.Routes.length c864), (.slice A1549 (r856.Stems.length + 1) c1550), (.slice A869 r856.Fluffed.length c870)]) hM (.s (.s (.s (.s (.s .z))))) Try.sizeOf36 hA rfl (by simp [add_mk]) rfl (by first | rfl | simp [Value.cells, Pl.len]) (one_val rfl) (by first | exact Nat.le_of_ble_eq_true rfl | (simp [Pl.len]; done)) (rfl) ?_)
                  clear hM hA; intro w1553  hM hE  a hA
                  refine ⟨fun h => absurd h (by decide), ?_⟩
                  refine d_done (by kernel_rfl) ?_
                  exact ⟨(r856.Stems ++ [(r856.Stems.getD r1509.toNat Stem.z)]), (.slice A1549 (r856.Stems.length + 1) c1550), Option.some.inj H1506, (hM.sel [5, 1, 2, 3, 4] rfl (by decide)), ((hA.nil.cons (hA.get 6 _ rfl)).cons (hA.get 3 _ rfl))⟩
                · refine d_op (i := 8) (L' := #[true, true, true, false, true, true, true, true, true, false, false, false, false, false, false]) rfl rfl (st_call Try.call9 hA [(.int .i64 at_2), (.int .i64 ((r856.Stems.length : Nat) : Int))] rfl (by decide) (mill_Mod.calls _ _ _ _ _ _ (hM.front (Ms := [])) H1510) ?_)
                  clear hA; rintro _ w1554 ⟨rfl, hMc⟩ a hA
                  have hE := hMc.below; have hM := hM.call (Ms := []) hMc
                  clear hMc; simp only [List.cons_append, List.nil_append] at hM
                  replace hS := hS.trans (hE.mono hS.size)
                  refine ⟨fun _ => hS, ?_⟩
                  refine d_one (i := 3) (L' := #[true, true, true, true, true, true, true, true, true, false, false, false, false, false, false]) (by kernel_rfl) rfl rfl (stv hA (by decide) (run_ld (hA.ev rfl) (run_loadS Try.isAgg36 (At.seg1 (hM.box (.s (.s (.s (.s .z))))) 3 rfl))) ?_)
                  clear hA; intro a hA
                  refine ⟨fun _ => hS, ?_⟩
                  obtain ⟨ad1555, hq1556, hat1557⟩ := Row.elem' (p := pStem) (RowOk.row (hM.row (p := pStem) (.s .z))) (RowOk.len (hM.row (p := pStem) (.s .z))) Stem.z r1509 hi1512 hj1513
                  refine d_takef (i := 9) (L' := #[true, true, true, true, true, true, true, true, true, true, false, false, false, false, false]) rfl (by kernel_rfl) rfl (fun _ _ _ h => h) hA (by decide) (fun _ => hS) (fun a w' hA => run_idx Try.underlying36 Try.sizeOf61 (hA.ev rfl) hq1556 (hA.ev rfl) hi1512 hj1513) ?_; clear hA; intro a hA
                  refine d_one (i := 10) (L' := #[true, true, true, true, true, true, true, true, true, true, true, false, false, false, false]) (by kernel_rfl) rfl rfl (stv hA (by decide) (run_ld (hA.ev rfl) (run_loadP Try.isAgg61 Try.sizeOf61 hat1557)) ?_)
                  clear hA; intro a hA
                  refine ⟨fun _ => hS, ?_⟩
                  refine d_one (i := 11) (L' := #[true, true, true, true, true, true, true, true, true, true, true, true, false, false, false]) (by kernel_rfl) rfl rfl (e_litNL [(r856.Stems.getD r1509.toNat Stem.z)] [(.agg (pStem.enc (r856.Stems.getD r1509.toNat Stem.z)).toArray)] elt36 hM rfl (by decide) hA rfl rfl (List.cons_ne_nil _ _) (by decide) ?_)
                  clear hM hA; intro w1559 g1558 hM hE hlo1560 a hA
                  have hlw1561 : ∀ k, Value.ownBlock (.slice (some ⟨g1558, 0, none⟩) 1 1) = some k → w1527.heap.size ≤ k := fun k hk => by cases hk; exact Nat.le_trans hS.size hlo1560
                  replace hS := hS.trans (hE.mono hS.size)
                  refine ⟨fun _ => hS, ?_⟩
                  refine d_one (i := 12) (L' := #[true, true, true, true, true, true, true, true, true, true, true, true, true, false, false]) (by kernel_rfl) rfl rfl (e_appendL elt36 hM (fun _ => (.s (.s .z))) (Src.row Try.underlying36 (RowOk.row (hM.row (p := pStem) .z)) (RowOk.len (hM.row (p := pStem) .z))) hl1523 hA rfl rfl (by decide) ?_)
                  clear hM hA; intro w1564 A1562 c1563 hM hE hlo1565 a hA
                  refine ⟨fun h => absurd h (by decide), ?_⟩
                  refine d_takef (i := 13) (L' := #[true, true, true, true, true, true, true, true, true, true, true, true, true, true, false]) rfl (by kernel_rfl) rfl (fun _ _ _ h => h) hA (by decide) (fun h => absurd h (by decide)) (fun a w' hA => run_field' Try.underlying39 rfl rfl Try.sizeOf36 (by decide) (hA.ev rfl)) ?_; clear hA; intro a hA
                  refine d_one (i := 14) (L' := #[true, true, true, true, true, true, true, true, true, true, true, true, true, true, true]) (by kernel_rfl) rfl rfl (e_store (g := g850) (off := 3) (cur := [(.int .u32 r856.Epoch), (.bool r856.Diffuse), (.slice A863 r856.Routes.length c864), (.slice A866 r856.Stems.length c867), (.slice A869 r856.Fluffed.length c870)]) (cs' := [(.int .u32 r856.Epoch), (.bool r856.Diffuse), (.slice A863 r856.Routes.length c864), (.slice A1562 (r856.Stems.length + 1) c1563), (.slice A869 r856.Fluffed.length c870)]) hM (.s (.s (.s (.s (.s .z))))) Try.sizeOf36 hA rfl (by simp [add_mk]) rfl (by first | rfl | simp [Value.cells, Pl.len]) (one_val rfl) (by first | exact Nat.le_of_ble_eq_true rfl | (simp [Pl.len]; done)) (rfl) ?_)
                  clear hM hA; intro w1566  hM hE  a hA
                  refine ⟨fun h => absurd h (by decide), ?_⟩
                  refine d_done (by kernel_rfl) ?_
                  exact ⟨(r856.Stems ++ [(r856.Stems.getD r1509.toNat Stem.z)]), (.slice A1562 (r856.Stems.length + 1) c1563), Option.some.inj H1506, (hM.sel [5, 1, 2, 3, 4] rfl (by decide)), ((hA.nil.cons (hA.get 6 _ rfl)).cons (hA.get 3 _ rfl))⟩
            clear hM hA
            rintro a w1567 ⟨xs1504, v1501, rfl, hM, hA⟩
            try dsimp only at H1292
            obtain ⟨A1502, c1503, rfl⟩ := RowOk.form (hM.row (p := pStem) (.s (.s .z)))
            exact ⟨r856.Routes, xs1504, r856.Fluffed, (.slice A863 r856.Routes.length c864), (.slice A1502 xs1504.length c1503), (.slice A869 r856.Fluffed.length c870), Option.some.inj H1292, hM, ((hA.nil.cons (hA.get 6 _ rfl)).cons (hA.get 3 _ rfl))⟩
          · replace H1292 := ite_f hb1440 H1292
            refine wp_skip ?_
            exact ⟨r856.Routes, r856.Stems, r856.Fluffed, (.slice A863 r856.Routes.length c864), (.slice A866 r856.Stems.length c867), (.slice A869 r856.Fluffed.length c870), Option.some.inj H1292, (hM.sel [4, 0, 1, 2, 3] rfl (by decide)), ((hA.nil.cons (hA.get 6 _ rfl)).cons (hA.get 3 _ rfl))⟩
        · replace H1292 := ite_f hb1439 H1292
          refine wp_seq ?_
          refine wp_region_lit ?_
          refine L1 (stv hA (by decide) (run_bin (hA.ev rfl) (hA.ev rfl) (bin_eql _ _ _ _)) ?_)
          clear hA; intro a hA
          refine L1 (stv hA (by decide) (run_assign (hA.ev rfl)) ?_)
          clear hA; intro a hA
          refine LQ ?_
          refine TN ?_
          refine tcond (b := (r872 == 3)) hA rfl (fun hb1568 => ?_) (fun hb1568 => ?_)
          · replace H1292 := ite_t hb1568 H1292
            refine wp_seq ?_
            refine wp_region_lit ?_
            refine L1 (stv hA (by decide) (run_field' Try.underlying39 rfl rfl Try.sizeOf37 (by decide) (hA.ev rfl)) ?_)
            clear hA; intro a hA
            refine L1 (stv hA (by decide) (run_ld (hA.ev rfl) (run_loadS Try.isAgg37 (At.seg1 (hM.box (.s (.s (.s (.s .z))))) 4 rfl))) ?_)
            clear hA; intro a hA
            refine L1 (stv hA (by decide) (run_len_slice Try.underlying37 (hA.ev rfl)) ?_)
            clear hA; intro a hA
            refine L1 (stv hA (by decide) (run_bin (hA.ev rfl) (hA.ev rfl) (bin_gtr _ _ _ _)) ?_)
            clear hA; intro a hA
            refine LQ ?_
            refine TN ?_
            refine tcond (b := (decide (((r856.Fluffed.length : Nat) : Int) > 0))) hA rfl (fun hb1569 => ?_) (fun hb1569 => ?_)
            · replace H1292 := ite_t hb1569 H1292
              obtain ⟨o1636, H1635, H1292⟩ := Option.bind_eq_some_iff.1 H1292
              refine cutC (fun a w => ∃ (xs1633 : (List (Vector Int 32))) (v1630 : Value), xs1633 = o1636 ∧ Mem F w0 w [.box g850 39 [(.int .u32 r856.Epoch), (.bool r856.Diffuse), (.slice A863 r856.Routes.length c864), (.slice A866 r856.Stems.length c867), v1630], .row 3 (Pl.int .i64).sz (.slice A863 r856.Routes.length c864) ((Pl.int .i64).flat r856.Routes), .row 61 pStem.sz (.slice A866 r856.Stems.length c867) (pStem.flat r856.Stems), .row 34 pHash.sz v1630 (pHash.flat xs1633), .box g853 39 [(.int .u32 0), (.bool false), (.slice none 0 0), (.slice none 0 0), (.slice none 0 0)]] ∧ Has 83 [(3, (.pointer (some (⟨g850, 0, none⟩)))), (6, (.pointer (some (⟨g853, 0, none⟩))))] a) ?_ ?_
              · obtain ⟨r1638, H1639, H1635⟩ := Option.bind_eq_some_iff.1 H1635
                obtain ⟨⟨hi1641, hj1642⟩, H1635⟩ := ite_some H1635
                obtain ⟨hl1652, H1635⟩ := ite_some H1635
                refine draw (fun w' => Below w874.heap.size w874 w') [12, 14] rfl ?_
                intro w1656 hw hS; replace hM := hM.ext hS; clear hw
                refine d_takef (i := 0) (L' := #[true, false, false, false, false, false, false, false, false, false, false, false, false, false, false]) rfl (by kernel_rfl) rfl (fun _ _ _ h => h) hA (by decide) (fun _ => hS) (fun a w' hA => run_field' Try.underlying39 rfl rfl Try.sizeOf37 (by decide) (hA.ev rfl)) ?_; clear hA; intro a hA
                refine rebase hS ?_; clear hS; intro hS
                refine d_take (i := 1) (L' := #[true, true, false, false, false, false, false, false, false, false, false, false, false, false, false]) rfl (by kernel_rfl) rfl (fun _ _ _ h => h) hA (by decide) rfl hS (fun a w' hA hS' => run_ld (hA.ev rfl) (run_loadS Try.isAgg37 ((At.seg1 (hM.box (.s (.s (.s (.s .z))))) 4 rfl).extB hS'))) ?_; clear hA; intro a hA
                refine d_takef (i := 2) (L' := #[true, true, true, false, false, false, false, false, false, false, false, false, false, false, false]) rfl (by kernel_rfl) rfl (fun _ _ _ h => h) hA (by decide) (fun _ => hS) (fun a w' hA => run_field' Try.underlying39 rfl rfl Try.sizeOf37 (by decide) (hA.ev rfl)) ?_; clear hA; intro a hA
                refine d_takef (i := 4) (L' := #[true, true, true, false, true, false, false, false, false, false, false, false, false, false, false]) rfl (by kernel_rfl) rfl (fun _ _ _ h => h) hA (by decide) (fun _ => hS) (fun a w' hA => run_move (hA.ev rfl)) ?_; clear hA; intro a hA
                refine d_takef (i := 5) (L' := #[true, true, true, false, true, true, false, false, false, false, false, false, false, false, false]) rfl (by kernel_rfl) rfl (fun _ _ _ h => h) hA (by decide) (fun _ => hS) (fun a w' hA => run_field' Try.underlying39 rfl rfl Try.sizeOf37 (by decide) (hA.ev rfl)) ?_; clear hA; intro a hA
                refine d_many (is := [3, 6]) (by kernel_rfl) (by decide) ⟨?_, ?_, trivial⟩
                · refine d_op (i := 3) (L' := #[true, true, true, true, true, true, false, false, false, false, false, false, false, false, false]) rfl rfl (stv hA (by decide) (run_ld (hA.ev rfl) (run_loadS Try.isAgg37 (At.seg1 (hM.box (.s (.s (.s (.s .z))))) 4 rfl))) ?_)
                  clear hA; intro a hA
                  refine ⟨fun _ => hS, ?_⟩
                  refine d_one (i := 6) (L' := #[true, true, true, true, true, true, true, false, false, false, false, false, false, false, false]) (by kernel_rfl) rfl rfl (stv hA (by decide) (run_ld (hA.ev rfl) (run_loadS Try.isAgg37 (At.seg1 (hM.box (.s (.s (.s (.s .z))))) 4 rfl))) ?_)
                  clear hA; intro a hA
                  refine ⟨fun _ => hS, ?_⟩
                  refine d_takef (i := 7) (L' := #[true, true, true, true, true, true, true, true, false, false, false, false, false, false, false]) rfl (by kernel_rfl) rfl (fun _ _ _ h => h) hA (by decide) (fun _ => hS) (fun a w' hA => run_len_slice Try.underlying37 (hA.ev rfl)) ?_; clear hA; intro a hA
                  refine d_one (i := 8) (L' := #[true, true, true, true, true, true, true, true, true, false, false, false, false, false, false]) (by kernel_rfl) rfl rfl (st_call Try.call9 hA [(.int .i64 at_2), (.int .i64 ((r856.Fluffed.length : Nat) : Int))] rfl (by decide) (mill_Mod.calls _ _ _ _ _ _ (hM.front (Ms := [])) H1639) ?_)
                  clear hA; rintro _ w1657 ⟨rfl, hMc⟩ a hA
                  have hE := hMc.below; have hM := hM.call (Ms := []) hMc
                  clear hMc; simp only [List.cons_append, List.nil_append] at hM
                  replace hS := hS.trans (hE.mono hS.size)
                  refine ⟨fun _ => hS, ?_⟩
                  obtain ⟨ad1658, hq1659, hat1660⟩ := Row.elem' (p := pHash) (RowOk.row (hM.row (p := pHash) (.s (.s .z)))) (RowOk.len (hM.row (p := pHash) (.s (.s .z)))) (Vector.replicate 32 0 : Vector Int 32) r1638 hi1641 hj1642
                  refine d_takef (i := 9) (L' := #[true, true, true, true, true, true, true, true, true, true, false, false, false, false, false]) rfl (by kernel_rfl) rfl (fun _ _ _ h => h) hA (by decide) (fun _ => hS) (fun a w' hA => run_idx Try.underlying37 Try.sizeOf34 (hA.ev rfl) hq1659 (hA.ev rfl) hi1641 hj1642) ?_; clear hA; intro a hA
                  refine d_one (i := 10) (L' := #[true, true, true, true, true, true, true, true, true, true, true, false, false, false, false]) (by kernel_rfl) rfl rfl (stv hA (by decide) (run_ld (hA.ev rfl) (run_loadP Try.isAgg34 Try.sizeOf34 hat1660)) ?_)
                  clear hA; intro a hA
                  refine ⟨fun _ => hS, ?_⟩
                  refine d_one (i := 11) (L' := #[true, true, true, true, true, true, true, true, true, true, true, true, false, false, false]) (by kernel_rfl) rfl rfl (e_litNL [(r856.Fluffed.getD r1638.toNat (Vector.replicate 32 0 : Vector Int 32))] [(.agg (pHash.enc (r856.Fluffed.getD r1638.toNat (Vector.replicate 32 0 : Vector Int 32))).toArray)] elt37 hM rfl (by decide) hA rfl rfl (List.cons_ne_nil _ _) (by decide) ?_)
                  clear hM hA; intro w1662 g1661 hM hE hlo1663 a hA
                  have hlw1664 : ∀ k, Value.ownBlock (.slice (some ⟨g1661, 0, none⟩) 1 1) = some k → w1656.heap.size ≤ k := fun k hk => by cases hk; exact Nat.le_trans hS.size hlo1663
                  replace hS := hS.trans (hE.mono hS.size)
                  refine ⟨fun _ => hS, ?_⟩
                  refine d_one (i := 12) (L' := #[true, true, true, true, true, true, true, true, true, true, true, true, true, false, false]) (by kernel_rfl) rfl rfl (e_appendL elt37 hM (fun _ => (.s (.s (.s .z)))) (Src.row Try.underlying37 (RowOk.row (hM.row (p := pHash) .z)) (RowOk.len (hM.row (p := pHash) .z))) hl1652 hA rfl rfl (by decide) ?_)
                  clear hM hA; intro w1667 A1665 c1666 hM hE hlo1668 a hA
                  refine ⟨fun h => absurd h (by decide), ?_⟩
                  refine d_takef (i := 13) (L' := #[true, true, true, true, true, true, true, true, true, true, true, true, true, true, false]) rfl (by kernel_rfl) rfl (fun _ _ _ h => h) hA (by decide) (fun h => absurd h (by decide)) (fun a w' hA => run_field' Try.underlying39 rfl rfl Try.sizeOf37 (by decide) (hA.ev rfl)) ?_; clear hA; intro a hA
                  refine d_one (i := 14) (L' := #[true, true, true, true, true, true, true, true, true, true, true, true, true, true, true]) (by kernel_rfl) rfl rfl (e_store (g := g850) (off := 4) (cur := [(.int .u32 r856.Epoch), (.bool r856.Diffuse), (.slice A863 r856.Routes.length c864), (.slice A866 r856.Stems.length c867), (.slice A869 r856.Fluffed.length c870)]) (cs' := [(.int .u32 r856.Epoch), (.bool r856.Diffuse), (.slice A863 r856.Routes.length c864), (.slice A866 r856.Stems.length c867), (.slice A1665 (r856.Fluffed.length + 1) c1666)]) hM (.s (.s (.s (.s (.s .z))))) Try.sizeOf37 hA rfl (by simp [add_mk]) rfl (by first | rfl | simp [Value.cells, Pl.len]) (one_val rfl) (by first | exact Nat.le_of_ble_eq_true rfl | (simp [Pl.len]; done)) (rfl) ?_)
                  clear hM hA; intro w1669  hM hE  a hA
                  refine ⟨fun h => absurd h (by decide), ?_⟩
                  refine d_done (by kernel_rfl) ?_
                  exact ⟨(r856.Fluffed ++ [(r856.Fluffed.getD r1638.toNat (Vector.replicate 32 0 : Vector Int 32))]), (.slice A1665 (r856.Fluffed.length + 1) c1666), Option.some.inj H1635, (hM.sel [5, 1, 2, 3, 4] rfl (by decide)), ((hA.nil.cons (hA.get 6 _ rfl)).cons (hA.get 3 _ rfl))⟩
                · refine d_op (i := 6) (L' := #[true, true, true, false, true, true, true, false, false, false, false, false, false, false, false]) rfl rfl (stv hA (by decide) (run_ld (hA.ev rfl) (run_loadS Try.isAgg37 (At.seg1 (hM.box (.s (.s (.s (.s .z))))) 4 rfl))) ?_)
                  clear hA; intro a hA
                  refine ⟨fun _ => hS, ?_⟩
                  refine d_takef (i := 7) (L' := #[true, true, true, false, true, true, true, true, false, false, false, false, false, false, false]) rfl (by kernel_rfl) rfl (fun _ _ _ h => h) hA (by decide) (fun _ => hS) (fun a w' hA => run_len_slice Try.underlying37 (hA.ev rfl)) ?_; clear hA; intro a hA
                  refine d_many (is := [3, 8]) (by kernel_rfl) (by decide) ⟨?_, ?_, trivial⟩
                  · refine d_op (i := 3) (L' := #[true, true, true, true, true, true, true, true, false, false, false, false, false, false, false]) rfl rfl (stv hA (by decide) (run_ld (hA.ev rfl) (run_loadS Try.isAgg37 (At.seg1 (hM.box (.s (.s (.s (.s .z))))) 4 rfl))) ?_)
                    clear hA; intro a hA
                    refine ⟨fun _ => hS, ?_⟩
                    refine d_one (i := 8) (L' := #[true, true, true, true, true, true, true, true, true, false, false, false, false, false, false]) (by kernel_rfl) rfl rfl (st_call Try.call9 hA [(.int .i64 at_2), (.int .i64 ((r856.Fluffed.length : Nat) : Int))] rfl (by decide) (mill_Mod.calls _ _ _ _ _ _ (hM.front (Ms := [])) H1639) ?_)
                    clear hA; rintro _ w1670 ⟨rfl, hMc⟩ a hA
                    have hE := hMc.below; have hM := hM.call (Ms := []) hMc
                    clear hMc; simp only [List.cons_append, List.nil_append] at hM
                    replace hS := hS.trans (hE.mono hS.size)
                    refine ⟨fun _ => hS, ?_⟩
                    obtain ⟨ad1671, hq1672, hat1673⟩ := Row.elem' (p := pHash) (RowOk.row (hM.row (p := pHash) (.s (.s .z)))) (RowOk.len (hM.row (p := pHash) (.s (.s .z)))) (Vector.replicate 32 0 : Vector Int 32) r1638 hi1641 hj1642
                    refine d_takef (i := 9) (L' := #[true, true, true, true, true, true, true, true, true, true, false, false, false, false, false]) rfl (by kernel_rfl) rfl (fun _ _ _ h => h) hA (by decide) (fun _ => hS) (fun a w' hA => run_idx Try.underlying37 Try.sizeOf34 (hA.ev rfl) hq1672 (hA.ev rfl) hi1641 hj1642) ?_; clear hA; intro a hA
                    refine d_one (i := 10) (L' := #[true, true, true, true, true, true, true, true, true, true, true, false, false, false, false]) (by kernel_rfl) rfl rfl (stv hA (by decide) (run_ld (hA.ev rfl) (run_loadP Try.isAgg34 Try.sizeOf34 hat1673)) ?_)
                    clear hA; intro a hA
                    refine ⟨fun _ => hS, ?_⟩
                    refine d_one (i := 11) (L' := #[true, true, true, true, true, true, true, true, true, true, true, true, false, false, false]) (by kernel_rfl) rfl rfl (e_litNL [(r856.Fluffed.getD r1638.toNat (Vector.replicate 32 0 : Vector Int 32))] [(.agg (pHash.enc (r856.Fluffed.getD r1638.toNat (Vector.replicate 32 0 : Vector Int 32))).toArray)] elt37 hM rfl (by decide) hA rfl rfl (List.cons_ne_nil _ _) (by decide) ?_)
                    clear hM hA; intro w1675 g1674 hM hE hlo1676 a hA
                    have hlw1677 : ∀ k, Value.ownBlock (.slice (some ⟨g1674, 0, none⟩) 1 1) = some k → w1656.heap.size ≤ k := fun k hk => by cases hk; exact Nat.le_trans hS.size hlo1676
                    replace hS := hS.trans (hE.mono hS.size)
                    refine ⟨fun _ => hS, ?_⟩
                    refine d_one (i := 12) (L' := #[true, true, true, true, true, true, true, true, true, true, true, true, true, false, false]) (by kernel_rfl) rfl rfl (e_appendL elt37 hM (fun _ => (.s (.s (.s .z)))) (Src.row Try.underlying37 (RowOk.row (hM.row (p := pHash) .z)) (RowOk.len (hM.row (p := pHash) .z))) hl1652 hA rfl rfl (by decide) ?_)
                    clear hM hA; intro w1680 A1678 c1679 hM hE hlo1681 a hA
                    refine ⟨fun h => absurd h (by decide), ?_⟩
                    refine d_takef (i := 13) (L' := #[true, true, true, true, true, true, true, true, true, true, true, true, true, true, false]) rfl (by kernel_rfl) rfl (fun _ _ _ h => h) hA (by decide) (fun h => absurd h (by decide)) (fun a w' hA => run_field' Try.underlying39 rfl rfl Try.sizeOf37 (by decide) (hA.ev rfl)) ?_; clear hA; intro a hA
                    refine d_one (i := 14) (L' := #[true, true, true, true, true, true, true, true, true, true, true, true, true, true, true]) (by kernel_rfl) rfl rfl (e_store (g := g850) (off := 4) (cur := [(.int .u32 r856.Epoch), (.bool r856.Diffuse), (.slice A863 r856.Routes.length c864), (.slice A866 r856.Stems.length c867), (.slice A869 r856.Fluffed.length c870)]) (cs' := [(.int .u32 r856.Epoch), (.bool r856.Diffuse), (.slice A863 r856.Routes.length c864), (.slice A866 r856.Stems.length c867), (.slice A1678 (r856.Fluffed.length + 1) c1679)]) hM (.s (.s (.s (.s (.s .z))))) Try.sizeOf37 hA rfl (by simp [add_mk]) rfl (by first | rfl | simp [Value.cells, Pl.len]) (one_val rfl) (by first | exact Nat.le_of_ble_eq_true rfl | (simp [Pl.len]; done)) (rfl) ?_)
                    clear hM hA; intro w1682  hM hE  a hA
                    refine ⟨fun h => absurd h (by decide), ?_⟩
                    refine d_done (by kernel_rfl) ?_
                    exact ⟨(r856.Fluffed ++ [(r856.Fluffed.getD r1638.toNat (Vector.replicate 32 0 : Vector Int 32))]), (.slice A1678 (r856.Fluffed.length + 1) c1679), Option.some.inj H1635, (hM.sel [5, 1, 2, 3, 4] rfl (by decide)), ((hA.nil.cons (hA.get 6 _ rfl)).cons (hA.get 3 _ rfl))⟩
                  · refine d_op (i := 8) (L' := #[true, true, true, false, true, true, true, true, true, false, false, false, false, false, false]) rfl rfl (st_call Try.call9 hA [(.int .i64 at_2), (.int .i64 ((r856.Fluffed.length : Nat) : Int))] rfl (by decide) (mill_Mod.calls _ _ _ _ _ _ (hM.front (Ms := [])) H1639) ?_)
                    clear hA; rintro _ w1683 ⟨rfl, hMc⟩ a hA
                    have hE := hMc.below; have hM := hM.call (Ms := []) hMc
                    clear hMc; simp only [List.cons_append, List.nil_append] at hM
                    replace hS := hS.trans (hE.mono hS.size)
                    refine ⟨fun _ => hS, ?_⟩
                    refine d_one (i := 3) (L' := #[true, true, true, true, true, true, true, true, true, false, false, false, false, false, false]) (by kernel_rfl) rfl rfl (stv hA (by decide) (run_ld (hA.ev rfl) (run_loadS Try.isAgg37 (At.seg1 (hM.box (.s (.s (.s (.s .z))))) 4 rfl))) ?_)
                    clear hA; intro a hA
                    refine ⟨fun _ => hS, ?_⟩
                    obtain ⟨ad1684, hq1685, hat1686⟩ := Row.elem' (p := pHash) (RowOk.row (hM.row (p := pHash) (.s (.s .z)))) (RowOk.len (hM.row (p := pHash) (.s (.s .z)))) (Vector.replicate 32 0 : Vector Int 32) r1638 hi1641 hj1642
                    refine d_takef (i := 9) (L' := #[true, true, true, true, true, true, true, true, true, true, false, false, false, false, false]) rfl (by kernel_rfl) rfl (fun _ _ _ h => h) hA (by decide) (fun _ => hS) (fun a w' hA => run_idx Try.underlying37 Try.sizeOf34 (hA.ev rfl) hq1685 (hA.ev rfl) hi1641 hj1642) ?_; clear hA; intro a hA
                    refine d_one (i := 10) (L' := #[true, true, true, true, true, true, true, true, true, true, true, false, false, false, false]) (by kernel_rfl) rfl rfl (stv hA (by decide) (run_ld (hA.ev rfl) (run_loadP Try.isAgg34 Try.sizeOf34 hat1686)) ?_)
                    clear hA; intro a hA
                    refine ⟨fun _ => hS, ?_⟩
                    refine d_one (i := 11) (L' := #[true, true, true, true, true, true, true, true, true, true, true, true, false, false, false]) (by kernel_rfl) rfl rfl (e_litNL [(r856.Fluffed.getD r1638.toNat (Vector.replicate 32 0 : Vector Int 32))] [(.agg (pHash.enc (r856.Fluffed.getD r1638.toNat (Vector.replicate 32 0 : Vector Int 32))).toArray)] elt37 hM rfl (by decide) hA rfl rfl (List.cons_ne_nil _ _) (by decide) ?_)
                    clear hM hA; intro w1688 g1687 hM hE hlo1689 a hA
                    have hlw1690 : ∀ k, Value.ownBlock (.slice (some ⟨g1687, 0, none⟩) 1 1) = some k → w1656.heap.size ≤ k := fun k hk => by cases hk; exact Nat.le_trans hS.size hlo1689
                    replace hS := hS.trans (hE.mono hS.size)
                    refine ⟨fun _ => hS, ?_⟩
                    refine d_one (i := 12) (L' := #[true, true, true, true, true, true, true, true, true, true, true, true, true, false, false]) (by kernel_rfl) rfl rfl (e_appendL elt37 hM (fun _ => (.s (.s (.s .z)))) (Src.row Try.underlying37 (RowOk.row (hM.row (p := pHash) .z)) (RowOk.len (hM.row (p := pHash) .z))) hl1652 hA rfl rfl (by decide) ?_)
                    clear hM hA; intro w1693 A1691 c1692 hM hE hlo1694 a hA
                    refine ⟨fun h => absurd h (by decide), ?_⟩
                    refine d_takef (i := 13) (L' := #[true, true, true, true, true, true, true, true, true, true, true, true, true, true, false]) rfl (by kernel_rfl) rfl (fun _ _ _ h => h) hA (by decide) (fun h => absurd h (by decide)) (fun a w' hA => run_field' Try.underlying39 rfl rfl Try.sizeOf37 (by decide) (hA.ev rfl)) ?_; clear hA; intro a hA
                    refine d_one (i := 14) (L' := #[true, true, true, true, true, true, true, true, true, true, true, true, true, true, true]) (by kernel_rfl) rfl rfl (e_store (g := g850) (off := 4) (cur := [(.int .u32 r856.Epoch), (.bool r856.Diffuse), (.slice A863 r856.Routes.length c864), (.slice A866 r856.Stems.length c867), (.slice A869 r856.Fluffed.length c870)]) (cs' := [(.int .u32 r856.Epoch), (.bool r856.Diffuse), (.slice A863 r856.Routes.length c864), (.slice A866 r856.Stems.length c867), (.slice A1691 (r856.Fluffed.length + 1) c1692)]) hM (.s (.s (.s (.s (.s .z))))) Try.sizeOf37 hA rfl (by simp [add_mk]) rfl (by first | rfl | simp [Value.cells, Pl.len]) (one_val rfl) (by first | exact Nat.le_of_ble_eq_true rfl | (simp [Pl.len]; done)) (rfl) ?_)
                    clear hM hA; intro w1695  hM hE  a hA
                    refine ⟨fun h => absurd h (by decide), ?_⟩
                    refine d_done (by kernel_rfl) ?_
                    exact ⟨(r856.Fluffed ++ [(r856.Fluffed.getD r1638.toNat (Vector.replicate 32 0 : Vector Int 32))]), (.slice A1691 (r856.Fluffed.length + 1) c1692), Option.some.inj H1635, (hM.sel [5, 1, 2, 3, 4] rfl (by decide)), ((hA.nil.cons (hA.get 6 _ rfl)).cons (hA.get 3 _ rfl))⟩
              clear hM hA
              rintro a w1696 ⟨xs1633, v1630, rfl, hM, hA⟩
              try dsimp only at H1292
              obtain ⟨A1631, c1632, rfl⟩ := RowOk.form (hM.row (p := pHash) (.s (.s (.s .z))))
              exact ⟨r856.Routes, r856.Stems, xs1633, (.slice A863 r856.Routes.length c864), (.slice A866 r856.Stems.length c867), (.slice A1631 xs1633.length c1632), Option.some.inj H1292, hM, ((hA.nil.cons (hA.get 6 _ rfl)).cons (hA.get 3 _ rfl))⟩
            · replace H1292 := ite_f hb1569 H1292
              refine wp_skip ?_
              exact ⟨r856.Routes, r856.Stems, r856.Fluffed, (.slice A863 r856.Routes.length c864), (.slice A866 r856.Stems.length c867), (.slice A869 r856.Fluffed.length c870), Option.some.inj H1292, (hM.sel [4, 0, 1, 2, 3] rfl (by decide)), ((hA.nil.cons (hA.get 6 _ rfl)).cons (hA.get 3 _ rfl))⟩
          · replace H1292 := ite_f hb1568 H1292
            refine wp_skip ?_
            exact ⟨r856.Routes, r856.Stems, r856.Fluffed, (.slice A863 r856.Routes.length c864), (.slice A866 r856.Stems.length c867), (.slice A869 r856.Fluffed.length c870), Option.some.inj H1292, (hM.sel [4, 0, 1, 2, 3] rfl (by decide)), ((hA.nil.cons (hA.get 6 _ rfl)).cons (hA.get 3 _ rfl))⟩
  clear hM hA
  rintro a w1697 ⟨xs1282, xs1286, xs1290, v1279, v1283, v1287, rfl, hM, hA⟩
  try dsimp only at H
  obtain ⟨A1280, c1281, rfl⟩ := RowOk.form (hM.row (p := (Pl.int .i64)) (.s .z))
  obtain ⟨A1284, c1285, rfl⟩ := RowOk.form (hM.row (p := pStem) (.s (.s .z)))
  obtain ⟨A1288, c1289, rfl⟩ := RowOk.form (hM.row (p := pHash) (.s (.s (.s .z))))
  refine BN ?_
  refine TN ?_
  refine wp_seq ?_
  refine wp_region_lit ?_
  refine L1 (stv hA (by decide) (run_ld (hA.ev rfl) (run_loadW Try.isAgg39 Try.sizeOf39 (by simp [Pl.len]; try rfl) (hM.box .z))) ?_)
  clear hA; intro a hA
  refine L1 (e_store (g := g853) (off := 0) (cur := [(.int .u32 0), (.bool false), (.slice none 0 0), (.slice none 0 0), (.slice none 0 0)]) (cs' := [(.int .u32 r856.Epoch), (.bool r856.Diffuse), (.slice A1280 xs1282.length c1281), (.slice A1284 xs1286.length c1285), (.slice A1288 xs1290.length c1289)]) hM (.s (.s (.s (.s .z)))) Try.sizeOf39 hA rfl (by simp [add_mk]) rfl (by first | rfl | simp [Value.cells, Pl.len]) (by simp [Value.cells, Value.oneCell']) (by first | exact Nat.le_of_ble_eq_true rfl | (simp [Pl.len]; done)) (spl_all (by first | rfl | simp [Value.cells, Pl.len])) ?_)
  clear hM hA; intro w1698  hM hE  a hA
  refine LQ ?_
  refine TN ?_
  refine wp_ret ?_
  obtain rfl := Option.some.inj H
  exact ret_cell (fn := Try.f14) hA rfl rfl (run_loadW Try.isAgg39 Try.sizeOf39 (by simp [Pl.len]; try rfl) (hM.box (.s (.s (.s (.s .z)))))) ⟨_, rfl, (.slice A1280 xs1282.length c1281), (.slice A1284 xs1286.length c1285), (.slice A1288 xs1290.length c1289), rfl, (hM.sel [1, 2, 3] rfl (by decide))⟩

end Go.Proofs.Ytnhgfdinnbadeaa.G
