/- The functions that a law of this seat reaches: what each comes to, as a plain function, and that its code comes to it. Conditions: the plain function gives a value (enough fuel, no panic). -/
import Derived.Test.YtnhgfdinnbadeaaFRelayFluffsx2
set_option linter.unusedVariables false
set_option linter.unusedSimpArgs false
namespace Go.Proofs.Ytnhgfdinnbadeaa.G
open Go Go.RowKit Go.Proofs
def ref40_SameHashes.l0 (a_0 : (List (Vector Int 32))) (b_1 : (List (Vector Int 32))) : Nat → Int → Option (Out Bool (Unit))
  | 0, _ => none
  | k + 1, i135 => (if (decide (i135 < ((a_0.length : Nat) : Int))) = true then (if 0 ≤ i135 ∧ i135 < ((a_0.length : Nat) : Int) then (if 0 ≤ i135 ∧ i135 < ((b_1.length : Nat) : Int) then (if (!((a_0.getD i135.toNat (Vector.replicate 32 0 : Vector Int 32)) == (b_1.getD i135.toNat (Vector.replicate 32 0 : Vector Int 32)))) = true then (some (.ret false)) else (ref40_SameHashes.l0 a_0 b_1 k (IntKind.i64.wrap (i135 + 1)))) else none) else none) else (some (.go ())))
def ref40_SameHashes.f (k : Nat) (a_0 : (List (Vector Int 32))) (b_1 : (List (Vector Int 32))) : Option Bool := (if (((a_0.length : Nat) : Int) != ((b_1.length : Nat) : Int)) = true then (some false) else (Option.bind (α := Out Bool (Unit)) (ref40_SameHashes.l0 a_0 b_1 k 0) (fun o => match o with | .ret r => some r | .go _ => (some true))))
set_option maxRecDepth 100000 in
theorem ref40_SameHashes.calls (k : Nat) (a_0 : (List (Vector Int 32))) (b_1 : (List (Vector Int 32))) (F : List (Option Nat)) (v0 : Value) (v1 : Value) (r : Bool) (w0 : World) (h0 : RoV F pHash w0 v0 a_0) (h1 : RoV F pHash w0 v1 b_1) (hM : Mem F w0 w0 []) (H : ref40_SameHashes.f k a_0 b_1 = some r) :
    Calls Try.prog 20 #[v0, v1] w0 fun e w' => ∃ v, e = .returned v ∧ v = (.bool r) ∧ Mem F w0 w' [] := by
  unfold ref40_SameHashes.f at H
  obtain ⟨A0, c0, rfl, hr0, hc0⟩ := h0
  obtain ⟨A1, c1, rfl, hr1, hc1⟩ := h1
  refine enterL (n := 26) [(.slice A0 a_0.length c0), (.slice A1 b_1.length c1)] Try.func20 rfl rfl rfl ?_
  intro a hA
  refine wp_seq ?_
  refine wp_region_lit ?_
  refine L1 (stv hA (by decide) (run_assign (hA.ev rfl)) ?_)
  clear hA; intro a hA
  refine LQ ?_
  refine TN ?_
  refine wp_seq ?_
  refine wp_seq ?_
  refine wp_region_lit ?_
  refine L1 (stv hA (by decide) (run_move (hA.ev rfl)) ?_)
  clear hA; intro a hA
  refine L1 (stv hA (by decide) (run_len_slice Try.underlying37 (hA.ev rfl)) ?_)
  clear hA; intro a hA
  refine L1 (stv hA (by decide) (run_move (hA.ev rfl)) ?_)
  clear hA; intro a hA
  refine L1 (stv hA (by decide) (run_len_slice Try.underlying37 (hA.ev rfl)) ?_)
  clear hA; intro a hA
  refine L1 (stv hA (by decide) (run_bin (hA.ev rfl) (hA.ev rfl) (bin_neq _ _ _ _)) ?_)
  clear hA; intro a hA
  refine LQ ?_
  refine TN ?_
  refine tcond (b := (((a_0.length : Nat) : Int) != ((b_1.length : Nat) : Int))) hA rfl (fun hb78 => ?_) (fun hb78 => ?_)
  · replace H := ite_t hb78 H
    refine wp_seq ?_
    refine wp_region_lit ?_
    refine L1 (stv hA (by decide) (run_assign (hA.ev rfl)) ?_)
    clear hA; intro a hA
    refine LQ ?_
    refine TN ?_
    refine wp_ret ?_
    obtain rfl := Option.some.inj H
    refine TR ?_
    exact ret_post1 (fn := Try.f20) hA rfl rfl ⟨_, rfl, rfl, hM⟩
  · replace H := ite_f hb78 H
    refine wp_skip ?_
    refine TN ?_
    refine wp_seq ?_
    refine wp_seq ?_
    refine wp_region_lit ?_
    refine L1 (stv hA (by decide) (run_assign (hA.ev rfl)) ?_)
    clear hA; intro a hA
    refine LQ ?_
    refine TN ?_
    obtain ⟨o137, H136, H⟩ := Option.bind_eq_some_iff.1 H
    refine cutC (fun a w => (.go ()) = o137 ∧ Mem F w0 w [] ∧ Has 26 [] a) ?_ ?_
    · refine wp_block ?_
      refine wp_loop_ghost (fun m a w => ∃ (i135 : Int), ref40_SameHashes.l0 a_0 b_1 m i135 = some o137 ∧ Mem F w0 w [] ∧ Has 26 [(0, (.slice A0 a_0.length c0)), (1, (.slice A1 b_1.length c1)), (5, (.int .i64 i135))] a) k ⟨0, H136, hM, (((hA.nil.cons (hA.get 5 _ rfl)).cons (hA.get 1 _ rfl)).cons (hA.get 0 _ rfl))⟩ ?_
      clear hM hA; rintro m138 a w139 ⟨i135, H136, hM, hA⟩
      cases m138 with
      | zero => exact absurd H136 (by simp [ref40_SameHashes.l0])
      | succ m138 =>
      rw [ref40_SameHashes.l0] at H136
      refine wp_seq ?_
      refine wp_seq ?_
      refine wp_region_lit ?_
      refine L1 (stv hA (by decide) (run_move (hA.ev rfl)) ?_)
      clear hA; intro a hA
      refine L1 (stv hA (by decide) (run_move (hA.ev rfl)) ?_)
      clear hA; intro a hA
      refine L1 (stv hA (by decide) (run_len_slice Try.underlying37 (hA.ev rfl)) ?_)
      clear hA; intro a hA
      refine L1 (stv hA (by decide) (run_bin (hA.ev rfl) (hA.ev rfl) (bin_lss _ _ _ _)) ?_)
      clear hA; intro a hA
      refine LQ ?_
      refine TN ?_
      refine tcond (b := (decide (i135 < ((a_0.length : Nat) : Int)))) hA rfl (fun hb140 => ?_) (fun hb140 => ?_)
      · replace H136 := ite_t hb140 H136
        refine wp_skip ?_
        refine TN ?_
        refine wp_seq ?_
        refine wp_block ?_
        refine wp_seq ?_
        refine draw (fun w' => Below w139.heap.size w139 w') [] rfl ?_
        intro w141 hw hS; replace hM := hM.ext hS; clear hw
        refine d_takef (i := 0) (L' := #[true, false, false, false, false, false, false, false, false]) rfl (by kernel_rfl) rfl (fun _ _ _ h => h) hA (by decide) (fun _ => hS) (fun a w' hA => run_move (hA.ev rfl)) ?_; clear hA; intro a hA
        refine d_takef (i := 1) (L' := #[true, true, false, false, false, false, false, false, false]) rfl (by kernel_rfl) rfl (fun _ _ _ h => h) hA (by decide) (fun _ => hS) (fun a w' hA => run_move (hA.ev rfl)) ?_; clear hA; intro a hA
        obtain ⟨⟨hi143, hj144⟩, H136⟩ := ite_some H136
        obtain ⟨ad145, hq146, hat147⟩ := Row.elem' (p := pHash) (hM.ro hr0) (Eq.refl a_0.length) (Vector.replicate 32 0 : Vector Int 32) i135 hi143 hj144
        refine d_takef (i := 2) (L' := #[true, true, true, false, false, false, false, false, false]) rfl (by kernel_rfl) rfl (fun _ _ _ h => h) hA (by decide) (fun _ => hS) (fun a w' hA => run_idx Try.underlying37 Try.sizeOf34 (hA.ev rfl) hq146 (hA.ev rfl) hi143 hj144) ?_; clear hA; intro a hA
        refine rebase hS ?_; clear hS; intro hS
        refine d_take (i := 3) (L' := #[true, true, true, true, false, false, false, false, false]) rfl (by kernel_rfl) rfl (fun _ _ _ h => h) hA (by decide) rfl hS (fun a w' hA hS' => run_ld (hA.ev rfl) (run_loadP Try.isAgg34 Try.sizeOf34 ((hat147).extB hS'))) ?_; clear hA; intro a hA
        refine d_takef (i := 4) (L' := #[true, true, true, true, true, false, false, false, false]) rfl (by kernel_rfl) rfl (fun _ _ _ h => h) hA (by decide) (fun _ => hS) (fun a w' hA => run_move (hA.ev rfl)) ?_; clear hA; intro a hA
        refine d_takef (i := 5) (L' := #[true, true, true, true, true, true, false, false, false]) rfl (by kernel_rfl) rfl (fun _ _ _ h => h) hA (by decide) (fun _ => hS) (fun a w' hA => run_move (hA.ev rfl)) ?_; clear hA; intro a hA
        obtain ⟨⟨hi148, hj149⟩, H136⟩ := ite_some H136
        obtain ⟨ad150, hq151, hat152⟩ := Row.elem' (p := pHash) (hM.ro hr1) (Eq.refl b_1.length) (Vector.replicate 32 0 : Vector Int 32) i135 hi148 hj149
        refine d_takef (i := 6) (L' := #[true, true, true, true, true, true, true, false, false]) rfl (by kernel_rfl) rfl (fun _ _ _ h => h) hA (by decide) (fun _ => hS) (fun a w' hA => run_idx Try.underlying37 Try.sizeOf34 (hA.ev rfl) hq151 (hA.ev rfl) hi148 hj149) ?_; clear hA; intro a hA
        refine d_take (i := 7) (L' := #[true, true, true, true, true, true, true, true, false]) rfl (by kernel_rfl) rfl (fun _ _ _ h => h) hA (by decide) rfl hS (fun a w' hA hS' => run_ld (hA.ev rfl) (run_loadP Try.isAgg34 Try.sizeOf34 ((hat152).extB hS'))) ?_; clear hA; intro a hA
        refine d_takef (i := 8) (L' := #[true, true, true, true, true, true, true, true, true]) rfl (by kernel_rfl) rfl (fun _ _ _ h => h) hA (by decide) (fun _ => hS) (fun a w' hA => run_aggneq eq_Hash rfl (by kernel_rfl) (hA.ev rfl) (hA.ev rfl)) ?_; clear hA; intro a hA
        refine d_done (by kernel_rfl) ?_
        refine TN ?_
        refine tcond (b := (!((a_0.getD i135.toNat (Vector.replicate 32 0 : Vector Int 32)) == (b_1.getD i135.toNat (Vector.replicate 32 0 : Vector Int 32))))) hA rfl (fun hb153 => ?_) (fun hb153 => ?_)
        · replace H136 := ite_t hb153 H136
          refine wp_seq ?_
          refine wp_region_lit ?_
          refine L1 (stv hA (by decide) (run_assign (hA.ev rfl)) ?_)
          clear hA; intro a hA
          refine LQ ?_
          refine TN ?_
          refine wp_ret ?_
          obtain rfl := Option.some.inj H136
          dsimp only at H
          obtain rfl := Option.some.inj H
          refine BR ?_
          refine TR ?_
          refine TR ?_
          refine BR ?_
          refine TR ?_
          refine TR ?_
          exact ret_post1 (fn := Try.f20) hA rfl rfl ⟨_, rfl, rfl, hM⟩
        · replace H136 := ite_f hb153 H136
          refine wp_skip ?_
          refine BN ?_
          refine TN ?_
          refine wp_region_lit ?_
          refine L1 (stv hA (by decide) (run_move (hA.ev rfl)) ?_)
          clear hA; intro a hA
          refine L1 (stv hA (by decide) (run_bin (hA.ev rfl) (hA.ev rfl) (bin_add _ _ _ _)) ?_)
          clear hA; intro a hA
          refine L1 (stv hA (by decide) (run_assign (hA.ev rfl)) ?_)
          clear hA; intro a hA
          refine LQ ?_
          exact ⟨_, Nat.lt_succ_self m138, IntKind.i64.wrap (i135 + 1), H136, hM, (((hA.nil.cons (hA.get 5 _ rfl)).cons (hA.get 1 _ rfl)).cons (hA.get 0 _ rfl))⟩
      · replace H136 := ite_f hb140 H136
        refine wp_exit ?_
        refine TX ?_
        refine TX ?_
        refine BX ?_
        exact ⟨Option.some.inj H136, hM, hA.nil⟩
    clear hM hA
    rintro a w154 ⟨rfl, hM, hA⟩
    try dsimp only at H
    refine TN ?_
    refine wp_seq ?_
    refine wp_region_lit ?_
    refine L1 (stv hA (by decide) (run_assign (hA.ev rfl)) ?_)
    clear hA; intro a hA
    refine LQ ?_
    refine TN ?_
    refine wp_ret ?_
    obtain rfl := Option.some.inj H
    exact ret_post1 (fn := Try.f20) hA rfl rfl ⟨_, rfl, rfl, hM⟩

def ref40_Same.l0 (a_0 : Relay) (b_1 : Relay) : Nat → Int → Option (Out Bool (Unit))
  | 0, _ => none
  | k + 1, i201 => (if (decide (i201 < ((a_0.Stems.length : Nat) : Int))) = true then (if 0 ≤ i201 ∧ i201 < ((a_0.Stems.length : Nat) : Int) then (if 0 ≤ i201 ∧ i201 < ((b_1.Stems.length : Nat) : Int) then (if (!((a_0.Stems.getD i201.toNat Stem.z) == (b_1.Stems.getD i201.toNat Stem.z))) = true then (some (.ret false)) else (ref40_Same.l0 a_0 b_1 k (IntKind.i64.wrap (i201 + 1)))) else none) else none) else (some (.go ())))
def ref40_Same.f (k : Nat) (a_0 : Relay) (b_1 : Relay) : Option Bool := (Option.bind (α := Bool) (if (a_0.Epoch != b_1.Epoch) = true then (some true) else (if (!(a_0.Diffuse == b_1.Diffuse)) = true then (some true) else ((ref40_SameInts.f k a_0.Routes b_1.Routes).bind fun r135 => (if (!r135) = true then (some true) else ((ref40_SameHashes.f k a_0.Fluffed b_1.Fluffed).bind fun r139 => (if (!r139) = true then (some true) else (some (((a_0.Stems.length : Nat) : Int) != ((b_1.Stems.length : Nat) : Int))))))))) (fun t130 => (if t130 = true then (some false) else (Option.bind (α := Out Bool (Unit)) (ref40_Same.l0 a_0 b_1 k 0) (fun o => match o with | .ret r => some r | .go _ => (some true))))))
set_option maxRecDepth 100000 in
theorem ref40_Same.calls (k : Nat) (a_0 : Relay) (b_1 : Relay) (F : List (Option Nat)) (v0_2 : Value) (v0_3 : Value) (v0_4 : Value) (v1_2 : Value) (v1_3 : Value) (v1_4 : Value) (r : Bool) (w0 : World) (h0_2 : RoV F (Pl.int .i64) w0 v0_2 a_0.Routes) (h0_3 : RoV F pStem w0 v0_3 a_0.Stems) (h0_4 : RoV F pHash w0 v0_4 a_0.Fluffed) (h1_2 : RoV F (Pl.int .i64) w0 v1_2 b_1.Routes) (h1_3 : RoV F pStem w0 v1_3 b_1.Stems) (h1_4 : RoV F pHash w0 v1_4 b_1.Fluffed) (hM : Mem F w0 w0 []) (H : ref40_Same.f k a_0 b_1 = some r) :
    Calls Try.prog 17 #[(.agg #[(.int .u32 a_0.Epoch), (.bool a_0.Diffuse), v0_2, v0_3, v0_4]), (.agg #[(.int .u32 b_1.Epoch), (.bool b_1.Diffuse), v1_2, v1_3, v1_4])] w0 fun e w' => ∃ v, e = .returned v ∧ v = (.bool r) ∧ Mem F w0 w' [] := by
  unfold ref40_Same.f at H
  obtain ⟨A0_2, c0_2, rfl, hr0_2, hc0_2⟩ := h0_2
  obtain ⟨A0_3, c0_3, rfl, hr0_3, hc0_3⟩ := h0_3
  obtain ⟨A0_4, c0_4, rfl, hr0_4, hc0_4⟩ := h0_4
  obtain ⟨A1_2, c1_2, rfl, hr1_2, hc1_2⟩ := h1_2
  obtain ⟨A1_3, c1_3, rfl, hr1_3, hc1_3⟩ := h1_3
  obtain ⟨A1_4, c1_4, rfl, hr1_4, hc1_4⟩ := h1_4
  refine enterL (n := 61) [(.agg #[(.int .u32 a_0.Epoch), (.bool a_0.Diffuse), (.slice A0_2 a_0.Routes.length c0_2), (.slice A0_3 a_0.Stems.length c0_3), (.slice A0_4 a_0.Fluffed.length c0_4)]), (.agg #[(.int .u32 b_1.Epoch), (.bool b_1.Diffuse), (.slice A1_2 b_1.Routes.length c1_2), (.slice A1_3 b_1.Stems.length c1_3), (.slice A1_4 b_1.Fluffed.length c1_4)])] Try.func17 rfl rfl rfl ?_
  intro a hA
  refine wp_seq ?_
  refine wp_region_lit ?_
  refine L1 (e_box (cs := [(.int .u32 a_0.Epoch), (.bool a_0.Diffuse), (.slice A0_2 a_0.Routes.length c0_2), (.slice A0_3 a_0.Stems.length c0_3), (.slice A0_4 a_0.Fluffed.length c0_4)]) hM hA rfl rfl (by decide) ?_)
  clear hM hA; intro w112 g111 hM hE  a hA
  refine L1 (e_box (cs := [(.int .u32 b_1.Epoch), (.bool b_1.Diffuse), (.slice A1_2 b_1.Routes.length c1_2), (.slice A1_3 b_1.Stems.length c1_3), (.slice A1_4 b_1.Fluffed.length c1_4)]) hM hA rfl rfl (by decide) ?_)
  clear hM hA; intro w115 g114 hM hE  a hA
  refine L1 (stv hA (by decide) (run_assign (hA.ev rfl)) ?_)
  clear hA; intro a hA
  refine LQ ?_
  refine TN ?_
  refine wp_seq ?_
  refine wp_seq ?_
  obtain ⟨o132, H131, H⟩ := Option.bind_eq_some_iff.1 H
  refine cutC (fun a w => ∃ (t130 : Bool), t130 = o132 ∧ Mem F w0 w [.box g111 39 [(.int .u32 a_0.Epoch), (.bool a_0.Diffuse), (.slice A0_2 a_0.Routes.length c0_2), (.slice A0_3 a_0.Stems.length c0_3), (.slice A0_4 a_0.Fluffed.length c0_4)], .box g114 39 [(.int .u32 b_1.Epoch), (.bool b_1.Diffuse), (.slice A1_2 b_1.Routes.length c1_2), (.slice A1_3 b_1.Stems.length c1_3), (.slice A1_4 b_1.Fluffed.length c1_4)]] ∧ Has 61 [(2, (.pointer (some (⟨g111, 0, none⟩)))), (3, (.pointer (some (⟨g114, 0, none⟩)))), (42, (.bool t130))] a) ?_ ?_
  · refine wp_region_lit ?_
    refine L1 (stv hA (by decide) (run_field' Try.underlying39 rfl rfl Try.sizeOf35 (by decide) (hA.ev rfl)) ?_)
    clear hA; intro a hA
    refine L1 (stv hA (by decide) (run_ld (hA.ev rfl) (run_loadS Try.isAgg35 (At.seg1 (hM.box (.s .z)) 0 rfl))) ?_)
    clear hA; intro a hA
    refine L1 (stv hA (by decide) (run_field' Try.underlying39 rfl rfl Try.sizeOf35 (by decide) (hA.ev rfl)) ?_)
    clear hA; intro a hA
    refine L1 (stv hA (by decide) (run_ld (hA.ev rfl) (run_loadS Try.isAgg35 (At.seg1 (hM.box .z) 0 rfl))) ?_)
    clear hA; intro a hA
    refine L1 (stv hA (by decide) (run_bin (hA.ev rfl) (hA.ev rfl) (bin_neq _ _ _ _)) ?_)
    clear hA; intro a hA
    refine L1 (stv hA (by decide) (run_move (hA.ev rfl)) ?_)
    clear hA; intro a hA
    refine bsplit (b := (a_0.Epoch != b_1.Epoch)) (fun hb133 => ?_) (fun hb133 => ?_)
    · replace H131 := ite_t hb133 H131
      have hA := hA.re (t := 11) rfl (congrArg Value.bool hb133)
      refine L1 (gate_off rfl (by decide) rfl hA (by decide) rfl rfl ?_); clear hA; intro a hA
      refine L1 (gate_off rfl (by decide) rfl hA (by decide) rfl rfl ?_); clear hA; intro a hA
      refine L1 (gate_off rfl (by decide) rfl hA (by decide) rfl rfl ?_); clear hA; intro a hA
      refine L1 (gate_off rfl (by decide) rfl hA (by decide) rfl rfl ?_); clear hA; intro a hA
      refine L1 (gate_off rfl (by decide) rfl hA (by decide) rfl rfl ?_); clear hA; intro a hA
      refine L1 (stv hA (by decide) (run_pick (hA.ev rfl) (fun _ => hA.ev rfl) (fun h => Bool.noConfusion h)) ?_)
      clear hA; intro a hA
      refine L1 (stv hA (by decide) (run_move (hA.ev rfl)) ?_)
      clear hA; intro a hA
      refine L1 (gate_off rfl (by decide) rfl hA (by decide) rfl rfl ?_); clear hA; intro a hA
      refine L1 (gate_off rfl (by decide) rfl hA (by decide) rfl rfl ?_); clear hA; intro a hA
      refine L1 (gate_off rfl (by decide) rfl hA (by decide) rfl rfl ?_); clear hA; intro a hA
      refine L1 (gate_off rfl (by decide) rfl hA (by decide) rfl rfl ?_); clear hA; intro a hA
      refine L1 (gate_off rfl (by decide) rfl hA (by decide) rfl rfl ?_); clear hA; intro a hA
      refine L1 (gate_off rfl (by decide) rfl hA (by decide) rfl rfl ?_); clear hA; intro a hA
      refine L1 (stv hA (by decide) (run_pick (hA.ev rfl) (fun _ => hA.ev rfl) (fun h => Bool.noConfusion h)) ?_)
      clear hA; intro a hA
      refine L1 (stv hA (by decide) (run_move (hA.ev rfl)) ?_)
      clear hA; intro a hA
      refine L1 (gate_off rfl (by decide) rfl hA (by decide) rfl rfl ?_); clear hA; intro a hA
      refine L1 (gate_off rfl (by decide) rfl hA (by decide) rfl rfl ?_); clear hA; intro a hA
      refine L1 (gate_off rfl (by decide) rfl hA (by decide) rfl rfl ?_); clear hA; intro a hA
      refine L1 (gate_off rfl (by decide) rfl hA (by decide) rfl rfl ?_); clear hA; intro a hA
      refine L1 (gate_off rfl (by decide) rfl hA (by decide) rfl rfl ?_); clear hA; intro a hA
      refine L1 (gate_off rfl (by decide) rfl hA (by decide) rfl rfl ?_); clear hA; intro a hA
      refine L1 (stv hA (by decide) (run_pick (hA.ev rfl) (fun _ => hA.ev rfl) (fun h => Bool.noConfusion h)) ?_)
      clear hA; intro a hA
      refine L1 (stv hA (by decide) (run_move (hA.ev rfl)) ?_)
      clear hA; intro a hA
      refine L1 (gate_off rfl (by decide) rfl hA (by decide) rfl rfl ?_); clear hA; intro a hA
      refine L1 (gate_off rfl (by decide) rfl hA (by decide) rfl rfl ?_); clear hA; intro a hA
      refine L1 (gate_off rfl (by decide) rfl hA (by decide) rfl rfl ?_); clear hA; intro a hA
      refine L1 (gate_off rfl (by decide) rfl hA (by decide) rfl rfl ?_); clear hA; intro a hA
      refine L1 (gate_off rfl (by decide) rfl hA (by decide) rfl rfl ?_); clear hA; intro a hA
      refine L1 (gate_off rfl (by decide) rfl hA (by decide) rfl rfl ?_); clear hA; intro a hA
      refine L1 (gate_off rfl (by decide) rfl hA (by decide) rfl rfl ?_); clear hA; intro a hA
      refine L1 (stv hA (by decide) (run_pick (hA.ev rfl) (fun _ => hA.ev rfl) (fun h => Bool.noConfusion h)) ?_)
      clear hA; intro a hA
      refine LQ ?_
      exact ⟨true, Option.some.inj H131, (hM.sel [1, 0] rfl (by decide)), (((hA.nil.cons (hA.get 42 _ rfl)).cons (hA.get 3 _ rfl)).cons (hA.get 2 _ rfl))⟩
    · replace H131 := ite_f hb133 H131
      have hA := hA.re (t := 11) rfl (congrArg Value.bool hb133)
      refine L1 (gate_on rfl rfl hA (by decide) rfl (stv hA (by decide) (run_field' Try.underlying39 rfl rfl Try.sizeOf4 (by decide) (hA.ev rfl)) ?_))
      clear hA; intro a hA
      refine L1 (gate_on rfl rfl hA (by decide) rfl (stv hA (by decide) (run_ld (hA.ev rfl) (run_loadS Try.isAgg4 (At.seg1 (hM.box (.s .z)) 1 rfl))) ?_))
      clear hA; intro a hA
      refine L1 (gate_on rfl rfl hA (by decide) rfl (stv hA (by decide) (run_field' Try.underlying39 rfl rfl Try.sizeOf4 (by decide) (hA.ev rfl)) ?_))
      clear hA; intro a hA
      refine L1 (gate_on rfl rfl hA (by decide) rfl (stv hA (by decide) (run_ld (hA.ev rfl) (run_loadS Try.isAgg4 (At.seg1 (hM.box .z) 1 rfl))) ?_))
      clear hA; intro a hA
      refine L1 (gate_on rfl rfl hA (by decide) rfl (stv hA (by decide) (run_nebool Try.underlying4 (hA.ev rfl) (hA.ev rfl)) ?_))
      clear hA; intro a hA
      refine L1 (stv hA (by decide) (run_pick (hA.ev rfl) (fun h => Bool.noConfusion h) (fun _ => hA.ev rfl)) ?_)
      clear hA; intro a hA
      refine L1 (stv hA (by decide) (run_move (hA.ev rfl)) ?_)
      clear hA; intro a hA
      refine bsplit (b := (!(a_0.Diffuse == b_1.Diffuse))) (fun hb134 => ?_) (fun hb134 => ?_)
      · replace H131 := ite_t hb134 H131
        have hA := hA.re (t := 18) rfl (congrArg Value.bool hb134)
        refine L1 (gate_off rfl (by decide) rfl hA (by decide) rfl rfl ?_); clear hA; intro a hA
        refine L1 (gate_off rfl (by decide) rfl hA (by decide) rfl rfl ?_); clear hA; intro a hA
        refine L1 (gate_off rfl (by decide) rfl hA (by decide) rfl rfl ?_); clear hA; intro a hA
        refine L1 (gate_off rfl (by decide) rfl hA (by decide) rfl rfl ?_); clear hA; intro a hA
        refine L1 (gate_off rfl (by decide) rfl hA (by decide) rfl rfl ?_); clear hA; intro a hA
        refine L1 (gate_off rfl (by decide) rfl hA (by decide) rfl rfl ?_); clear hA; intro a hA
        refine L1 (stv hA (by decide) (run_pick (hA.ev rfl) (fun _ => hA.ev rfl) (fun h => Bool.noConfusion h)) ?_)
        clear hA; intro a hA
        refine L1 (stv hA (by decide) (run_move (hA.ev rfl)) ?_)
        clear hA; intro a hA
        refine L1 (gate_off rfl (by decide) rfl hA (by decide) rfl rfl ?_); clear hA; intro a hA
        refine L1 (gate_off rfl (by decide) rfl hA (by decide) rfl rfl ?_); clear hA; intro a hA
        refine L1 (gate_off rfl (by decide) rfl hA (by decide) rfl rfl ?_); clear hA; intro a hA
        refine L1 (gate_off rfl (by decide) rfl hA (by decide) rfl rfl ?_); clear hA; intro a hA
        refine L1 (gate_off rfl (by decide) rfl hA (by decide) rfl rfl ?_); clear hA; intro a hA
        refine L1 (gate_off rfl (by decide) rfl hA (by decide) rfl rfl ?_); clear hA; intro a hA
        refine L1 (stv hA (by decide) (run_pick (hA.ev rfl) (fun _ => hA.ev rfl) (fun h => Bool.noConfusion h)) ?_)
        clear hA; intro a hA
        refine L1 (stv hA (by decide) (run_move (hA.ev rfl)) ?_)
        clear hA; intro a hA
        refine L1 (gate_off rfl (by decide) rfl hA (by decide) rfl rfl ?_); clear hA; intro a hA
        refine L1 (gate_off rfl (by decide) rfl hA (by decide) rfl rfl ?_); clear hA; intro a hA
        refine L1 (gate_off rfl (by decide) rfl hA (by decide) rfl rfl ?_); clear hA; intro a hA
        refine L1 (gate_off rfl (by decide) rfl hA (by decide) rfl rfl ?_); clear hA; intro a hA
        refine L1 (gate_off rfl (by decide) rfl hA (by decide) rfl rfl ?_); clear hA; intro a hA
        refine L1 (gate_off rfl (by decide) rfl hA (by decide) rfl rfl ?_); clear hA; intro a hA
        refine L1 (gate_off rfl (by decide) rfl hA (by decide) rfl rfl ?_); clear hA; intro a hA
        refine L1 (stv hA (by decide) (run_pick (hA.ev rfl) (fun _ => hA.ev rfl) (fun h => Bool.noConfusion h)) ?_)
        clear hA; intro a hA
        refine LQ ?_
        exact ⟨true, Option.some.inj H131, (hM.sel [1, 0] rfl (by decide)), (((hA.nil.cons (hA.get 42 _ rfl)).cons (hA.get 3 _ rfl)).cons (hA.get 2 _ rfl))⟩
      · replace H131 := ite_f hb134 H131
        have hA := hA.re (t := 18) rfl (congrArg Value.bool hb134)
        refine L1 (gate_on rfl rfl hA (by decide) rfl (stv hA (by decide) (run_field' Try.underlying39 rfl rfl Try.sizeOf22 (by decide) (hA.ev rfl)) ?_))
        clear hA; intro a hA
        refine L1 (gate_on rfl rfl hA (by decide) rfl (stv hA (by decide) (run_ld (hA.ev rfl) (run_loadS Try.isAgg22 (At.seg1 (hM.box (.s .z)) 2 rfl))) ?_))
        clear hA; intro a hA
        refine L1 (gate_on rfl rfl hA (by decide) rfl (stv hA (by decide) (run_field' Try.underlying39 rfl rfl Try.sizeOf22 (by decide) (hA.ev rfl)) ?_))
        clear hA; intro a hA
        refine L1 (gate_on rfl rfl hA (by decide) rfl (stv hA (by decide) (run_ld (hA.ev rfl) (run_loadS Try.isAgg22 (At.seg1 (hM.box .z) 2 rfl))) ?_))
        clear hA; intro a hA
        obtain ⟨r135, H136, H131⟩ := Option.bind_eq_some_iff.1 H131
        refine L1 (gate_on rfl rfl hA (by decide) rfl (st_call Try.call26 hA [(.slice A0_2 a_0.Routes.length c0_2), (.slice A1_2 b_1.Routes.length c1_2)] rfl (by decide) (ref40_SameInts.calls _ _ _ _ _ _ _ _ ((RoV.mk (hM.roC (Ms := []) hr0_2) (Eq.refl a_0.Routes.length) hc0_2)) ((RoV.mk (hM.roC (Ms := []) hr1_2) (Eq.refl b_1.Routes.length) hc1_2)) (hM.front (Ms := [])) H136) ?_))
        clear hA; rintro _ w137 ⟨rfl, hMc⟩ a hA
        have hE := hMc.below; have hM := hM.call (Ms := []) hMc
        clear hMc; simp only [List.cons_append, List.nil_append] at hM
        refine L1 (gate_on rfl rfl hA (by decide) rfl (stv hA (by decide) (run_not (hA.ev rfl)) ?_))
        clear hA; intro a hA
        refine L1 (stv hA (by decide) (run_pick (hA.ev rfl) (fun h => Bool.noConfusion h) (fun _ => hA.ev rfl)) ?_)
        clear hA; intro a hA
        refine L1 (stv hA (by decide) (run_move (hA.ev rfl)) ?_)
        clear hA; intro a hA
        refine bsplit (b := (!r135)) (fun hb138 => ?_) (fun hb138 => ?_)
        · replace H131 := ite_t hb138 H131
          have hA := hA.re (t := 26) rfl (congrArg Value.bool hb138)
          refine L1 (gate_off rfl (by decide) rfl hA (by decide) rfl rfl ?_); clear hA; intro a hA
          refine L1 (gate_off rfl (by decide) rfl hA (by decide) rfl rfl ?_); clear hA; intro a hA
          refine L1 (gate_off rfl (by decide) rfl hA (by decide) rfl rfl ?_); clear hA; intro a hA
          refine L1 (gate_off rfl (by decide) rfl hA (by decide) rfl rfl ?_); clear hA; intro a hA
          refine L1 (gate_off rfl (by decide) rfl hA (by decide) rfl rfl ?_); clear hA; intro a hA
          refine L1 (gate_off rfl (by decide) rfl hA (by decide) rfl rfl ?_); clear hA; intro a hA
          refine L1 (stv hA (by decide) (run_pick (hA.ev rfl) (fun _ => hA.ev rfl) (fun h => Bool.noConfusion h)) ?_)
          clear hA; intro a hA
          refine L1 (stv hA (by decide) (run_move (hA.ev rfl)) ?_)
          clear hA; intro a hA
          refine L1 (gate_off rfl (by decide) rfl hA (by decide) rfl rfl ?_); clear hA; intro a hA
          refine L1 (gate_off rfl (by decide) rfl hA (by decide) rfl rfl ?_); clear hA; intro a hA
          refine L1 (gate_off rfl (by decide) rfl hA (by decide) rfl rfl ?_); clear hA; intro a hA
          refine L1 (gate_off rfl (by decide) rfl hA (by decide) rfl rfl ?_); clear hA; intro a hA
          refine L1 (gate_off rfl (by decide) rfl hA (by decide) rfl rfl ?_); clear hA; intro a hA
          refine L1 (gate_off rfl (by decide) rfl hA (by decide) rfl rfl ?_); clear hA; intro a hA
          refine L1 (gate_off rfl (by decide) rfl hA (by decide) rfl rfl ?_); clear hA; intro a hA
          refine L1 (stv hA (by decide) (run_pick (hA.ev rfl) (fun _ => hA.ev rfl) (fun h => Bool.noConfusion h)) ?_)
          clear hA; intro a hA
          refine LQ ?_
          exact ⟨true, Option.some.inj H131, (hM.sel [1, 0] rfl (by decide)), (((hA.nil.cons (hA.get 42 _ rfl)).cons (hA.get 3 _ rfl)).cons (hA.get 2 _ rfl))⟩
        · replace H131 := ite_f hb138 H131
          have hA := hA.re (t := 26) rfl (congrArg Value.bool hb138)
          refine L1 (gate_on rfl rfl hA (by decide) rfl (stv hA (by decide) (run_field' Try.underlying39 rfl rfl Try.sizeOf37 (by decide) (hA.ev rfl)) ?_))
          clear hA; intro a hA
          refine L1 (gate_on rfl rfl hA (by decide) rfl (stv hA (by decide) (run_ld (hA.ev rfl) (run_loadS Try.isAgg37 (At.seg1 (hM.box (.s .z)) 4 rfl))) ?_))
          clear hA; intro a hA
          refine L1 (gate_on rfl rfl hA (by decide) rfl (stv hA (by decide) (run_field' Try.underlying39 rfl rfl Try.sizeOf37 (by decide) (hA.ev rfl)) ?_))
          clear hA; intro a hA
          refine L1 (gate_on rfl rfl hA (by decide) rfl (stv hA (by decide) (run_ld (hA.ev rfl) (run_loadS Try.isAgg37 (At.seg1 (hM.box .z) 4 rfl))) ?_))
          clear hA; intro a hA
          obtain ⟨r139, H140, H131⟩ := Option.bind_eq_some_iff.1 H131
          refine L1 (gate_on rfl rfl hA (by decide) rfl (st_call Try.call20 hA [(.slice A0_4 a_0.Fluffed.length c0_4), (.slice A1_4 b_1.Fluffed.length c1_4)] rfl (by decide) (ref40_SameHashes.calls _ _ _ _ _ _ _ _ ((RoV.mk (hM.roC (Ms := []) hr0_4) (Eq.refl a_0.Fluffed.length) hc0_4)) ((RoV.mk (hM.roC (Ms := []) hr1_4) (Eq.refl b_1.Fluffed.length) hc1_4)) (hM.front (Ms := [])) H140) ?_))
          clear hA; rintro _ w141 ⟨rfl, hMc⟩ a hA
          have hE := hMc.below; have hM := hM.call (Ms := []) hMc
          clear hMc; simp only [List.cons_append, List.nil_append] at hM
          refine L1 (gate_on rfl rfl hA (by decide) rfl (stv hA (by decide) (run_not (hA.ev rfl)) ?_))
          clear hA; intro a hA
          refine L1 (stv hA (by decide) (run_pick (hA.ev rfl) (fun h => Bool.noConfusion h) (fun _ => hA.ev rfl)) ?_)
          clear hA; intro a hA
          refine L1 (stv hA (by decide) (run_move (hA.ev rfl)) ?_)
          clear hA; intro a hA
          refine bsplit (b := (!r139)) (fun hb142 => ?_) (fun hb142 => ?_)
          · replace H131 := ite_t hb142 H131
            have hA := hA.re (t := 34) rfl (congrArg Value.bool hb142)
            refine L1 (gate_off rfl (by decide) rfl hA (by decide) rfl rfl ?_); clear hA; intro a hA
            refine L1 (gate_off rfl (by decide) rfl hA (by decide) rfl rfl ?_); clear hA; intro a hA
            refine L1 (gate_off rfl (by decide) rfl hA (by decide) rfl rfl ?_); clear hA; intro a hA
            refine L1 (gate_off rfl (by decide) rfl hA (by decide) rfl rfl ?_); clear hA; intro a hA
            refine L1 (gate_off rfl (by decide) rfl hA (by decide) rfl rfl ?_); clear hA; intro a hA
            refine L1 (gate_off rfl (by decide) rfl hA (by decide) rfl rfl ?_); clear hA; intro a hA
            refine L1 (gate_off rfl (by decide) rfl hA (by decide) rfl rfl ?_); clear hA; intro a hA
            refine L1 (stv hA (by decide) (run_pick (hA.ev rfl) (fun _ => hA.ev rfl) (fun h => Bool.noConfusion h)) ?_)
            clear hA; intro a hA
            refine LQ ?_
            exact ⟨true, Option.some.inj H131, (hM.sel [1, 0] rfl (by decide)), (((hA.nil.cons (hA.get 42 _ rfl)).cons (hA.get 3 _ rfl)).cons (hA.get 2 _ rfl))⟩
          · replace H131 := ite_f hb142 H131
            have hA := hA.re (t := 34) rfl (congrArg Value.bool hb142)
            refine L1 (gate_on rfl rfl hA (by decide) rfl (stv hA (by decide) (run_field' Try.underlying39 rfl rfl Try.sizeOf36 (by decide) (hA.ev rfl)) ?_))
            clear hA; intro a hA
            refine L1 (gate_on rfl rfl hA (by decide) rfl (stv hA (by decide) (run_ld (hA.ev rfl) (run_loadS Try.isAgg36 (At.seg1 (hM.box (.s .z)) 3 rfl))) ?_))
            clear hA; intro a hA
            refine L1 (gate_on rfl rfl hA (by decide) rfl (stv hA (by decide) (run_len_slice Try.underlying36 (hA.ev rfl)) ?_))
            clear hA; intro a hA
            refine L1 (gate_on rfl rfl hA (by decide) rfl (stv hA (by decide) (run_field' Try.underlying39 rfl rfl Try.sizeOf36 (by decide) (hA.ev rfl)) ?_))
            clear hA; intro a hA
            refine L1 (gate_on rfl rfl hA (by decide) rfl (stv hA (by decide) (run_ld (hA.ev rfl) (run_loadS Try.isAgg36 (At.seg1 (hM.box .z) 3 rfl))) ?_))
            clear hA; intro a hA
            refine L1 (gate_on rfl rfl hA (by decide) rfl (stv hA (by decide) (run_len_slice Try.underlying36 (hA.ev rfl)) ?_))
            clear hA; intro a hA
            refine L1 (gate_on rfl rfl hA (by decide) rfl (stv hA (by decide) (run_bin (hA.ev rfl) (hA.ev rfl) (bin_neq _ _ _ _)) ?_))
            clear hA; intro a hA
            refine L1 (stv hA (by decide) (run_pick (hA.ev rfl) (fun h => Bool.noConfusion h) (fun _ => hA.ev rfl)) ?_)
            clear hA; intro a hA
            refine LQ ?_
            exact ⟨(((a_0.Stems.length : Nat) : Int) != ((b_1.Stems.length : Nat) : Int)), Option.some.inj H131, (hM.sel [1, 0] rfl (by decide)), (((hA.nil.cons (hA.get 42 _ rfl)).cons (hA.get 3 _ rfl)).cons (hA.get 2 _ rfl))⟩
  clear hM hA
  rintro a w143 ⟨t130, rfl, hM, hA⟩
  try dsimp only at H
  refine TN ?_
  refine tcond (b := t130) hA rfl (fun hb144 => ?_) (fun hb144 => ?_)
  · replace H := ite_t hb144 H
    refine wp_seq ?_
    refine wp_region_lit ?_
    refine L1 (stv hA (by decide) (run_assign (hA.ev rfl)) ?_)
    clear hA; intro a hA
    refine LQ ?_
    refine TN ?_
    refine wp_ret ?_
    obtain rfl := Option.some.inj H
    refine TR ?_
    exact ret_post1 (fn := Try.f17) hA rfl rfl ⟨_, rfl, rfl, (hM.sel [] rfl (by decide))⟩
  · replace H := ite_f hb144 H
    refine wp_skip ?_
    refine TN ?_
    refine wp_seq ?_
    refine wp_seq ?_
    refine wp_region_lit ?_
    refine L1 (stv hA (by decide) (run_assign (hA.ev rfl)) ?_)
    clear hA; intro a hA
    refine LQ ?_
    refine TN ?_
    obtain ⟨o203, H202, H⟩ := Option.bind_eq_some_iff.1 H
    refine cutC (fun a w => (.go ()) = o203 ∧ Mem F w0 w [] ∧ Has 61 [] a) ?_ ?_
    · refine wp_block ?_
      refine wp_loop_ghost (fun m a w => ∃ (i201 : Int), ref40_Same.l0 a_0 b_1 m i201 = some o203 ∧ Mem F w0 w [.box g111 39 [(.int .u32 a_0.Epoch), (.bool a_0.Diffuse), (.slice A0_2 a_0.Routes.length c0_2), (.slice A0_3 a_0.Stems.length c0_3), (.slice A0_4 a_0.Fluffed.length c0_4)], .box g114 39 [(.int .u32 b_1.Epoch), (.bool b_1.Diffuse), (.slice A1_2 b_1.Routes.length c1_2), (.slice A1_3 b_1.Stems.length c1_3), (.slice A1_4 b_1.Fluffed.length c1_4)]] ∧ Has 61 [(2, (.pointer (some (⟨g111, 0, none⟩)))), (3, (.pointer (some (⟨g114, 0, none⟩)))), (5, (.int .i64 i201))] a) k ⟨0, H202, hM, (((hA.nil.cons (hA.get 5 _ rfl)).cons (hA.get 3 _ rfl)).cons (hA.get 2 _ rfl))⟩ ?_
      clear hM hA; rintro m204 a w205 ⟨i201, H202, hM, hA⟩
      cases m204 with
      | zero => exact absurd H202 (by simp [ref40_Same.l0])
      | succ m204 =>
      rw [ref40_Same.l0] at H202
      refine wp_seq ?_
      refine wp_seq ?_
      refine wp_region_lit ?_
      refine L1 (stv hA (by decide) (run_move (hA.ev rfl)) ?_)
      clear hA; intro a hA
      refine L1 (stv hA (by decide) (run_field' Try.underlying39 rfl rfl Try.sizeOf36 (by decide) (hA.ev rfl)) ?_)
      clear hA; intro a hA
      refine L1 (stv hA (by decide) (run_ld (hA.ev rfl) (run_loadS Try.isAgg36 (At.seg1 (hM.box .z) 3 rfl))) ?_)
      clear hA; intro a hA
      refine L1 (stv hA (by decide) (run_len_slice Try.underlying36 (hA.ev rfl)) ?_)
      clear hA; intro a hA
      refine L1 (stv hA (by decide) (run_bin (hA.ev rfl) (hA.ev rfl) (bin_lss _ _ _ _)) ?_)
      clear hA; intro a hA
      refine LQ ?_
      refine TN ?_
      refine tcond (b := (decide (i201 < ((a_0.Stems.length : Nat) : Int)))) hA rfl (fun hb206 => ?_) (fun hb206 => ?_)
      · replace H202 := ite_t hb206 H202
        refine wp_skip ?_
        refine TN ?_
        refine wp_seq ?_
        refine wp_block ?_
        refine wp_seq ?_
        refine draw (fun w' => Below w205.heap.size w205 w') [] rfl ?_
        intro w207 hw hS; replace hM := hM.ext hS; clear hw
        refine d_takef (i := 0) (L' := #[true, false, false, false, false, false, false, false, false, false, false]) rfl (by kernel_rfl) rfl (fun _ _ _ h => h) hA (by decide) (fun _ => hS) (fun a w' hA => run_field' Try.underlying39 rfl rfl Try.sizeOf36 (by decide) (hA.ev rfl)) ?_; clear hA; intro a hA
        refine rebase hS ?_; clear hS; intro hS
        refine d_take (i := 1) (L' := #[true, true, false, false, false, false, false, false, false, false, false]) rfl (by kernel_rfl) rfl (fun _ _ _ h => h) hA (by decide) rfl hS (fun a w' hA hS' => run_ld (hA.ev rfl) (run_loadS Try.isAgg36 ((At.seg1 (hM.box .z) 3 rfl).extB hS'))) ?_; clear hA; intro a hA
        refine d_takef (i := 2) (L' := #[true, true, true, false, false, false, false, false, false, false, false]) rfl (by kernel_rfl) rfl (fun _ _ _ h => h) hA (by decide) (fun _ => hS) (fun a w' hA => run_move (hA.ev rfl)) ?_; clear hA; intro a hA
        obtain ⟨⟨hi209, hj210⟩, H202⟩ := ite_some H202
        obtain ⟨ad211, hq212, hat213⟩ := Row.elem' (p := pStem) (hM.ro hr0_3) (Eq.refl a_0.Stems.length) Stem.z i201 hi209 hj210
        refine d_takef (i := 3) (L' := #[true, true, true, true, false, false, false, false, false, false, false]) rfl (by kernel_rfl) rfl (fun _ _ _ h => h) hA (by decide) (fun _ => hS) (fun a w' hA => run_idx Try.underlying36 Try.sizeOf61 (hA.ev rfl) hq212 (hA.ev rfl) hi209 hj210) ?_; clear hA; intro a hA
        refine d_take (i := 4) (L' := #[true, true, true, true, true, false, false, false, false, false, false]) rfl (by kernel_rfl) rfl (fun _ _ _ h => h) hA (by decide) rfl hS (fun a w' hA hS' => run_ld (hA.ev rfl) (run_loadP Try.isAgg61 Try.sizeOf61 ((hat213).extB hS'))) ?_; clear hA; intro a hA
        refine d_takef (i := 5) (L' := #[true, true, true, true, true, true, false, false, false, false, false]) rfl (by kernel_rfl) rfl (fun _ _ _ h => h) hA (by decide) (fun _ => hS) (fun a w' hA => run_field' Try.underlying39 rfl rfl Try.sizeOf36 (by decide) (hA.ev rfl)) ?_; clear hA; intro a hA
        refine d_take (i := 6) (L' := #[true, true, true, true, true, true, true, false, false, false, false]) rfl (by kernel_rfl) rfl (fun _ _ _ h => h) hA (by decide) rfl hS (fun a w' hA hS' => run_ld (hA.ev rfl) (run_loadS Try.isAgg36 ((At.seg1 (hM.box (.s .z)) 3 rfl).extB hS'))) ?_; clear hA; intro a hA
        refine d_takef (i := 7) (L' := #[true, true, true, true, true, true, true, true, false, false, false]) rfl (by kernel_rfl) rfl (fun _ _ _ h => h) hA (by decide) (fun _ => hS) (fun a w' hA => run_move (hA.ev rfl)) ?_; clear hA; intro a hA
        obtain ⟨⟨hi214, hj215⟩, H202⟩ := ite_some H202
        obtain ⟨ad216, hq217, hat218⟩ := Row.elem' (p := pStem) (hM.ro hr1_3) (Eq.refl b_1.Stems.length) Stem.z i201 hi214 hj215
        refine d_takef (i := 8) (L' := #[true, true, true, true, true, true, true, true, true, false, false]) rfl (by kernel_rfl) rfl (fun _ _ _ h => h) hA (by decide) (fun _ => hS) (fun a w' hA => run_idx Try.underlying36 Try.sizeOf61 (hA.ev rfl) hq217 (hA.ev rfl) hi214 hj215) ?_; clear hA; intro a hA
        refine d_take (i := 9) (L' := #[true, true, true, true, true, true, true, true, true, true, false]) rfl (by kernel_rfl) rfl (fun _ _ _ h => h) hA (by decide) rfl hS (fun a w' hA hS' => run_ld (hA.ev rfl) (run_loadP Try.isAgg61 Try.sizeOf61 ((hat218).extB hS'))) ?_; clear hA; intro a hA
        refine d_takef (i := 10) (L' := #[true, true, true, true, true, true, true, true, true, true, true]) rfl (by kernel_rfl) rfl (fun _ _ _ h => h) hA (by decide) (fun _ => hS) (fun a w' hA => run_aggneq eq_Stem rfl (by kernel_rfl) (hA.ev rfl) (hA.ev rfl)) ?_; clear hA; intro a hA
        refine d_done (by kernel_rfl) ?_
        refine TN ?_
        refine tcond (b := (!((a_0.Stems.getD i201.toNat Stem.z) == (b_1.Stems.getD i201.toNat Stem.z)))) hA rfl (fun hb219 => ?_) (fun hb219 => ?_)
        · replace H202 := ite_t hb219 H202
          refine wp_seq ?_
          refine wp_region_lit ?_
          refine L1 (stv hA (by decide) (run_assign (hA.ev rfl)) ?_)
          clear hA; intro a hA
          refine LQ ?_
          refine TN ?_
          refine wp_ret ?_
          obtain rfl := Option.some.inj H202
          dsimp only at H
          obtain rfl := Option.some.inj H
          refine BR ?_
          refine TR ?_
          refine TR ?_
          refine BR ?_
          refine TR ?_
          refine TR ?_
          exact ret_post1 (fn := Try.f17) hA rfl rfl ⟨_, rfl, rfl, (hM.sel [] rfl (by decide))⟩
        · replace H202 := ite_f hb219 H202
          refine wp_skip ?_
          refine BN ?_
          refine TN ?_
          refine wp_region_lit ?_
          refine L1 (stv hA (by decide) (run_move (hA.ev rfl)) ?_)
          clear hA; intro a hA
          refine L1 (stv hA (by decide) (run_bin (hA.ev rfl) (hA.ev rfl) (bin_add _ _ _ _)) ?_)
          clear hA; intro a hA
          refine L1 (stv hA (by decide) (run_assign (hA.ev rfl)) ?_)
          clear hA; intro a hA
          refine LQ ?_
          exact ⟨_, Nat.lt_succ_self m204, IntKind.i64.wrap (i201 + 1), H202, hM, (((hA.nil.cons (hA.get 5 _ rfl)).cons (hA.get 3 _ rfl)).cons (hA.get 2 _ rfl))⟩
      · replace H202 := ite_f hb206 H202
        refine wp_exit ?_
        refine TX ?_
        refine TX ?_
        refine BX ?_
        exact ⟨Option.some.inj H202, (hM.sel [] rfl (by decide)), hA.nil⟩
    clear hM hA
    rintro a w220 ⟨rfl, hM, hA⟩
    try dsimp only at H
    refine TN ?_
    refine wp_seq ?_
    refine wp_region_lit ?_
    refine L1 (stv hA (by decide) (run_assign (hA.ev rfl)) ?_)
    clear hA; intro a hA
    refine LQ ?_
    refine TN ?_
    refine wp_ret ?_
    obtain rfl := Option.some.inj H
    exact ret_post1 (fn := Try.f17) hA rfl rfl ⟨_, rfl, rfl, hM⟩

def relay_Due.l0 (now_1 : Int) (r2236 : Relay) : Nat → (List (Vector Int 32)) → Int → Option (Out ((List (Vector Int 32)) × Int) ((List (Vector Int 32))))
  | 0, _, _ => none
  | k + 1, xs3922, t3925 => (if (decide (t3925 < ((r2236.Stems.length : Nat) : Int))) = true then (if 0 ≤ t3925 ∧ t3925 < ((r2236.Stems.length : Nat) : Int) then (Option.bind (α := (List (Vector Int 32))) (if (decide (((r2236.Stems.getD t3925.toNat Stem.z).Due) ≤ now_1)) = true then (if (xs3922.length + 1) * 32 ≤ 140737488355328 then (some (xs3922 ++ [(r2236.Stems.getD t3925.toNat Stem.z).ID])) else none) else (some xs3922)) (fun xs3989 => (if (decide (((r2236.Stems.getD t3925.toNat Stem.z).Due) ≤ now_1)) = true then (some (.ret (xs3989, t3925))) else (relay_Due.l0 now_1 r2236 k xs3989 (IntKind.i64.wrap (t3925 + 1)))))) else none) else (some (.go xs3922)))
def relay_Due.l1 (now_1 : Int) (r2236 : Relay) : Nat → (List Stem) → (List (Vector Int 32)) → Int → Int → Option ((List Stem) × Int × (List (Vector Int 32)))
  | 0, _, _, _, _ => none
  | k + 1, xs4312, xs4317, i4319, j4321 => (if (decide (j4321 < ((r2236.Stems.length : Nat) : Int))) = true then (if 0 ≤ j4321 ∧ j4321 < ((r2236.Stems.length : Nat) : Int) then (Option.bind (α := (List (Vector Int 32))) (if (decide (((xs4312.getD j4321.toNat Stem.z).Due) ≤ now_1)) = true then (if (xs4317.length + 1) * 32 ≤ 140737488355328 then (some (xs4317 ++ [(xs4312.getD j4321.toNat Stem.z).ID])) else none) else (some xs4317)) (fun xs4391 => (Option.bind (α := (List Stem) × Int) (if (!(decide (((xs4312.getD j4321.toNat Stem.z).Due) ≤ now_1))) = true then (if 0 ≤ i4319 ∧ i4319 < ((r2236.Stems.length : Nat) : Int) then (some ((xs4312.set i4319.toNat (xs4312.getD j4321.toNat Stem.z)), IntKind.i64.wrap (i4319 + 1))) else none) else (some (xs4312, i4319))) (fun st => match st with | (xs4412, i4415) => (relay_Due.l1 now_1 r2236 k xs4412 xs4391 i4415 (IntKind.i64.wrap (j4321 + 1))))))) else none) else (some (xs4312, i4319, xs4317)))
def relay_Due.f (k : Nat) (r_0 : Relay) (now_1 : Int) : Option (Relay × (List (Vector Int 32))) := ((relay_clone.f k (Relay.mk r_0.Epoch r_0.Diffuse r_0.Routes r_0.Stems r_0.Fluffed)).bind fun r2236 => ((relay_sound.f k (Relay.mk r_0.Epoch r_0.Diffuse r_0.Routes r_0.Stems r_0.Fluffed)).bind fun r2251 => (if (!r2251) = true then (some ((Relay.mk r2236.Epoch r2236.Diffuse r2236.Routes r2236.Stems r2236.Fluffed), ([] : List (Vector Int 32)))) else (Option.bind (α := (List (Vector Int 32)) × (List Stem)) (Option.bind (α := (List (Vector Int 32)) × Int) (Option.bind (α := Out ((List (Vector Int 32)) × Int) ((List (Vector Int 32)))) (relay_Due.l0 now_1 r2236 k ([] : List (Vector Int 32)) 0) (fun o => match o with | .ret r => some r | .go xs3930 => (some (xs3930, (-1))))) (fun st => match st with | (xs3678, t3680) => (if (t3680 == (-1)) = true then (some (xs3678, r2236.Stems)) else (Option.bind (α := (List Stem) × Int × (List (Vector Int 32))) (relay_Due.l1 now_1 r2236 k r2236.Stems xs3678 t3680 (IntKind.i64.wrap (t3680 + 1))) (fun st => match st with | (xs4323, i4325, xs4329) => (if 0 ≤ i4325 ∧ i4325 ≤ ((r2236.Stems.length : Nat) : Int) then (if 0 ≤ i4325 ∧ i4325 ≤ ((r2236.Stems.length : Nat) : Int) then (some (xs4329, ((xs4323.take i4325.toNat ++ List.replicate (r2236.Stems.length - i4325.toNat) Stem.z).take i4325.toNat))) else none) else none)))))) (fun st => match st with | (xs3345, xs3350) => (Option.bind (α := Unit) (some ()) (fun _ => (some ((Relay.mk r2236.Epoch r2236.Diffuse r2236.Routes xs3350 r2236.Fluffed), xs3345)))))))))
set_option maxRecDepth 100000 in
theorem relay_Due.calls (k : Nat) (r_0 : Relay) (now_1 : Int) (F : List (Option Nat)) (v0_2 : Value) (v0_3 : Value) (v0_4 : Value) (r : (Relay × (List (Vector Int 32)))) (w0 : World) (h0_2 : RoV F (Pl.int .i64) w0 v0_2 r_0.Routes) (h0_3 : RoV F pStem w0 v0_3 r_0.Stems) (h0_4 : RoV F pHash w0 v0_4 r_0.Fluffed) (hM : Mem F w0 w0 []) (H : relay_Due.f k r_0 now_1 = some r) :
    Calls Try.prog 18 #[(.agg #[(.int .u32 r_0.Epoch), (.bool r_0.Diffuse), v0_2, v0_3, v0_4]), (.int .u32 now_1)] w0 fun e w' => ∃ v, e = .returned v ∧ ∃ (ur_0_2 : Value) (ur_0_3 : Value) (ur_0_4 : Value) (ur_1 : Value), v = (.tuple #[(.agg #[(.int .u32 r.1.Epoch), (.bool r.1.Diffuse), ur_0_2, ur_0_3, ur_0_4]), ur_1]) ∧ Mem F w0 w' [.row 3 (Pl.int .i64).sz ur_0_2 ((Pl.int .i64).flat r.1.Routes), .row 61 pStem.sz ur_0_3 (pStem.flat r.1.Stems), .row 34 pHash.sz ur_0_4 (pHash.flat r.1.Fluffed), .row 34 pHash.sz ur_1 (pHash.flat r.2)] := by
  unfold relay_Due.f at H
  obtain ⟨A0_2, c0_2, rfl, hr0_2, hc0_2⟩ := h0_2
  obtain ⟨A0_3, c0_3, rfl, hr0_3, hc0_3⟩ := h0_3
  obtain ⟨A0_4, c0_4, rfl, hr0_4, hc0_4⟩ := h0_4
  refine enterL (n := 22) [(.agg #[(.int .u32 r_0.Epoch), (.bool r_0.Diffuse), (.slice A0_2 r_0.Routes.length c0_2), (.slice A0_3 r_0.Stems.length c0_3), (.slice A0_4 r_0.Fluffed.length c0_4)]), (.int .u32 now_1)] Try.func18 rfl rfl rfl ?_
  intro a hA
  refine wp_seq ?_
  refine wp_region_lit ?_
  refine L1 (e_box (cs := [(.int .u32 r_0.Epoch), (.bool r_0.Diffuse), (.slice A0_2 r_0.Routes.length c0_2), (.slice A0_3 r_0.Stems.length c0_3), (.slice A0_4 r_0.Fluffed.length c0_4)]) hM hA rfl rfl (by decide) ?_)
  clear hM hA; intro w2226 g2225 hM hE  a hA
  refine L1 (e_box (cs := [(.int .u32 now_1)]) hM hA rfl rfl (by decide) ?_)
  clear hM hA; intro w2229 g2228 hM hE  a hA
  refine L1 (e_alloc (cs := [(.int .u32 0), (.bool false), (.slice none 0 0), (.slice none 0 0), (.slice none 0 0)]) hM zero39 rfl hA (by decide) ?_)
  clear hM hA; intro w2232 g2231 hM hE  a hA
  refine L1 (stv hA (by decide) (run_assign (hA.ev rfl)) ?_)
  clear hA; intro a hA
  refine LQ ?_
  refine TN ?_
  refine wp_seq ?_
  refine draw (fun w' => Below w2232.heap.size w2232 w') [4] rfl ?_
  intro w2234 hw hS; replace hM := hM.ext hS; clear hw
  refine rebase hS ?_; clear hS; intro hS
  refine d_take (i := 0) (L' := #[true, false, false, false, false, false]) rfl (by kernel_rfl) rfl (fun _ _ _ h => h) hA (by decide) rfl hS (fun a w' hA hS' => run_ld (hA.ev rfl) (run_loadW Try.isAgg39 Try.sizeOf39 (by simp [Pl.len]; try rfl) ((hM.box (.s (.s .z))).extB hS'))) ?_; clear hA; intro a hA
  refine d_take (i := 2) (L' := #[true, false, true, false, false, false]) rfl (by kernel_rfl) rfl (fun _ _ _ h => h) hA (by decide) rfl hS (fun a w' hA hS' => run_ld (hA.ev rfl) (run_loadW Try.isAgg39 Try.sizeOf39 (by simp [Pl.len]; try rfl) ((hM.box (.s (.s .z))).extB hS'))) ?_; clear hA; intro a hA
  obtain ⟨r2236, H2237, H⟩ := Option.bind_eq_some_iff.1 H
  refine d_one (i := 1) (L' := #[true, true, true, false, false, false]) (by kernel_rfl) rfl rfl (st_call Try.call32 hA [(.agg #[(.int .u32 r_0.Epoch), (.bool r_0.Diffuse), (.slice A0_2 r_0.Routes.length c0_2), (.slice A0_3 r_0.Stems.length c0_3), (.slice A0_4 r_0.Fluffed.length c0_4)])] rfl (by decide) (relay_clone.calls _ (Relay.mk r_0.Epoch r_0.Diffuse r_0.Routes r_0.Stems r_0.Fluffed) _ _ _ _ _ _ ((RoV.mk (hM.roC (Ms := []) hr0_2) (Eq.refl r_0.Routes.length) hc0_2)) ((RoV.mk (hM.roC (Ms := []) hr0_3) (Eq.refl r_0.Stems.length) hc0_3)) ((RoV.mk (hM.roC (Ms := []) hr0_4) (Eq.refl r_0.Fluffed.length) hc0_4)) (hM.front (Ms := [])) H2237) ?_)
  clear hA; rintro _ w2238 ⟨v2239, v2240, v2241, rfl, hMc⟩ a hA
  have hE := hMc.below; have hM := hM.call (Ms := []) hMc
  have hlw2242 : ∀ k, _ → w2234.heap.size ≤ k := fun k hk => Nat.le_trans hS.size ((hMc.low _ (List.Mem.head _) k hk).resolve_right (by simp))
  have hlw2243 : ∀ k, _ → w2234.heap.size ≤ k := fun k hk => Nat.le_trans hS.size ((hMc.low _ (List.Mem.tail _ (List.Mem.head _)) k hk).resolve_right (by simp))
  have hlw2244 : ∀ k, _ → w2234.heap.size ≤ k := fun k hk => Nat.le_trans hS.size ((hMc.low _ (List.Mem.tail _ (List.Mem.tail _ (List.Mem.head _))) k hk).resolve_right (by simp))
  clear hMc; simp only [List.cons_append, List.nil_append] at hM
  obtain ⟨A2245, c2246, rfl⟩ := RowOk.form (hM.row (p := (Pl.int .i64)) .z)
  obtain ⟨A2247, c2248, rfl⟩ := RowOk.form (hM.row (p := pStem) (.s .z))
  obtain ⟨A2249, c2250, rfl⟩ := RowOk.form (hM.row (p := pHash) (.s (.s .z)))
  replace hS := hS.trans (hE.mono hS.size)
  refine ⟨fun _ => hS, ?_⟩
  obtain ⟨r2251, H2252, H⟩ := Option.bind_eq_some_iff.1 H
  refine d_one (i := 3) (L' := #[true, true, true, true, false, false]) (by kernel_rfl) rfl rfl (st_call Try.call30 hA [(.agg #[(.int .u32 r_0.Epoch), (.bool r_0.Diffuse), (.slice A0_2 r_0.Routes.length c0_2), (.slice A0_3 r_0.Stems.length c0_3), (.slice A0_4 r_0.Fluffed.length c0_4)])] rfl (by decide) (relay_sound.calls _ (Relay.mk r_0.Epoch r_0.Diffuse r_0.Routes r_0.Stems r_0.Fluffed) _ _ _ _ _ _ ((RoV.mk (hM.roC (Ms := []) hr0_2) (Eq.refl r_0.Routes.length) hc0_2)) ((RoV.mk (hM.roC (Ms := []) hr0_3) (Eq.refl r_0.Stems.length) hc0_3)) ((RoV.mk (hM.roC (Ms := []) hr0_4) (Eq.refl r_0.Fluffed.length) hc0_4)) (hM.front (Ms := [])) H2252) ?_)
  clear hA; rintro _ w2253 ⟨rfl, hMc⟩ a hA
  have hE := hMc.below; have hM := hM.call (Ms := []) hMc
  clear hMc; simp only [List.cons_append, List.nil_append] at hM
  replace hS := hS.trans (hE.mono hS.size)
  refine ⟨fun _ => hS, ?_⟩
  refine d_one (i := 4) (L' := #[true, true, true, true, true, false]) (by kernel_rfl) rfl rfl (e_store (g := g2225) (off := 0) (cur := [(.int .u32 r_0.Epoch), (.bool r_0.Diffuse), (.slice A0_2 r_0.Routes.length c0_2), (.slice A0_3 r_0.Stems.length c0_3), (.slice A0_4 r_0.Fluffed.length c0_4)]) (cs' := [(.int .u32 r2236.Epoch), (.bool r2236.Diffuse), (.slice A2245 r2236.Routes.length c2246), (.slice A2247 r2236.Stems.length c2248), (.slice A2249 r2236.Fluffed.length c2250)]) hM (.s (.s (.s (.s (.s .z))))) Try.sizeOf39 hA rfl (by simp [add_mk]) rfl (by first | rfl | simp [Value.cells, Pl.len]) (by simp [Value.cells, Value.oneCell']) (by first | exact Nat.le_of_ble_eq_true rfl | (simp [Pl.len]; done)) (spl_all (by first | rfl | simp [Value.cells, Pl.len])) ?_)
  clear hM hA; intro w2254  hM hE  a hA
  refine ⟨fun h => absurd h (by decide), ?_⟩
  refine d_takef (i := 5) (L' := #[true, true, true, true, true, true]) rfl (by kernel_rfl) rfl (fun _ _ _ h => h) hA (by decide) (fun h => absurd h (by decide)) (fun a w' hA => run_assign (hA.ev rfl)) ?_; clear hA; intro a hA
  refine d_done (by kernel_rfl) ?_
  refine TN ?_
  refine wp_seq ?_
  refine wp_seq ?_
  refine wp_region_lit ?_
  refine L1 (stv hA (by decide) (run_move (hA.ev rfl)) ?_)
  clear hA; intro a hA
  refine L1 (stv hA (by decide) (run_not (hA.ev rfl)) ?_)
  clear hA; intro a hA
  refine LQ ?_
  refine TN ?_
  refine tcond (b := (!r2251)) hA rfl (fun hb2255 => ?_) (fun hb2255 => ?_)
  · replace H := ite_t hb2255 H
    refine wp_seq ?_
    refine wp_region_lit ?_
    refine L1 (stv hA (by decide) (run_ld (hA.ev rfl) (run_loadW Try.isAgg39 Try.sizeOf39 (by simp [Pl.len]; try rfl) (hM.box (.s (.s (.s (.s (.s .z)))))))) ?_)
    clear hA; intro a hA
    refine L1 (e_store (g := g2231) (off := 0) (cur := [(.int .u32 0), (.bool false), (.slice none 0 0), (.slice none 0 0), (.slice none 0 0)]) (cs' := [(.int .u32 r2236.Epoch), (.bool r2236.Diffuse), (.slice A2245 r2236.Routes.length c2246), (.slice A2247 r2236.Stems.length c2248), (.slice A2249 r2236.Fluffed.length c2250)]) hM (.s (.s (.s .z))) Try.sizeOf39 hA rfl (by simp [add_mk]) rfl (by first | rfl | simp [Value.cells, Pl.len]) (by simp [Value.cells, Value.oneCell']) (by first | exact Nat.le_of_ble_eq_true rfl | (simp [Pl.len]; done)) (spl_all (by first | rfl | simp [Value.cells, Pl.len])) ?_)
    clear hM hA; intro w2256  hM hE  a hA
    refine L1 (stv hA (by decide) (run_assign (hA.ev rfl)) ?_)
    clear hA; intro a hA
    refine LQ ?_
    refine TN ?_
    refine wp_ret ?_
    have hM := hM.addnil 34 (pHash).sz
    obtain rfl := Option.some.inj H
    refine TR ?_
    exact ret_mix2 (fn := Try.f18) hA rfl (RV.cell rfl (run_loadW Try.isAgg39 Try.sizeOf39 (by simp [Pl.len]; try rfl) (hM.box (.s (.s (.s (.s .z))))))) (RV.tmp rfl) ⟨_, rfl, (.slice A2245 r2236.Routes.length c2246), (.slice A2247 r2236.Stems.length c2248), (.slice A2249 r2236.Fluffed.length c2250), (.slice none 0 0), rfl, (hM.sel [1, 2, 3, 0] rfl (by decide))⟩
  · replace H := ite_f hb2255 H
    refine wp_skip ?_
    refine TN ?_
    refine wp_seq ?_
    refine wp_region_lit ?_
    refine L1 (e_alloc (cs := [(.slice none 0 0)]) hM zero37 rfl hA (by decide) ?_)
    clear hM hA; intro w2259 g2258 hM hE  a hA
    refine LQ ?_
    refine TN ?_
    refine wp_seq ?_
    refine wp_region_lit ?_
    refine L1 (stv hA (by decide) (run_field' Try.underlying39 rfl rfl Try.sizeOf36 (by decide) (hA.ev rfl)) ?_)
    clear hA; intro a hA
    refine L1 (stv hA (by decide) (run_ld (hA.ev rfl) (run_loadS Try.isAgg36 (At.seg1 (hM.box (.s (.s (.s (.s (.s (.s .z))))))) 3 rfl))) ?_)
    clear hA; intro a hA
    refine L1 (stv hA (by decide) (run_fn2 hA [(.pointer (some (⟨g2228, 0, none⟩))), (.pointer (some (⟨g2258, 0, none⟩)))] rfl) ?_)
    clear hA; intro a hA
    refine L1 (inl_call Try.call33 hA [(.slice A2247 r2236.Stems.length c2248), (.func (.func 38) #[] #[(.pointer (some (⟨g2228, 0, none⟩))), (.pointer (some (⟨g2258, 0, none⟩)))])] rfl (by decide) ?_)
    obtain ⟨o3352, H3351, H⟩ := Option.bind_eq_some_iff.1 H
    refine (show Calls Try.prog 33 _ w2259 (fun e w => ∃ v, e = .returned v ∧ ∃ (xs3345 : (List (Vector Int 32))) (xs3350 : (List Stem)) (v3342 : Value) (v3347 : Value), (xs3345, xs3350) = o3352 ∧ v = v3347 ∧ Mem F w0 w [.box g2225 39 [(.int .u32 r2236.Epoch), (.bool r2236.Diffuse), (.slice A2245 r2236.Routes.length c2246), (.slice A2247 r2236.Stems.length c2248), (.slice A2249 r2236.Fluffed.length c2250)], .row 3 (Pl.int .i64).sz (.slice A2245 r2236.Routes.length c2246) ((Pl.int .i64).flat r2236.Routes), .row 34 pHash.sz (.slice A2249 r2236.Fluffed.length c2250) (pHash.flat r2236.Fluffed), .box g2228 35 [(.int .u32 now_1)], .box g2231 39 [(.int .u32 0), (.bool false), (.slice none 0 0), (.slice none 0 0), (.slice none 0 0)], .box g2258 37 [v3342], .row 34 pHash.sz v3342 (pHash.flat xs3345), .row 61 pStem.sz v3347 (pStem.flat xs3350)]) from ?_).mono ?_
    · refine enterL (n := 42) [(.slice A2247 r2236.Stems.length c2248), (.func (.func 38) #[] #[(.pointer (some (⟨g2228, 0, none⟩))), (.pointer (some (⟨g2258, 0, none⟩)))])] Try.func33 rfl rfl rfl ?_
      clear hA; intro a hA
      refine wp_seq ?_
      refine wp_region_lit ?_
      refine L1 (stv hA (by decide) (run_assign (hA.ev rfl)) ?_)
      clear hA; intro a hA
      refine LQ ?_
      refine TN ?_
      refine wp_seq ?_
      refine wp_region_lit ?_
      refine L1 (stv hA (by decide) (run_move (hA.ev rfl)) ?_)
      clear hA; intro a hA
      refine L1 (stv hA (by decide) (run_move (hA.ev rfl)) ?_)
      clear hA; intro a hA
      refine L1 (inl_call Try.call48 hA [(.slice A2247 r2236.Stems.length c2248), (.func (.func 38) #[] #[(.pointer (some (⟨g2228, 0, none⟩))), (.pointer (some (⟨g2258, 0, none⟩)))])] rfl (by decide) ?_)
      obtain ⟨o3682, H3681, H3351⟩ := Option.bind_eq_some_iff.1 H3351
      refine (show Calls Try.prog 48 _ w2259 (fun e w => ∃ v, e = .returned v ∧ ∃ (xs3678 : (List (Vector Int 32))) (t3680 : Int) (v3675 : Value), (xs3678, t3680) = o3682 ∧ v = (.int .i64 t3680) ∧ Mem F w0 w [.row 61 pStem.sz (.slice A2247 r2236.Stems.length c2248) (pStem.flat r2236.Stems), .box g2228 35 [(.int .u32 now_1)], .box g2258 37 [v3675], .row 34 pHash.sz v3675 (pHash.flat xs3678), .box g2225 39 [(.int .u32 r2236.Epoch), (.bool r2236.Diffuse), (.slice A2245 r2236.Routes.length c2246), (.slice A2247 r2236.Stems.length c2248), (.slice A2249 r2236.Fluffed.length c2250)], .row 3 (Pl.int .i64).sz (.slice A2245 r2236.Routes.length c2246) ((Pl.int .i64).flat r2236.Routes), .row 34 pHash.sz (.slice A2249 r2236.Fluffed.length c2250) (pHash.flat r2236.Fluffed), .box g2231 39 [(.int .u32 0), (.bool false), (.slice none 0 0), (.slice none 0 0), (.slice none 0 0)]]) from ?_).mono ?_
      · refine enterL (n := 19) [(.slice A2247 r2236.Stems.length c2248), (.func (.func 38) #[] #[(.pointer (some (⟨g2228, 0, none⟩))), (.pointer (some (⟨g2258, 0, none⟩)))])] Try.func48 rfl rfl rfl ?_
        clear hA; intro a hA
        refine wp_seq ?_
        refine wp_region_lit ?_
        refine L1 (stv hA (by decide) (run_assign (hA.ev rfl)) ?_)
        clear hA; intro a hA
        refine LQ ?_
        refine TN ?_
        refine wp_seq ?_
        refine wp_seq ?_
        refine wp_region_lit ?_
        refine L1 (stv hA (by decide) (run_move (hA.ev rfl)) ?_)
        clear hA; intro a hA
        refine L1 (stv hA (by decide) (run_len_slice Try.underlying36 (hA.ev rfl)) ?_)
        clear hA; intro a hA
        refine L1 (stv hA (by decide) (run_move (hA.ev rfl)) ?_)
        clear hA; intro a hA
        refine LQ ?_
        refine TN ?_
        obtain ⟨o3932, H3931, H3681⟩ := Option.bind_eq_some_iff.1 H3681
        refine cutC (fun a w => ∃ (xs3930 : (List (Vector Int 32))) (v3927 : Value), (.go xs3930) = o3932 ∧ Mem F w0 w [.box g2258 37 [v3927], .row 34 pHash.sz v3927 (pHash.flat xs3930), .box g2228 35 [(.int .u32 now_1)], .row 61 pStem.sz (.slice A2247 r2236.Stems.length c2248) (pStem.flat r2236.Stems), .box g2225 39 [(.int .u32 r2236.Epoch), (.bool r2236.Diffuse), (.slice A2245 r2236.Routes.length c2246), (.slice A2247 r2236.Stems.length c2248), (.slice A2249 r2236.Fluffed.length c2250)], .row 3 (Pl.int .i64).sz (.slice A2245 r2236.Routes.length c2246) ((Pl.int .i64).flat r2236.Routes), .row 34 pHash.sz (.slice A2249 r2236.Fluffed.length c2250) (pHash.flat r2236.Fluffed), .box g2231 39 [(.int .u32 0), (.bool false), (.slice none 0 0), (.slice none 0 0), (.slice none 0 0)]] ∧ Has 19 [] a) ?_ ?_
        · refine wp_block ?_
          have hM := hM.addnil 34 (pHash).sz
          refine wp_loop_ghost (fun m a w => ∃ (xs3922 : (List (Vector Int 32))) (t3925 : Int) (v3919 : Value), relay_Due.l0 now_1 r2236 m xs3922 t3925 = some o3932 ∧ Mem F w0 w [.row 61 pStem.sz (.slice A2247 r2236.Stems.length c2248) (pStem.flat r2236.Stems), .box g2228 35 [(.int .u32 now_1)], .box g2258 37 [v3919], .row 34 pHash.sz v3919 (pHash.flat xs3922), .box g2225 39 [(.int .u32 r2236.Epoch), (.bool r2236.Diffuse), (.slice A2245 r2236.Routes.length c2246), (.slice A2247 r2236.Stems.length c2248), (.slice A2249 r2236.Fluffed.length c2250)], .row 3 (Pl.int .i64).sz (.slice A2245 r2236.Routes.length c2246) ((Pl.int .i64).flat r2236.Routes), .row 34 pHash.sz (.slice A2249 r2236.Fluffed.length c2250) (pHash.flat r2236.Fluffed), .box g2231 39 [(.int .u32 0), (.bool false), (.slice none 0 0), (.slice none 0 0), (.slice none 0 0)]] ∧ Has 19 [(0, (.slice A2247 r2236.Stems.length c2248)), (1, (.func (.func 38) #[] #[(.pointer (some (⟨g2228, 0, none⟩))), (.pointer (some (⟨g2258, 0, none⟩)))])), (7, (.int .i64 ((r2236.Stems.length : Nat) : Int))), (8, (.int .i64 t3925))] a) k ⟨([] : List (Vector Int 32)), 0, (.slice none 0 0), H3931, (hM.sel [3, 6, 1, 0, 7, 2, 4, 5] rfl (by decide)), ((((hA.nil.cons (hA.get 8 _ rfl)).cons (hA.get 7 _ rfl)).cons (hA.get 1 _ rfl)).cons (hA.get 0 _ rfl))⟩ ?_
          clear hM hA; rintro m3934 a w3935 ⟨xs3922, t3925, v3919, H3931, hM, hA⟩
          cases m3934 with
          | zero => exact absurd H3931 (by simp [relay_Due.l0])
          | succ m3934 =>
          rw [relay_Due.l0] at H3931
          obtain ⟨A3920, c3921, rfl⟩ := RowOk.form (hM.row (p := pHash) (.s (.s (.s .z))))
          refine wp_seq ?_
          refine wp_region_lit ?_
          refine L1 (stv hA (by decide) (run_bin (hA.ev rfl) (hA.ev rfl) (bin_lss _ _ _ _)) ?_)
          clear hA; intro a hA
          refine LQ ?_
          refine TN ?_
          refine wp_seq ?_
          refine tcond (b := (decide (t3925 < ((r2236.Stems.length : Nat) : Int)))) hA rfl (fun hb3936 => ?_) (fun hb3936 => ?_)
          · replace H3931 := ite_t hb3936 H3931
            refine wp_skip ?_
            refine TN ?_
            refine wp_seq ?_
            refine wp_block ?_
            refine wp_seq ?_
            refine wp_region_lit ?_
            refine L1 (stv hA (by decide) (run_move (hA.ev rfl)) ?_)
            clear hA; intro a hA
            refine L1 (stv hA (by decide) (run_assign (hA.ev rfl)) ?_)
            clear hA; intro a hA
            refine LQ ?_
            refine TN ?_
            refine wp_seq ?_
            refine wp_region_lit ?_
            refine L1 (stv hA (by decide) (run_move (hA.ev rfl)) ?_)
            clear hA; intro a hA
            refine L1 (stv hA (by decide) (run_move (hA.ev rfl)) ?_)
            clear hA; intro a hA
            refine L1 (stv hA (by decide) (run_move (hA.ev rfl)) ?_)
            clear hA; intro a hA
            obtain ⟨⟨hi3937, hj3938⟩, H3931⟩ := ite_some H3931
            obtain ⟨ad3939, hq3940, hat3941⟩ := Row.elem' (p := pStem) (RowOk.row (hM.row (p := pStem) .z)) (RowOk.len (hM.row (p := pStem) .z)) Stem.z t3925 hi3937 hj3938
            refine L1 (stv hA (by decide) (run_idx Try.underlying36 Try.sizeOf61 (hA.ev rfl) hq3940 (hA.ev rfl) hi3937 hj3938) ?_)
            clear hA; intro a hA
            refine L1 (stv hA (by decide) (run_ld (hA.ev rfl) (run_loadP Try.isAgg61 Try.sizeOf61 hat3941)) ?_)
            clear hA; intro a hA
            refine L1 (inl_callv (caps := [(.pointer (some (⟨g2228, 0, none⟩))), (.pointer (some (⟨g2258, 0, none⟩)))]) Try.call38 hA rfl [(.agg (pStem.enc (r2236.Stems.getD t3925.toNat Stem.z)).toArray)] rfl (by decide) ?_)
            refine enterL (n := 18) [(.agg (pStem.enc (r2236.Stems.getD t3925.toNat Stem.z)).toArray), (.pointer (some (⟨g2228, 0, none⟩))), (.pointer (some (⟨g2258, 0, none⟩)))] Try.func38 rfl rfl rfl ?_
            clear hA; intro a hA
            refine wp_seq ?_
            refine wp_region_lit ?_
            refine L1 (e_box (cs := (pStem.enc (r2236.Stems.getD t3925.toNat Stem.z))) hM hA rfl rfl (by decide) ?_)
            clear hM hA; intro w3973 g3972 hM hE  a hA
            refine L1 (stv hA (by decide) (run_assign (hA.ev rfl)) ?_)
            clear hA; intro a hA
            refine LQ ?_
            refine TN ?_
            refine wp_seq ?_
            refine wp_seq ?_
            refine wp_region_lit ?_
            refine L1 (stv hA (by decide) (run_field' Try.underlying61 rfl rfl Try.sizeOf35 (by decide) (hA.ev rfl)) ?_)
            clear hA; intro a hA
            refine L1 (stv hA (by decide) (run_ld (hA.ev rfl) (run_loadS Try.isAgg35 (Stem.at_Due (hM.box .z)))) ?_)
            clear hA; intro a hA
            refine L1 (stv hA (by decide) (run_ld (hA.ev rfl) (run_loadS Try.isAgg35 (hM.box (.s (.s .z))))) ?_)
            clear hA; intro a hA
            refine L1 (stv hA (by decide) (run_bin (hA.ev rfl) (hA.ev rfl) (bin_leq _ _ _ _)) ?_)
            clear hA; intro a hA
            refine LQ ?_
            refine TN ?_
            obtain ⟨o3991, H3990, H3931⟩ := Option.bind_eq_some_iff.1 H3931
            refine cutC (fun a w => ∃ (xs3989 : (List (Vector Int 32))) (v3986 : Value), xs3989 = o3991 ∧ Mem F w0 w [.box g2228 35 [(.int .u32 now_1)], .box g3972 61 (pStem.enc (r2236.Stems.getD t3925.toNat Stem.z)), .row 61 pStem.sz (.slice A2247 r2236.Stems.length c2248) (pStem.flat r2236.Stems), .box g2258 37 [v3986], .row 34 pHash.sz v3986 (pHash.flat xs3989), .box g2225 39 [(.int .u32 r2236.Epoch), (.bool r2236.Diffuse), (.slice A2245 r2236.Routes.length c2246), (.slice A2247 r2236.Stems.length c2248), (.slice A2249 r2236.Fluffed.length c2250)], .row 3 (Pl.int .i64).sz (.slice A2245 r2236.Routes.length c2246) ((Pl.int .i64).flat r2236.Routes), .row 34 pHash.sz (.slice A2249 r2236.Fluffed.length c2250) (pHash.flat r2236.Fluffed), .box g2231 39 [(.int .u32 0), (.bool false), (.slice none 0 0), (.slice none 0 0), (.slice none 0 0)]] ∧ Has 18 [(1, (.pointer (some (⟨g2228, 0, none⟩)))), (3, (.pointer (some (⟨g3972, 0, none⟩))))] a) ?_ ?_
            · refine tcond (b := (decide (((r2236.Stems.getD t3925.toNat Stem.z).Due) ≤ now_1))) hA rfl (fun hb3992 => ?_) (fun hb3992 => ?_)
              · replace H3990 := ite_t hb3992 H3990
                refine wp_region_lit ?_
                refine L1 (stv hA (by decide) (run_ld (hA.ev rfl) (run_loadS Try.isAgg37 (hM.box (.s (.s (.s .z)))))) ?_)
                clear hA; intro a hA
                refine L1 (stv hA (by decide) (run_field' Try.underlying61 rfl rfl Try.sizeOf34 (by decide) (hA.ev rfl)) ?_)
                clear hA; intro a hA
                refine L1 (stv hA (by decide) (run_ld (hA.ev rfl) (run_loadP Try.isAgg34 Try.sizeOf34 (Stem.at_ID (hM.box .z)))) ?_)
                clear hA; intro a hA
                refine L1 (e_litN [(r2236.Stems.getD t3925.toNat Stem.z).ID] [(.agg (pHash.enc ((r2236.Stems.getD t3925.toNat Stem.z).ID)).toArray)] elt37 hM rfl (by decide) hA rfl rfl (List.cons_ne_nil _ _) (by decide) ?_)
                clear hM hA; intro w3994 g3993 hM hE  a hA
                obtain ⟨hl3998, H3990⟩ := ite_some H3990
                refine L1 (e_append elt37 hM (fun _ => (.s (.s (.s (.s (.s .z)))))) (Src.row Try.underlying37 (RowOk.row (hM.row (p := pHash) .z)) (RowOk.len (hM.row (p := pHash) .z))) hl3998 hA rfl rfl (by decide) ?_)
                clear hM hA; intro w3999 A3996 c3997 hM hE  a hA
                refine L1 (e_store (g := g2258) (off := 0) (cur := [(.slice A3920 xs3922.length c3921)]) (cs' := [(.slice A3996 (xs3922.length + 1) c3997)]) hM (.s (.s (.s (.s .z)))) Try.sizeOf37 hA rfl (by simp [add_mk]) rfl (by first | rfl | simp [Value.cells, Pl.len]) (one_val rfl) (by first | exact Nat.le_of_ble_eq_true rfl | (simp [Pl.len]; done)) (spl_all (by first | rfl | simp [Value.cells, Pl.len])) ?_)
                clear hM hA; intro w4000  hM hE  a hA
                refine LQ ?_
                exact ⟨(xs3922 ++ [(r2236.Stems.getD t3925.toNat Stem.z).ID]), (.slice A3996 (xs3922.length + 1) c3997), Option.some.inj H3990, (hM.sel [3, 1, 2, 4, 5, 6, 7, 8, 9] rfl (by decide)), ((hA.nil.cons (hA.get 3 _ rfl)).cons (hA.get 1 _ rfl))⟩
              · replace H3990 := ite_f hb3992 H3990
                refine wp_skip ?_
                exact ⟨xs3922, (.slice A3920 xs3922.length c3921), Option.some.inj H3990, (hM.sel [2, 0, 1, 3, 4, 5, 6, 7, 8] rfl (by decide)), ((hA.nil.cons (hA.get 3 _ rfl)).cons (hA.get 1 _ rfl))⟩
            clear hM hA
            rintro a w4001 ⟨xs3989, v3986, rfl, hM, hA⟩
            try dsimp only at H3931
            obtain ⟨A3987, c3988, rfl⟩ := RowOk.form (hM.row (p := pHash) (.s (.s (.s (.s .z)))))
            refine TN ?_
            refine wp_seq ?_
            refine wp_region_lit ?_
            refine L1 (stv hA (by decide) (run_field' Try.underlying61 rfl rfl Try.sizeOf35 (by decide) (hA.ev rfl)) ?_)
            clear hA; intro a hA
            refine L1 (stv hA (by decide) (run_ld (hA.ev rfl) (run_loadS Try.isAgg35 (Stem.at_Due (hM.box (.s .z))))) ?_)
            clear hA; intro a hA
            refine L1 (stv hA (by decide) (run_ld (hA.ev rfl) (run_loadS Try.isAgg35 (hM.box .z))) ?_)
            clear hA; intro a hA
            refine L1 (stv hA (by decide) (run_bin (hA.ev rfl) (hA.ev rfl) (bin_leq _ _ _ _)) ?_)
            clear hA; intro a hA
            refine L1 (stv hA (by decide) (run_assign (hA.ev rfl)) ?_)
            clear hA; intro a hA
            refine LQ ?_
            refine TN ?_
            refine wp_ret ?_
            refine ret_post1 (fn := Try.f38) hA rfl rfl ⟨_, rfl, ?_⟩; clear hA; intro a hA
            refine LQ ?_
            refine TN ?_
            refine tcond (b := (decide (((r2236.Stems.getD t3925.toNat Stem.z).Due) ≤ now_1))) hA rfl (fun hb4002 => ?_) (fun hb4002 => ?_)
            · replace H3931 := ite_t hb4002 H3931
              refine wp_seq ?_
              refine wp_region_lit ?_
              refine L1 (stv hA (by decide) (run_move (hA.ev rfl)) ?_)
              clear hA; intro a hA
              refine L1 (stv hA (by decide) (run_assign (hA.ev rfl)) ?_)
              clear hA; intro a hA
              refine LQ ?_
              refine TN ?_
              refine wp_ret ?_
              obtain rfl := Option.some.inj H3931
              dsimp only at H3681
              obtain rfl := Option.some.inj H3681
              refine BR ?_
              refine TR ?_
              refine TR ?_
              refine BR ?_
              refine TR ?_
              refine TR ?_
              exact ret_post1 (fn := Try.f48) hA rfl rfl ⟨_, rfl, xs3989, t3925, (.slice A3987 xs3989.length c3988), rfl, rfl, (hM.sel [2, 0, 3, 4, 5, 6, 7, 8] rfl (by decide))⟩
            · replace H3931 := ite_f hb4002 H3931
              refine wp_skip ?_
              refine BN ?_
              refine TN ?_
              refine wp_region_lit ?_
              refine L1 (stv hA (by decide) (run_bin (hA.ev rfl) (hA.ev rfl) (bin_add _ _ _ _)) ?_)
              clear hA; intro a hA
              refine L1 (stv hA (by decide) (run_move (hA.ev rfl)) ?_)
              clear hA; intro a hA
              refine LQ ?_
              exact ⟨_, Nat.lt_succ_self m3934, xs3989, IntKind.i64.wrap (t3925 + 1), (.slice A3987 xs3989.length c3988), H3931, (hM.sel [2, 0, 3, 4, 5, 6, 7, 8] rfl (by decide)), ((((hA.nil.cons (hA.get 8 _ rfl)).cons (hA.get 7 _ rfl)).cons (hA.get 1 _ rfl)).cons (hA.get 0 _ rfl))⟩
          · replace H3931 := ite_f hb3936 H3931
            refine wp_exit ?_
            refine TX ?_
            refine TX ?_
            refine BX ?_
            exact ⟨xs3922, (.slice A3920 xs3922.length c3921), Option.some.inj H3931, (hM.sel [2, 3, 1, 0, 4, 5, 6, 7] rfl (by decide)), hA.nil⟩
        clear hM hA
        rintro a w4003 ⟨xs3930, v3927, rfl, hM, hA⟩
        try dsimp only at H3681
        obtain ⟨A3928, c3929, rfl⟩ := RowOk.form (hM.row (p := pHash) (.s .z))
        refine TN ?_
        refine wp_seq ?_
        refine wp_region_lit ?_
        refine L1 (stv hA (by decide) (run_assign (hA.ev rfl)) ?_)
        clear hA; intro a hA
        refine LQ ?_
        refine TN ?_
        refine wp_ret ?_
        obtain rfl := Option.some.inj H3681
        exact ret_post1 (fn := Try.f48) hA rfl rfl ⟨_, rfl, xs3930, (-1), (.slice A3928 xs3930.length c3929), rfl, rfl, (hM.sel [3, 2, 0, 1, 4, 5, 6, 7] rfl (by decide))⟩
      rintro e w4004 ⟨_, rfl, ⟨xs3678, t3680, v3675, rfl, rfl, hM⟩⟩
      refine ⟨_, rfl, ?_⟩; clear hA; intro a hA; try dsimp only at H3351
      obtain ⟨A3676, c3677, rfl⟩ := RowOk.form (hM.row (p := pHash) (.s (.s (.s .z))))
      refine L1 (stv hA (by decide) (run_assign (hA.ev rfl)) ?_)
      clear hA; intro a hA
      refine LQ ?_
      refine TN ?_
      refine wp_seq ?_
      refine wp_seq ?_
      refine wp_region_lit ?_
      refine L1 (stv hA (by decide) (run_move (hA.ev rfl)) ?_)
      clear hA; intro a hA
      refine L1 (stv hA (by decide) (run_bin (hA.ev rfl) (hA.ev rfl) (bin_eql _ _ _ _)) ?_)
      clear hA; intro a hA
      refine LQ ?_
      refine TN ?_
      refine tcond (b := (t3680 == (-1))) hA rfl (fun hb4005 => ?_) (fun hb4005 => ?_)
      · replace H3351 := ite_t hb4005 H3351
        refine wp_seq ?_
        refine wp_region_lit ?_
        refine L1 (stv hA (by decide) (run_move (hA.ev rfl)) ?_)
        clear hA; intro a hA
        refine L1 (stv hA (by decide) (run_assign (hA.ev rfl)) ?_)
        clear hA; intro a hA
        refine LQ ?_
        refine TN ?_
        refine wp_ret ?_
        obtain rfl := Option.some.inj H3351
        refine TR ?_
        exact ret_post1 (fn := Try.f33) hA rfl rfl ⟨_, rfl, xs3678, r2236.Stems, (.slice A3676 xs3678.length c3677), (.slice A2247 r2236.Stems.length c2248), rfl, rfl, (hM.sel [4, 5, 6, 1, 7, 2, 3, 0] rfl (by decide))⟩
      · replace H3351 := ite_f hb4005 H3351
        refine wp_skip ?_
        refine TN ?_
        refine wp_seq ?_
        refine wp_seq ?_
        refine wp_region_lit ?_
        refine L1 (stv hA (by decide) (run_move (hA.ev rfl)) ?_)
        clear hA; intro a hA
        refine L1 (stv hA (by decide) (run_bin (hA.ev rfl) (hA.ev rfl) (bin_add _ _ _ _)) ?_)
        clear hA; intro a hA
        refine L1 (stv hA (by decide) (run_assign (hA.ev rfl)) ?_)
        clear hA; intro a hA
        refine LQ ?_
        refine TN ?_
        obtain ⟨o4331, H4330, H3351⟩ := Option.bind_eq_some_iff.1 H3351
        refine cutC (fun a w => ∃ (xs4323 : (List Stem)) (i4325 : Int) (xs4329 : (List (Vector Int 32))) (v4326 : Value), (xs4323, i4325, xs4329) = o4331 ∧ Mem F w0 w [.row 61 pStem.sz (.slice A2247 r2236.Stems.length c2248) (pStem.flat xs4323), .box g2225 39 [(.int .u32 r2236.Epoch), (.bool r2236.Diffuse), (.slice A2245 r2236.Routes.length c2246), (.slice A2247 r2236.Stems.length c2248), (.slice A2249 r2236.Fluffed.length c2250)], .row 3 (Pl.int .i64).sz (.slice A2245 r2236.Routes.length c2246) ((Pl.int .i64).flat r2236.Routes), .row 34 pHash.sz (.slice A2249 r2236.Fluffed.length c2250) (pHash.flat r2236.Fluffed), .box g2258 37 [v4326], .row 34 pHash.sz v4326 (pHash.flat xs4329), .box g2231 39 [(.int .u32 0), (.bool false), (.slice none 0 0), (.slice none 0 0), (.slice none 0 0)], .box g2228 35 [(.int .u32 now_1)]] ∧ Has 42 [(0, (.slice A2247 r2236.Stems.length c2248)), (5, (.int .i64 i4325))] a) ?_ ?_
        · refine wp_block ?_
          refine wp_loop_ghost (fun m a w => ∃ (xs4312 : (List Stem)) (xs4317 : (List (Vector Int 32))) (i4319 : Int) (j4321 : Int) (v4314 : Value), relay_Due.l1 now_1 r2236 m xs4312 xs4317 i4319 j4321 = some o4331 ∧ Mem F w0 w [.row 61 pStem.sz (.slice A2247 r2236.Stems.length c2248) (pStem.flat xs4312), .box g2228 35 [(.int .u32 now_1)], .box g2258 37 [v4314], .row 34 pHash.sz v4314 (pHash.flat xs4317), .box g2225 39 [(.int .u32 r2236.Epoch), (.bool r2236.Diffuse), (.slice A2245 r2236.Routes.length c2246), (.slice A2247 r2236.Stems.length c2248), (.slice A2249 r2236.Fluffed.length c2250)], .row 3 (Pl.int .i64).sz (.slice A2245 r2236.Routes.length c2246) ((Pl.int .i64).flat r2236.Routes), .row 34 pHash.sz (.slice A2249 r2236.Fluffed.length c2250) (pHash.flat r2236.Fluffed), .box g2231 39 [(.int .u32 0), (.bool false), (.slice none 0 0), (.slice none 0 0), (.slice none 0 0)]] ∧ Has 42 [(0, (.slice A2247 r2236.Stems.length c2248)), (1, (.func (.func 38) #[] #[(.pointer (some (⟨g2228, 0, none⟩))), (.pointer (some (⟨g2258, 0, none⟩)))])), (5, (.int .i64 i4319)), (6, (.int .i64 j4321))] a) k ⟨r2236.Stems, xs3678, t3680, IntKind.i64.wrap (t3680 + 1), (.slice A3676 xs3678.length c3677), H4330, hM, ((((hA.nil.cons (hA.get 6 _ rfl)).cons (hA.get 5 _ rfl)).cons (hA.get 1 _ rfl)).cons (hA.get 0 _ rfl))⟩ ?_
          clear hM hA; rintro m4332 a w4333 ⟨xs4312, xs4317, i4319, j4321, v4314, H4330, hM, hA⟩
          cases m4332 with
          | zero => exact absurd H4330 (by simp [relay_Due.l1])
          | succ m4332 =>
          rw [relay_Due.l1] at H4330
          obtain ⟨A4315, c4316, rfl⟩ := RowOk.form (hM.row (p := pHash) (.s (.s (.s .z))))
          refine wp_seq ?_
          refine wp_seq ?_
          refine wp_region_lit ?_
          refine L1 (stv hA (by decide) (run_move (hA.ev rfl)) ?_)
          clear hA; intro a hA
          refine L1 (stv hA (by decide) (run_move (hA.ev rfl)) ?_)
          clear hA; intro a hA
          refine L1 (stv hA (by decide) (run_len_slice Try.underlying36 (hA.ev rfl)) ?_)
          clear hA; intro a hA
          refine L1 (stv hA (by decide) (run_bin (hA.ev rfl) (hA.ev rfl) (bin_lss _ _ _ _)) ?_)
          clear hA; intro a hA
          refine LQ ?_
          refine TN ?_
          refine tcond (b := (decide (j4321 < ((r2236.Stems.length : Nat) : Int)))) hA rfl (fun hb4334 => ?_) (fun hb4334 => ?_)
          · replace H4330 := ite_t hb4334 H4330
            refine wp_skip ?_
            refine TN ?_
            refine wp_seq ?_
            refine wp_block ?_
            refine wp_seq ?_
            refine wp_region_lit ?_
            refine L1 (stv hA (by decide) (run_move (hA.ev rfl)) ?_)
            clear hA; intro a hA
            refine L1 (stv hA (by decide) (run_move (hA.ev rfl)) ?_)
            clear hA; intro a hA
            obtain ⟨⟨hi4335, hj4336⟩, H4330⟩ := ite_some H4330
            obtain ⟨ad4337, hq4338, hat4339⟩ := Row.elem' (p := pStem) (RowOk.row (hM.row (p := pStem) .z)) (RowOk.len (hM.row (p := pStem) .z)) Stem.z j4321 hi4335 hj4336
            refine L1 (stv hA (by decide) (run_idx Try.underlying36 Try.sizeOf61 (hA.ev rfl) hq4338 (hA.ev rfl) hi4335 hj4336) ?_)
            clear hA; intro a hA
            refine L1 (stv hA (by decide) (run_ld (hA.ev rfl) (run_loadP Try.isAgg61 Try.sizeOf61 hat4339)) ?_)
            clear hA; intro a hA
            refine L1 (e_alloc (cs := (pStem.enc Stem.z)) hM zero61 rfl hA (by decide) ?_)
            clear hM hA; intro w4341 g4340 hM hE  a hA
            refine L1 (e_store (g := g4340) (off := 0) (cur := (pStem.enc Stem.z)) (cs' := (pStem.enc (xs4312.getD j4321.toNat Stem.z))) hM .z Try.sizeOf61 hA rfl (by simp [add_mk]) rfl (agg_size _ _) (agg_one _ _) (Nat.le_of_ble_eq_true (enc_fitL _ _ rfl)) (spl_all (by first | rfl | simp [Value.cells, Pl.len])) ?_)
            clear hM hA; intro w4343  hM hE  a hA
            refine LQ ?_
            refine TN ?_
            refine wp_seq ?_
            refine wp_region_lit ?_
            refine L1 (stv hA (by decide) (run_move (hA.ev rfl)) ?_)
            clear hA; intro a hA
            refine L1 (stv hA (by decide) (run_ld (hA.ev rfl) (run_loadP Try.isAgg61 Try.sizeOf61 (hM.box .z))) ?_)
            clear hA; intro a hA
            refine L1 (inl_callv (caps := [(.pointer (some (⟨g2228, 0, none⟩))), (.pointer (some (⟨g2258, 0, none⟩)))]) Try.call38 hA rfl [(.agg (pStem.enc (xs4312.getD j4321.toNat Stem.z)).toArray)] rfl (by decide) ?_)
            refine enterL (n := 18) [(.agg (pStem.enc (xs4312.getD j4321.toNat Stem.z)).toArray), (.pointer (some (⟨g2228, 0, none⟩))), (.pointer (some (⟨g2258, 0, none⟩)))] Try.func38 rfl rfl rfl ?_
            clear hA; intro a hA
            refine wp_seq ?_
            refine wp_region_lit ?_
            refine L1 (e_box (cs := (pStem.enc (xs4312.getD j4321.toNat Stem.z))) hM hA rfl rfl (by decide) ?_)
            clear hM hA; intro w4375 g4374 hM hE  a hA
            refine L1 (stv hA (by decide) (run_assign (hA.ev rfl)) ?_)
            clear hA; intro a hA
            refine LQ ?_
            refine TN ?_
            refine wp_seq ?_
            refine wp_seq ?_
            refine wp_region_lit ?_
            refine L1 (stv hA (by decide) (run_field' Try.underlying61 rfl rfl Try.sizeOf35 (by decide) (hA.ev rfl)) ?_)
            clear hA; intro a hA
            refine L1 (stv hA (by decide) (run_ld (hA.ev rfl) (run_loadS Try.isAgg35 (Stem.at_Due (hM.box .z)))) ?_)
            clear hA; intro a hA
            refine L1 (stv hA (by decide) (run_ld (hA.ev rfl) (run_loadS Try.isAgg35 (hM.box (.s (.s (.s .z)))))) ?_)
            clear hA; intro a hA
            refine L1 (stv hA (by decide) (run_bin (hA.ev rfl) (hA.ev rfl) (bin_leq _ _ _ _)) ?_)
            clear hA; intro a hA
            refine LQ ?_
            refine TN ?_
            obtain ⟨o4393, H4392, H4330⟩ := Option.bind_eq_some_iff.1 H4330
            refine cutC (fun a w => ∃ (xs4391 : (List (Vector Int 32))) (v4388 : Value), xs4391 = o4393 ∧ Mem F w0 w [.box g2228 35 [(.int .u32 now_1)], .box g4374 61 (pStem.enc (xs4312.getD j4321.toNat Stem.z)), .box g4340 61 (pStem.enc (xs4312.getD j4321.toNat Stem.z)), .row 61 pStem.sz (.slice A2247 r2236.Stems.length c2248) (pStem.flat xs4312), .box g2258 37 [v4388], .row 34 pHash.sz v4388 (pHash.flat xs4391), .box g2225 39 [(.int .u32 r2236.Epoch), (.bool r2236.Diffuse), (.slice A2245 r2236.Routes.length c2246), (.slice A2247 r2236.Stems.length c2248), (.slice A2249 r2236.Fluffed.length c2250)], .row 3 (Pl.int .i64).sz (.slice A2245 r2236.Routes.length c2246) ((Pl.int .i64).flat r2236.Routes), .row 34 pHash.sz (.slice A2249 r2236.Fluffed.length c2250) (pHash.flat r2236.Fluffed), .box g2231 39 [(.int .u32 0), (.bool false), (.slice none 0 0), (.slice none 0 0), (.slice none 0 0)]] ∧ Has 18 [(1, (.pointer (some (⟨g2228, 0, none⟩)))), (3, (.pointer (some (⟨g4374, 0, none⟩))))] a) ?_ ?_
            · refine tcond (b := (decide (((xs4312.getD j4321.toNat Stem.z).Due) ≤ now_1))) hA rfl (fun hb4394 => ?_) (fun hb4394 => ?_)
              · replace H4392 := ite_t hb4394 H4392
                refine wp_region_lit ?_
                refine L1 (stv hA (by decide) (run_ld (hA.ev rfl) (run_loadS Try.isAgg37 (hM.box (.s (.s (.s (.s .z))))))) ?_)
                clear hA; intro a hA
                refine L1 (stv hA (by decide) (run_field' Try.underlying61 rfl rfl Try.sizeOf34 (by decide) (hA.ev rfl)) ?_)
                clear hA; intro a hA
                refine L1 (stv hA (by decide) (run_ld (hA.ev rfl) (run_loadP Try.isAgg34 Try.sizeOf34 (Stem.at_ID (hM.box .z)))) ?_)
                clear hA; intro a hA
                refine L1 (e_litN [(xs4312.getD j4321.toNat Stem.z).ID] [(.agg (pHash.enc ((xs4312.getD j4321.toNat Stem.z).ID)).toArray)] elt37 hM rfl (by decide) hA rfl rfl (List.cons_ne_nil _ _) (by decide) ?_)
                clear hM hA; intro w4396 g4395 hM hE  a hA
                obtain ⟨hl4400, H4392⟩ := ite_some H4392
                refine L1 (e_append elt37 hM (fun _ => (.s (.s (.s (.s (.s (.s .z))))))) (Src.row Try.underlying37 (RowOk.row (hM.row (p := pHash) .z)) (RowOk.len (hM.row (p := pHash) .z))) hl4400 hA rfl rfl (by decide) ?_)
                clear hM hA; intro w4401 A4398 c4399 hM hE  a hA
                refine L1 (e_store (g := g2258) (off := 0) (cur := [(.slice A4315 xs4317.length c4316)]) (cs' := [(.slice A4398 (xs4317.length + 1) c4399)]) hM (.s (.s (.s (.s (.s .z))))) Try.sizeOf37 hA rfl (by simp [add_mk]) rfl (by first | rfl | simp [Value.cells, Pl.len]) (one_val rfl) (by first | exact Nat.le_of_ble_eq_true rfl | (simp [Pl.len]; done)) (spl_all (by first | rfl | simp [Value.cells, Pl.len])) ?_)
                clear hM hA; intro w4402  hM hE  a hA
                refine LQ ?_
                exact ⟨(xs4317 ++ [(xs4312.getD j4321.toNat Stem.z).ID]), (.slice A4398 (xs4317.length + 1) c4399), Option.some.inj H4392, (hM.sel [4, 1, 2, 3, 5, 6, 7, 8, 9, 10] rfl (by decide)), ((hA.nil.cons (hA.get 3 _ rfl)).cons (hA.get 1 _ rfl))⟩
              · replace H4392 := ite_f hb4394 H4392
                refine wp_skip ?_
                exact ⟨xs4317, (.slice A4315 xs4317.length c4316), Option.some.inj H4392, (hM.sel [3, 0, 1, 2, 4, 5, 6, 7, 8, 9] rfl (by decide)), ((hA.nil.cons (hA.get 3 _ rfl)).cons (hA.get 1 _ rfl))⟩
            clear hM hA
            rintro a w4403 ⟨xs4391, v4388, rfl, hM, hA⟩
            try dsimp only at H4330
            obtain ⟨A4389, c4390, rfl⟩ := RowOk.form (hM.row (p := pHash) (.s (.s (.s (.s (.s .z))))))
            refine TN ?_
            refine wp_seq ?_
            refine wp_region_lit ?_
            refine L1 (stv hA (by decide) (run_field' Try.underlying61 rfl rfl Try.sizeOf35 (by decide) (hA.ev rfl)) ?_)
            clear hA; intro a hA
            refine L1 (stv hA (by decide) (run_ld (hA.ev rfl) (run_loadS Try.isAgg35 (Stem.at_Due (hM.box (.s .z))))) ?_)
            clear hA; intro a hA
            refine L1 (stv hA (by decide) (run_ld (hA.ev rfl) (run_loadS Try.isAgg35 (hM.box .z))) ?_)
            clear hA; intro a hA
            refine L1 (stv hA (by decide) (run_bin (hA.ev rfl) (hA.ev rfl) (bin_leq _ _ _ _)) ?_)
            clear hA; intro a hA
            refine L1 (stv hA (by decide) (run_assign (hA.ev rfl)) ?_)
            clear hA; intro a hA
            refine LQ ?_
            refine TN ?_
            refine wp_ret ?_
            refine ret_post1 (fn := Try.f38) hA rfl rfl ⟨_, rfl, ?_⟩; clear hA; intro a hA
            refine L1 (stv hA (by decide) (run_not (hA.ev rfl)) ?_)
            clear hA; intro a hA
            refine LQ ?_
            refine TN ?_
            obtain ⟨o4418, H4417, H4330⟩ := Option.bind_eq_some_iff.1 H4330
            refine cutC (fun a w => ∃ (xs4412 : (List Stem)) (i4415 : Int), (xs4412, i4415) = o4418 ∧ Mem F w0 w [.row 61 pStem.sz (.slice A2247 r2236.Stems.length c2248) (pStem.flat xs4412), .box g2228 35 [(.int .u32 now_1)], .box g2258 37 [(.slice A4389 xs4391.length c4390)], .row 34 pHash.sz (.slice A4389 xs4391.length c4390) (pHash.flat xs4391), .box g2225 39 [(.int .u32 r2236.Epoch), (.bool r2236.Diffuse), (.slice A2245 r2236.Routes.length c2246), (.slice A2247 r2236.Stems.length c2248), (.slice A2249 r2236.Fluffed.length c2250)], .row 3 (Pl.int .i64).sz (.slice A2245 r2236.Routes.length c2246) ((Pl.int .i64).flat r2236.Routes), .row 34 pHash.sz (.slice A2249 r2236.Fluffed.length c2250) (pHash.flat r2236.Fluffed), .box g2231 39 [(.int .u32 0), (.bool false), (.slice none 0 0), (.slice none 0 0), (.slice none 0 0)]] ∧ Has 42 [(0, (.slice A2247 r2236.Stems.length c2248)), (1, (.func (.func 38) #[] #[(.pointer (some (⟨g2228, 0, none⟩))), (.pointer (some (⟨g2258, 0, none⟩)))])), (5, (.int .i64 i4415)), (6, (.int .i64 j4321))] a) ?_ ?_
            · refine tcond (b := (!(decide (((xs4312.getD j4321.toNat Stem.z).Due) ≤ now_1)))) hA rfl (fun hb4419 => ?_) (fun hb4419 => ?_)
              · replace H4417 := ite_t hb4419 H4417
                refine wp_seq ?_
                refine wp_region_lit ?_
                refine L1 (stv hA (by decide) (run_move (hA.ev rfl)) ?_)
                clear hA; intro a hA
                refine L1 (stv hA (by decide) (run_move (hA.ev rfl)) ?_)
                clear hA; intro a hA
                refine L1 (stv hA (by decide) (run_ld (hA.ev rfl) (run_loadP Try.isAgg61 Try.sizeOf61 (hM.box (.s (.s .z))))) ?_)
                clear hA; intro a hA
                obtain ⟨⟨hi4420, hj4421⟩, H4417⟩ := ite_some H4417
                obtain ⟨ad4422, hq4423, hat4424⟩ := Row.elem' (p := pStem) (RowOk.row (hM.row (p := pStem) (.s (.s (.s .z))))) (RowOk.len (hM.row (p := pStem) (.s (.s (.s .z))))) Stem.z i4319 hi4420 hj4421
                refine L1 (stv hA (by decide) (run_idx Try.underlying36 Try.sizeOf61 (hA.ev rfl) hq4423 (hA.ev rfl) hi4420 hj4421) ?_)
                clear hA; intro a hA
                refine L1 (e_setrow (x1 := (xs4312.getD i4319.toNat Stem.z)) (y1 := (xs4312.getD j4321.toNat Stem.z)) (off := 0) hM (.s (.s (.s .z))) Try.sizeOf61 hA rfl rfl hq4423 rfl (agg_size _ _) (agg_one _ _) hi4420 hj4421 (getD_getD _ _ _) (by decide) (spl_all (by first | rfl | simp [Value.cells, Pl.len] | (simp only [Value.cells, Pl.len, List.length_cons, List.length_nil]; done))) ?_)
                clear hM hA; intro w4425  hM hE  a hA
                refine LQ ?_
                refine TN ?_
                refine wp_region_lit ?_
                refine L1 (stv hA (by decide) (run_move (hA.ev rfl)) ?_)
                clear hA; intro a hA
                refine L1 (stv hA (by decide) (run_bin (hA.ev rfl) (hA.ev rfl) (bin_add _ _ _ _)) ?_)
                clear hA; intro a hA
                refine L1 (stv hA (by decide) (run_assign (hA.ev rfl)) ?_)
                clear hA; intro a hA
                refine LQ ?_
                exact ⟨(xs4312.set i4319.toNat (xs4312.getD j4321.toNat Stem.z)), IntKind.i64.wrap (i4319 + 1), Option.some.inj H4417, (hM.sel [3, 0, 4, 5, 6, 7, 8, 9] rfl (by decide)), ((((hA.nil.cons (hA.get 6 _ rfl)).cons (hA.get 5 _ rfl)).cons (hA.get 1 _ rfl)).cons (hA.get 0 _ rfl))⟩
              · replace H4417 := ite_f hb4419 H4417
                refine wp_skip ?_
                exact ⟨xs4312, i4319, Option.some.inj H4417, (hM.sel [3, 0, 4, 5, 6, 7, 8, 9] rfl (by decide)), ((((hA.nil.cons (hA.get 6 _ rfl)).cons (hA.get 5 _ rfl)).cons (hA.get 1 _ rfl)).cons (hA.get 0 _ rfl))⟩
            clear hM hA
            rintro a w4426 ⟨xs4412, i4415, rfl, hM, hA⟩
            try dsimp only at H4330
            refine BN ?_
            refine TN ?_
            refine wp_region_lit ?_
            refine L1 (stv hA (by decide) (run_move (hA.ev rfl)) ?_)
            clear hA; intro a hA
            refine L1 (stv hA (by decide) (run_bin (hA.ev rfl) (hA.ev rfl) (bin_add _ _ _ _)) ?_)
            clear hA; intro a hA
            refine L1 (stv hA (by decide) (run_assign (hA.ev rfl)) ?_)
            clear hA; intro a hA
            refine LQ ?_
            exact ⟨_, Nat.lt_succ_self m4332, xs4412, xs4391, i4415, IntKind.i64.wrap (j4321 + 1), (.slice A4389 xs4391.length c4390), H4330, hM, ((((hA.nil.cons (hA.get 6 _ rfl)).cons (hA.get 5 _ rfl)).cons (hA.get 1 _ rfl)).cons (hA.get 0 _ rfl))⟩
          · replace H4330 := ite_f hb4334 H4330
            refine wp_exit ?_
            refine TX ?_
            refine TX ?_
            refine BX ?_
            exact ⟨xs4312, i4319, xs4317, (.slice A4315 xs4317.length c4316), Option.some.inj H4330, (hM.sel [0, 4, 5, 6, 2, 3, 7, 1] rfl (by decide)), ((hA.nil.cons (hA.get 5 _ rfl)).cons (hA.get 0 _ rfl))⟩
        clear hM hA
        rintro a w4427 ⟨xs4323, i4325, xs4329, v4326, rfl, hM, hA⟩
        try dsimp only at H3351
        obtain ⟨A4327, c4328, rfl⟩ := RowOk.form (hM.row (p := pHash) (.s (.s (.s (.s (.s .z))))))
        refine TN ?_
        refine wp_seq ?_
        refine wp_region_lit ?_
        refine L1 (stv hA (by decide) (run_move (hA.ev rfl)) ?_)
        clear hA; intro a hA
        refine L1 (stv hA (by decide) (run_move (hA.ev rfl)) ?_)
        clear hA; intro a hA
        obtain ⟨⟨hi4428, hj4429⟩, H3351⟩ := ite_some H3351
        refine L1 (stv hA (by decide) (run_lo Try.underlying36 Try.sizeOf61 (RowOk.cap (hM.row (p := pStem) .z)) hi4428 hj4429 (hA.ev rfl) (hA.ev rfl)) ?_)
        clear hA; intro a hA
        refine L1 (e_clear (lo := i4325.toNat) elt36 rfl hM .z (by omega) hA rfl ?_)
        clear hM hA; intro w4430  hM hE  a hA
        refine LQ ?_
        refine TN ?_
        refine wp_seq ?_
        refine wp_region_lit ?_
        refine L1 (stv hA (by decide) (run_move (hA.ev rfl)) ?_)
        clear hA; intro a hA
        refine L1 (stv hA (by decide) (run_move (hA.ev rfl)) ?_)
        clear hA; intro a hA
        obtain ⟨⟨hi4431, hj4432⟩, H3351⟩ := ite_some H3351
        refine L1 (stv hA (by decide) (run_hi Try.underlying36 Try.sizeOf61 (RowOk.cap (hM.row (p := pStem) .z)) hi4431 hj4432 (hA.ev rfl) (hA.ev rfl)) ?_)
        clear hA; intro a hA
        refine L1 (stv hA (by decide) (run_assign (hA.ev rfl)) ?_)
        clear hA; intro a hA
        refine LQ ?_
        refine TN ?_
        refine wp_ret ?_
        obtain rfl := Option.some.inj H3351
        have hM := hM.re (y := .row 61 pStem.sz (.slice A2247 i4325.toNat c2248) (pStem.flat ((xs4323.take i4325.toNat ++ List.replicate (r2236.Stems.length - i4325.toNat) Stem.z).take i4325.toNat))) .z (fun h => RowOk.cuthi h (by omega)) (key_hi _ _ _ _ _)
        exact ret_post1 (fn := Try.f33) hA rfl rfl ⟨_, rfl, xs4329, ((xs4323.take i4325.toNat ++ List.replicate (r2236.Stems.length - i4325.toNat) Stem.z).take i4325.toNat), (.slice A4327 xs4329.length c4328), (.slice A2247 i4325.toNat c2248), rfl, rfl, (hM.sel [1, 2, 3, 7, 6, 4, 5, 0] rfl (by decide))⟩
    rintro e w4433 ⟨_, rfl, ⟨xs3345, xs3350, v3342, v3347, rfl, rfl, hM⟩⟩
    refine ⟨_, rfl, ?_⟩; clear hA; intro a hA; try dsimp only at H
    obtain ⟨A3343, c3344, rfl⟩ := RowOk.form (hM.row (p := pHash) (.s (.s (.s (.s (.s (.s .z)))))))
    obtain ⟨A3348, c3349, rfl⟩ := RowOk.form (hM.row (p := pStem) (.s (.s (.s (.s (.s (.s (.s .z))))))))
    refine L1 (stv hA (by decide) (run_field' Try.underlying39 rfl rfl Try.sizeOf36 (by decide) (hA.ev rfl)) ?_)
    clear hA; intro a hA
    refine L1 (e_store (g := g2225) (off := 3) (cur := [(.int .u32 r2236.Epoch), (.bool r2236.Diffuse), (.slice A2245 r2236.Routes.length c2246), (.slice A2247 r2236.Stems.length c2248), (.slice A2249 r2236.Fluffed.length c2250)]) (cs' := [(.int .u32 r2236.Epoch), (.bool r2236.Diffuse), (.slice A2245 r2236.Routes.length c2246), (.slice A3348 xs3350.length c3349), (.slice A2249 r2236.Fluffed.length c2250)]) hM .z Try.sizeOf36 hA rfl (by simp [add_mk]) rfl (by first | rfl | simp [Value.cells, Pl.len]) (one_val rfl) (by first | exact Nat.le_of_ble_eq_true rfl | (simp [Pl.len]; done)) (rfl) ?_)
    clear hM hA; intro w4434  hM hE  a hA
    refine LQ ?_
    refine TN ?_
    refine wp_seq ?_
    obtain ⟨o4443, H4442, H⟩ := Option.bind_eq_some_iff.1 H
    refine cutC (fun a w => () = o4443 ∧ Mem F w0 w [.box g2231 39 [(.int .u32 r2236.Epoch), (.bool r2236.Diffuse), (.slice A2245 r2236.Routes.length c2246), (.slice A3348 xs3350.length c3349), (.slice A2249 r2236.Fluffed.length c2250)], .row 3 (Pl.int .i64).sz (.slice A2245 r2236.Routes.length c2246) ((Pl.int .i64).flat r2236.Routes), .row 61 pStem.sz (.slice A3348 xs3350.length c3349) (pStem.flat xs3350), .row 34 pHash.sz (.slice A2249 r2236.Fluffed.length c2250) (pHash.flat r2236.Fluffed), .row 34 pHash.sz (.slice A3343 xs3345.length c3344) (pHash.flat xs3345)] ∧ Has 22 [(4, (.pointer (some (⟨g2231, 0, none⟩)))), (5, (.slice A3343 xs3345.length c3344))] a) ?_ ?_
    · refine draw (fun w' => Below w4434.heap.size w4434 w') [2] rfl ?_
      intro w4446 hw hS; replace hM := hM.ext hS; clear hw
      refine rebase hS ?_; clear hS; intro hS
      refine d_take (i := 0) (L' := #[true, false, false, false]) rfl (by kernel_rfl) rfl (fun _ _ _ h => h) hA (by decide) rfl hS (fun a w' hA hS' => run_ld (hA.ev rfl) (run_loadW Try.isAgg39 Try.sizeOf39 (by simp [Pl.len]; try rfl) ((hM.box .z).extB hS'))) ?_; clear hA; intro a hA
      refine d_many (is := [1, 2]) (by kernel_rfl) (by decide) ⟨?_, ?_, trivial⟩
      · refine d_op (i := 1) (L' := #[true, true, false, false]) rfl rfl (stv hA (by decide) (run_ld (hA.ev rfl) (run_loadS Try.isAgg37 (hM.box (.s (.s (.s (.s (.s .z)))))))) ?_)
        clear hA; intro a hA
        refine ⟨fun _ => hS, ?_⟩
        refine d_one (i := 2) (L' := #[true, true, true, false]) (by kernel_rfl) rfl rfl (e_store (g := g2231) (off := 0) (cur := [(.int .u32 0), (.bool false), (.slice none 0 0), (.slice none 0 0), (.slice none 0 0)]) (cs' := [(.int .u32 r2236.Epoch), (.bool r2236.Diffuse), (.slice A2245 r2236.Routes.length c2246), (.slice A3348 xs3350.length c3349), (.slice A2249 r2236.Fluffed.length c2250)]) hM (.s (.s (.s (.s .z)))) Try.sizeOf39 hA rfl (by simp [add_mk]) rfl (by first | rfl | simp [Value.cells, Pl.len]) (by simp [Value.cells, Value.oneCell']) (by first | exact Nat.le_of_ble_eq_true rfl | (simp [Pl.len]; done)) (spl_all (by first | rfl | simp [Value.cells, Pl.len])) ?_)
        clear hM hA; intro w4447  hM hE  a hA
        refine ⟨fun h => absurd h (by decide), ?_⟩
        refine d_takef (i := 3) (L' := #[true, true, true, true]) rfl (by kernel_rfl) rfl (fun _ _ _ h => h) hA (by decide) (fun h => absurd h (by decide)) (fun a w' hA => run_assign (hA.ev rfl)) ?_; clear hA; intro a hA
        refine d_done (by kernel_rfl) ?_
        exact ⟨Option.some.inj H4442, (hM.sel [4, 1, 7, 2, 6] rfl (by decide)), ((hA.nil.cons (hA.get 5 _ rfl)).cons (hA.get 4 _ rfl))⟩
      · refine d_op (i := 2) (L' := #[true, false, true, false]) rfl rfl (e_store (g := g2231) (off := 0) (cur := [(.int .u32 0), (.bool false), (.slice none 0 0), (.slice none 0 0), (.slice none 0 0)]) (cs' := [(.int .u32 r2236.Epoch), (.bool r2236.Diffuse), (.slice A2245 r2236.Routes.length c2246), (.slice A3348 xs3350.length c3349), (.slice A2249 r2236.Fluffed.length c2250)]) hM (.s (.s (.s (.s .z)))) Try.sizeOf39 hA rfl (by simp [add_mk]) rfl (by first | rfl | simp [Value.cells, Pl.len]) (by simp [Value.cells, Value.oneCell']) (by first | exact Nat.le_of_ble_eq_true rfl | (simp [Pl.len]; done)) (spl_all (by first | rfl | simp [Value.cells, Pl.len])) ?_)
        clear hM hA; intro w4448  hM hE  a hA
        refine ⟨fun h => absurd h (by decide), ?_⟩
        refine d_one (i := 1) (L' := #[true, true, true, false]) (by kernel_rfl) rfl rfl (stv hA (by decide) (run_ld (hA.ev rfl) (run_loadS Try.isAgg37 (hM.box (.s (.s (.s (.s (.s .z)))))))) ?_)
        clear hA; intro a hA
        refine ⟨fun h => absurd h (by decide), ?_⟩
        refine d_takef (i := 3) (L' := #[true, true, true, true]) rfl (by kernel_rfl) rfl (fun _ _ _ h => h) hA (by decide) (fun h => absurd h (by decide)) (fun a w' hA => run_assign (hA.ev rfl)) ?_; clear hA; intro a hA
        refine d_done (by kernel_rfl) ?_
        exact ⟨Option.some.inj H4442, (hM.sel [4, 1, 7, 2, 6] rfl (by decide)), ((hA.nil.cons (hA.get 5 _ rfl)).cons (hA.get 4 _ rfl))⟩
    clear hM hA
    rintro a w4449 ⟨rfl, hM, hA⟩
    try dsimp only at H
    refine TN ?_
    refine wp_ret ?_
    obtain rfl := Option.some.inj H
    exact ret_mix2 (fn := Try.f18) hA rfl (RV.cell rfl (run_loadW Try.isAgg39 Try.sizeOf39 (by simp [Pl.len]; try rfl) (hM.box .z))) (RV.tmp rfl) ⟨_, rfl, (.slice A2245 r2236.Routes.length c2246), (.slice A3348 xs3350.length c3349), (.slice A2249 r2236.Fluffed.length c2250), (.slice A3343 xs3345.length c3344), rfl, (hM.sel [1, 2, 3, 4] rfl (by decide))⟩

def ref40_Due.l0 (r_0 : Relay) (now_1 : Int) : Nat → (List Stem) → (List (Vector Int 32)) → Int → Option ((List Stem) × (List (Vector Int 32)))
  | 0, _, _, _ => none
  | k + 1, xs783, xs789, i791 => (if (decide (i791 < ((r_0.Stems.length : Nat) : Int))) = true then (if 0 ≤ i791 ∧ i791 < ((r_0.Stems.length : Nat) : Int) then (Option.bind (α := (List Stem) × (List (Vector Int 32))) (if (decide (((r_0.Stems.getD i791.toNat Stem.z).Due) ≤ now_1)) = true then (if 0 ≤ i791 ∧ i791 < ((r_0.Stems.length : Nat) : Int) then (if (xs789.length + 1) * 32 ≤ 140737488355328 then (some (xs783, (xs789 ++ [(r_0.Stems.getD i791.toNat Stem.z).ID]))) else none) else none) else (if 0 ≤ i791 ∧ i791 < ((r_0.Stems.length : Nat) : Int) then (if (xs783.length + 1) * 56 ≤ 140737488355328 then (some ((xs783 ++ [(r_0.Stems.getD i791.toNat Stem.z)]), xs789)) else none) else none)) (fun st => match st with | (xs854, xs859) => (ref40_Due.l0 r_0 now_1 k xs854 xs859 (IntKind.i64.wrap (i791 + 1))))) else none) else (some (xs783, xs789)))
def ref40_Due.f (k : Nat) (r_0 : Relay) (now_1 : Int) : Option (Relay × (List (Vector Int 32))) := ((ref40_Copied.f k (Relay.mk r_0.Epoch r_0.Diffuse r_0.Routes r_0.Stems r_0.Fluffed)).bind fun r454 => ((ref40_Sound.f k (Relay.mk r_0.Epoch r_0.Diffuse r_0.Routes r_0.Stems r_0.Fluffed)).bind fun r473 => (if (!r473) = true then (some ((Relay.mk r454.Epoch r454.Diffuse r454.Routes r454.Stems r454.Fluffed), ([] : List (Vector Int 32)))) else (Option.bind (α := (List Stem) × (List (Vector Int 32))) (ref40_Due.l0 r_0 now_1 k ([] : List Stem) ([] : List (Vector Int 32)) 0) (fun st => match st with | (xs798, xs804) => (some ((Relay.mk r454.Epoch r454.Diffuse r454.Routes xs798 r454.Fluffed), xs804)))))))
set_option maxRecDepth 100000 in
theorem ref40_Due.calls (k : Nat) (r_0 : Relay) (now_1 : Int) (F : List (Option Nat)) (v0_2 : Value) (v0_3 : Value) (v0_4 : Value) (r : (Relay × (List (Vector Int 32)))) (w0 : World) (h0_2 : RoV F (Pl.int .i64) w0 v0_2 r_0.Routes) (h0_3 : RoV F pStem w0 v0_3 r_0.Stems) (h0_4 : RoV F pHash w0 v0_4 r_0.Fluffed) (hM : Mem F w0 w0 []) (H : ref40_Due.f k r_0 now_1 = some r) :
    Calls Try.prog 19 #[(.agg #[(.int .u32 r_0.Epoch), (.bool r_0.Diffuse), v0_2, v0_3, v0_4]), (.int .u32 now_1)] w0 fun e w' => ∃ v, e = .returned v ∧ ∃ (ur_0_2 : Value) (ur_0_3 : Value) (ur_0_4 : Value) (ur_1 : Value), v = (.tuple #[(.agg #[(.int .u32 r.1.Epoch), (.bool r.1.Diffuse), ur_0_2, ur_0_3, ur_0_4]), ur_1]) ∧ Mem F w0 w' [.row 3 (Pl.int .i64).sz ur_0_2 ((Pl.int .i64).flat r.1.Routes), .row 61 pStem.sz ur_0_3 (pStem.flat r.1.Stems), .row 34 pHash.sz ur_0_4 (pHash.flat r.1.Fluffed), .row 34 pHash.sz ur_1 (pHash.flat r.2)] := by
  unfold ref40_Due.f at H
  obtain ⟨A0_2, c0_2, rfl, hr0_2, hc0_2⟩ := h0_2
  obtain ⟨A0_3, c0_3, rfl, hr0_3, hc0_3⟩ := h0_3
  obtain ⟨A0_4, c0_4, rfl, hr0_4, hc0_4⟩ := h0_4
  refine enterL (n := 52) [(.agg #[(.int .u32 r_0.Epoch), (.bool r_0.Diffuse), (.slice A0_2 r_0.Routes.length c0_2), (.slice A0_3 r_0.Stems.length c0_3), (.slice A0_4 r_0.Fluffed.length c0_4)]), (.int .u32 now_1)] Try.func19 rfl rfl rfl ?_
  intro a hA
  refine wp_seq ?_
  refine wp_region_lit ?_
  refine L1 (e_box (cs := [(.int .u32 r_0.Epoch), (.bool r_0.Diffuse), (.slice A0_2 r_0.Routes.length c0_2), (.slice A0_3 r_0.Stems.length c0_3), (.slice A0_4 r_0.Fluffed.length c0_4)]) hM hA rfl rfl (by decide) ?_)
  clear hM hA; intro w449 g448 hM hE  a hA
  refine L1 (e_alloc (cs := [(.int .u32 0), (.bool false), (.slice none 0 0), (.slice none 0 0), (.slice none 0 0)]) hM zero39 rfl hA (by decide) ?_)
  clear hM hA; intro w452 g451 hM hE  a hA
  refine L1 (stv hA (by decide) (run_assign (hA.ev rfl)) ?_)
  clear hA; intro a hA
  refine LQ ?_
  refine TN ?_
  refine wp_seq ?_
  refine wp_region_lit ?_
  refine L1 (stv hA (by decide) (run_ld (hA.ev rfl) (run_loadW Try.isAgg39 Try.sizeOf39 (by simp [Pl.len]; try rfl) (hM.box (.s .z)))) ?_)
  clear hA; intro a hA
  obtain ⟨r454, H455, H⟩ := Option.bind_eq_some_iff.1 H
  refine L1 (st_call Try.call29 hA [(.agg #[(.int .u32 r_0.Epoch), (.bool r_0.Diffuse), (.slice A0_2 r_0.Routes.length c0_2), (.slice A0_3 r_0.Stems.length c0_3), (.slice A0_4 r_0.Fluffed.length c0_4)])] rfl (by decide) (ref40_Copied.calls _ (Relay.mk r_0.Epoch r_0.Diffuse r_0.Routes r_0.Stems r_0.Fluffed) _ _ _ _ _ _ ((RoV.mk (hM.roC (Ms := []) hr0_2) (Eq.refl r_0.Routes.length) hc0_2)) ((RoV.mk (hM.roC (Ms := []) hr0_3) (Eq.refl r_0.Stems.length) hc0_3)) ((RoV.mk (hM.roC (Ms := []) hr0_4) (Eq.refl r_0.Fluffed.length) hc0_4)) (hM.front (Ms := [])) H455) ?_)
  clear hA; rintro _ w456 ⟨v457, v458, v459, rfl, hMc⟩ a hA
  have hE := hMc.below; have hM := hM.call (Ms := []) hMc
  clear hMc; simp only [List.cons_append, List.nil_append] at hM
  obtain ⟨A461, c462, rfl⟩ := RowOk.form (hM.row (p := (Pl.int .i64)) .z)
  obtain ⟨A464, c465, rfl⟩ := RowOk.form (hM.row (p := pStem) (.s .z))
  obtain ⟨A467, c468, rfl⟩ := RowOk.form (hM.row (p := pHash) (.s (.s .z)))
  refine L1 (e_alloc (cs := [(.int .u32 0), (.bool false), (.slice none 0 0), (.slice none 0 0), (.slice none 0 0)]) hM zero39 rfl hA (by decide) ?_)
  clear hM hA; intro w470 g469 hM hE  a hA
  refine L1 (e_store (g := g469) (off := 0) (cur := [(.int .u32 0), (.bool false), (.slice none 0 0), (.slice none 0 0), (.slice none 0 0)]) (cs' := [(.int .u32 r454.Epoch), (.bool r454.Diffuse), (.slice A461 r454.Routes.length c462), (.slice A464 r454.Stems.length c465), (.slice A467 r454.Fluffed.length c468)]) hM .z Try.sizeOf39 hA rfl (by simp [add_mk]) rfl (by first | rfl | simp [Value.cells, Pl.len]) (by simp [Value.cells, Value.oneCell']) (by first | exact Nat.le_of_ble_eq_true rfl | (simp [Pl.len]; done)) (spl_all (by first | rfl | simp [Value.cells, Pl.len])) ?_)
  clear hM hA; intro w472  hM hE  a hA
  refine LQ ?_
  refine TN ?_
  refine wp_seq ?_
  refine wp_seq ?_
  refine wp_region_lit ?_
  refine L1 (stv hA (by decide) (run_ld (hA.ev rfl) (run_loadW Try.isAgg39 Try.sizeOf39 (by simp [Pl.len]; try rfl) (hM.box (.s (.s (.s (.s (.s .z)))))))) ?_)
  clear hA; intro a hA
  obtain ⟨r473, H474, H⟩ := Option.bind_eq_some_iff.1 H
  refine L1 (st_call Try.call35 hA [(.agg #[(.int .u32 r_0.Epoch), (.bool r_0.Diffuse), (.slice A0_2 r_0.Routes.length c0_2), (.slice A0_3 r_0.Stems.length c0_3), (.slice A0_4 r_0.Fluffed.length c0_4)])] rfl (by decide) (ref40_Sound.calls _ (Relay.mk r_0.Epoch r_0.Diffuse r_0.Routes r_0.Stems r_0.Fluffed) _ _ _ _ _ _ ((RoV.mk (hM.roC (Ms := []) hr0_2) (Eq.refl r_0.Routes.length) hc0_2)) ((RoV.mk (hM.roC (Ms := []) hr0_3) (Eq.refl r_0.Stems.length) hc0_3)) ((RoV.mk (hM.roC (Ms := []) hr0_4) (Eq.refl r_0.Fluffed.length) hc0_4)) (hM.front (Ms := [])) H474) ?_)
  clear hA; rintro _ w475 ⟨rfl, hMc⟩ a hA
  have hE := hMc.below; have hM := hM.call (Ms := []) hMc
  clear hMc; simp only [List.cons_append, List.nil_append] at hM
  refine L1 (stv hA (by decide) (run_not (hA.ev rfl)) ?_)
  clear hA; intro a hA
  refine LQ ?_
  refine TN ?_
  refine tcond (b := (!r473)) hA rfl (fun hb476 => ?_) (fun hb476 => ?_)
  · replace H := ite_t hb476 H
    refine wp_seq ?_
    refine wp_region_lit ?_
    refine L1 (stv hA (by decide) (run_ld (hA.ev rfl) (run_loadW Try.isAgg39 Try.sizeOf39 (by simp [Pl.len]; try rfl) (hM.box .z))) ?_)
    clear hA; intro a hA
    refine L1 (e_store (g := g451) (off := 0) (cur := [(.int .u32 0), (.bool false), (.slice none 0 0), (.slice none 0 0), (.slice none 0 0)]) (cs' := [(.int .u32 r454.Epoch), (.bool r454.Diffuse), (.slice A461 r454.Routes.length c462), (.slice A464 r454.Stems.length c465), (.slice A467 r454.Fluffed.length c468)]) hM (.s (.s (.s (.s .z)))) Try.sizeOf39 hA rfl (by simp [add_mk]) rfl (by first | rfl | simp [Value.cells, Pl.len]) (by simp [Value.cells, Value.oneCell']) (by first | exact Nat.le_of_ble_eq_true rfl | (simp [Pl.len]; done)) (spl_all (by first | rfl | simp [Value.cells, Pl.len])) ?_)
    clear hM hA; intro w477  hM hE  a hA
    refine L1 (stv hA (by decide) (run_assign (hA.ev rfl)) ?_)
    clear hA; intro a hA
    refine LQ ?_
    refine TN ?_
    refine wp_ret ?_
    have hM := hM.addnil 34 (pHash).sz
    obtain rfl := Option.some.inj H
    refine TR ?_
    exact ret_mix2 (fn := Try.f19) hA rfl (RV.cell rfl (run_loadW Try.isAgg39 Try.sizeOf39 (by simp [Pl.len]; try rfl) (hM.box (.s (.s (.s (.s (.s .z)))))))) (RV.tmp rfl) ⟨_, rfl, (.slice A461 r454.Routes.length c462), (.slice A464 r454.Stems.length c465), (.slice A467 r454.Fluffed.length c468), (.slice none 0 0), rfl, (hM.sel [2, 3, 4, 0] rfl (by decide))⟩
  · replace H := ite_f hb476 H
    refine wp_skip ?_
    refine TN ?_
    refine wp_seq ?_
    refine wp_region_lit ?_
    refine L1 (stv hA (by decide) (run_assign (hA.ev rfl)) ?_)
    clear hA; intro a hA
    refine LQ ?_
    refine TN ?_
    refine wp_seq ?_
    refine wp_region_lit ?_
    refine L1 (stv hA (by decide) (run_field' Try.underlying39 rfl rfl Try.sizeOf36 (by decide) (hA.ev rfl)) ?_)
    clear hA; intro a hA
    refine L1 (e_store (g := g469) (off := 3) (cur := [(.int .u32 r454.Epoch), (.bool r454.Diffuse), (.slice A461 r454.Routes.length c462), (.slice A464 r454.Stems.length c465), (.slice A467 r454.Fluffed.length c468)]) (cs' := [(.int .u32 r454.Epoch), (.bool r454.Diffuse), (.slice A461 r454.Routes.length c462), (.slice none 0 0), (.slice A467 r454.Fluffed.length c468)]) hM .z Try.sizeOf36 hA rfl (by simp [add_mk]) rfl (by first | rfl | simp [Value.cells, Pl.len]) (one_val rfl) (by first | exact Nat.le_of_ble_eq_true rfl | (simp [Pl.len]; done)) (rfl) ?_)
    clear hM hA; intro w479  hM hE  a hA
    refine LQ ?_
    refine TN ?_
    refine wp_seq ?_
    refine wp_seq ?_
    refine wp_region_lit ?_
    refine L1 (stv hA (by decide) (run_assign (hA.ev rfl)) ?_)
    clear hA; intro a hA
    refine LQ ?_
    refine TN ?_
    obtain ⟨o806, H805, H⟩ := Option.bind_eq_some_iff.1 H
    refine cutC (fun a w => ∃ (xs798 : (List Stem)) (xs804 : (List (Vector Int 32))) (v795 : Value) (v801 : Value), (xs798, xs804) = o806 ∧ Mem F w0 w [.box g451 39 [(.int .u32 0), (.bool false), (.slice none 0 0), (.slice none 0 0), (.slice none 0 0)], .box g469 39 [(.int .u32 r454.Epoch), (.bool r454.Diffuse), (.slice A461 r454.Routes.length c462), v795, (.slice A467 r454.Fluffed.length c468)], .row 3 (Pl.int .i64).sz (.slice A461 r454.Routes.length c462) ((Pl.int .i64).flat r454.Routes), .row 61 pStem.sz v795 (pStem.flat xs798), .row 34 pHash.sz (.slice A467 r454.Fluffed.length c468) (pHash.flat r454.Fluffed), .row 34 pHash.sz v801 (pHash.flat xs804)] ∧ Has 52 [(4, (.pointer (some (⟨g451, 0, none⟩)))), (6, (.pointer (some (⟨g469, 0, none⟩)))), (7, v801)] a) ?_ ?_
    · refine wp_block ?_
      have hM := hM.addnil 61 (pStem).sz
      have hM := hM.addnil 34 (pHash).sz
      refine wp_loop_ghost (fun m a w => ∃ (xs783 : (List Stem)) (xs789 : (List (Vector Int 32))) (i791 : Int) (v780 : Value) (v786 : Value), ref40_Due.l0 r_0 now_1 m xs783 xs789 i791 = some o806 ∧ Mem F w0 w [.box g448 39 [(.int .u32 r_0.Epoch), (.bool r_0.Diffuse), (.slice A0_2 r_0.Routes.length c0_2), (.slice A0_3 r_0.Stems.length c0_3), (.slice A0_4 r_0.Fluffed.length c0_4)], .box g451 39 [(.int .u32 0), (.bool false), (.slice none 0 0), (.slice none 0 0), (.slice none 0 0)], .box g469 39 [(.int .u32 r454.Epoch), (.bool r454.Diffuse), (.slice A461 r454.Routes.length c462), v780, (.slice A467 r454.Fluffed.length c468)], .row 3 (Pl.int .i64).sz (.slice A461 r454.Routes.length c462) ((Pl.int .i64).flat r454.Routes), .row 61 pStem.sz v780 (pStem.flat xs783), .row 34 pHash.sz (.slice A467 r454.Fluffed.length c468) (pHash.flat r454.Fluffed), .row 34 pHash.sz v786 (pHash.flat xs789)] ∧ Has 52 [(1, (.int .u32 now_1)), (2, (.pointer (some (⟨g448, 0, none⟩)))), (4, (.pointer (some (⟨g451, 0, none⟩)))), (6, (.pointer (some (⟨g469, 0, none⟩)))), (7, v786), (8, (.int .i64 i791))] a) k ⟨([] : List Stem), ([] : List (Vector Int 32)), 0, (.slice none 0 0), (.slice none 0 0), H805, (hM.sel [7, 6, 2, 3, 1, 5, 0] rfl (by decide)), ((((((hA.nil.cons (hA.get 8 _ rfl)).cons (hA.get 7 _ rfl)).cons (hA.get 6 _ rfl)).cons (hA.get 4 _ rfl)).cons (hA.get 2 _ rfl)).cons (hA.get 1 _ rfl))⟩ ?_
      clear hM hA; rintro m809 a w810 ⟨xs783, xs789, i791, v780, v786, H805, hM, hA⟩
      cases m809 with
      | zero => exact absurd H805 (by simp [ref40_Due.l0])
      | succ m809 =>
      rw [ref40_Due.l0] at H805
      obtain ⟨A781, c782, rfl⟩ := RowOk.form (hM.row (p := pStem) (.s (.s (.s (.s .z)))))
      obtain ⟨A787, c788, rfl⟩ := RowOk.form (hM.row (p := pHash) (.s (.s (.s (.s (.s (.s .z)))))))
      refine wp_seq ?_
      refine wp_seq ?_
      refine wp_region_lit ?_
      refine L1 (stv hA (by decide) (run_move (hA.ev rfl)) ?_)
      clear hA; intro a hA
      refine L1 (stv hA (by decide) (run_field' Try.underlying39 rfl rfl Try.sizeOf36 (by decide) (hA.ev rfl)) ?_)
      clear hA; intro a hA
      refine L1 (stv hA (by decide) (run_ld (hA.ev rfl) (run_loadS Try.isAgg36 (At.seg1 (hM.box .z) 3 rfl))) ?_)
      clear hA; intro a hA
      refine L1 (stv hA (by decide) (run_len_slice Try.underlying36 (hA.ev rfl)) ?_)
      clear hA; intro a hA
      refine L1 (stv hA (by decide) (run_bin (hA.ev rfl) (hA.ev rfl) (bin_lss _ _ _ _)) ?_)
      clear hA; intro a hA
      refine LQ ?_
      refine TN ?_
      refine tcond (b := (decide (i791 < ((r_0.Stems.length : Nat) : Int)))) hA rfl (fun hb811 => ?_) (fun hb811 => ?_)
      · replace H805 := ite_t hb811 H805
        refine wp_skip ?_
        refine TN ?_
        refine wp_seq ?_
        refine wp_block ?_
        refine wp_seq ?_
        refine wp_region_lit ?_
        refine L1 (stv hA (by decide) (run_field' Try.underlying39 rfl rfl Try.sizeOf36 (by decide) (hA.ev rfl)) ?_)
        clear hA; intro a hA
        refine L1 (stv hA (by decide) (run_ld (hA.ev rfl) (run_loadS Try.isAgg36 (At.seg1 (hM.box .z) 3 rfl))) ?_)
        clear hA; intro a hA
        refine L1 (stv hA (by decide) (run_move (hA.ev rfl)) ?_)
        clear hA; intro a hA
        obtain ⟨⟨hi812, hj813⟩, H805⟩ := ite_some H805
        obtain ⟨ad814, hq815, hat816⟩ := Row.elem' (p := pStem) (hM.ro hr0_3) (Eq.refl r_0.Stems.length) Stem.z i791 hi812 hj813
        refine L1 (stv hA (by decide) (run_idx Try.underlying36 Try.sizeOf61 (hA.ev rfl) hq815 (hA.ev rfl) hi812 hj813) ?_)
        clear hA; intro a hA
        refine L1 (stv hA (by decide) (run_field' Try.underlying61 rfl rfl Try.sizeOf35 (by decide) (hA.ev rfl)) ?_)
        clear hA; intro a hA
        refine L1 (stv hA (by decide) (run_ld (hA.ev rfl) (run_loadS Try.isAgg35 (Stem.at_Due (hat816)))) ?_)
        clear hA; intro a hA
        refine L1 (stv hA (by decide) (run_move (hA.ev rfl)) ?_)
        clear hA; intro a hA
        refine L1 (stv hA (by decide) (run_bin (hA.ev rfl) (hA.ev rfl) (bin_leq _ _ _ _)) ?_)
        clear hA; intro a hA
        refine LQ ?_
        refine TN ?_
        obtain ⟨o862, H861, H805⟩ := Option.bind_eq_some_iff.1 H805
        refine cutC (fun a w => ∃ (xs854 : (List Stem)) (xs859 : (List (Vector Int 32))) (v851 : Value) (v856 : Value), (xs854, xs859) = o862 ∧ Mem F w0 w [.box g448 39 [(.int .u32 r_0.Epoch), (.bool r_0.Diffuse), (.slice A0_2 r_0.Routes.length c0_2), (.slice A0_3 r_0.Stems.length c0_3), (.slice A0_4 r_0.Fluffed.length c0_4)], .box g451 39 [(.int .u32 0), (.bool false), (.slice none 0 0), (.slice none 0 0), (.slice none 0 0)], .box g469 39 [(.int .u32 r454.Epoch), (.bool r454.Diffuse), (.slice A461 r454.Routes.length c462), v851, (.slice A467 r454.Fluffed.length c468)], .row 3 (Pl.int .i64).sz (.slice A461 r454.Routes.length c462) ((Pl.int .i64).flat r454.Routes), .row 61 pStem.sz v851 (pStem.flat xs854), .row 34 pHash.sz (.slice A467 r454.Fluffed.length c468) (pHash.flat r454.Fluffed), .row 34 pHash.sz v856 (pHash.flat xs859)] ∧ Has 52 [(1, (.int .u32 now_1)), (2, (.pointer (some (⟨g448, 0, none⟩)))), (4, (.pointer (some (⟨g451, 0, none⟩)))), (6, (.pointer (some (⟨g469, 0, none⟩)))), (7, v856), (8, (.int .i64 i791))] a) ?_ ?_
        · refine tcond (b := (decide (((r_0.Stems.getD i791.toNat Stem.z).Due) ≤ now_1))) hA rfl (fun hb863 => ?_) (fun hb863 => ?_)
          · replace H861 := ite_t hb863 H861
            refine wp_region_lit ?_
            refine L1 (stv hA (by decide) (run_move (hA.ev rfl)) ?_)
            clear hA; intro a hA
            refine L1 (stv hA (by decide) (run_field' Try.underlying39 rfl rfl Try.sizeOf36 (by decide) (hA.ev rfl)) ?_)
            clear hA; intro a hA
            refine L1 (stv hA (by decide) (run_ld (hA.ev rfl) (run_loadS Try.isAgg36 (At.seg1 (hM.box .z) 3 rfl))) ?_)
            clear hA; intro a hA
            refine L1 (stv hA (by decide) (run_move (hA.ev rfl)) ?_)
            clear hA; intro a hA
            obtain ⟨⟨hi864, hj865⟩, H861⟩ := ite_some H861
            obtain ⟨ad866, hq867, hat868⟩ := Row.elem' (p := pStem) (hM.ro hr0_3) (Eq.refl r_0.Stems.length) Stem.z i791 hi864 hj865
            refine L1 (stv hA (by decide) (run_idx Try.underlying36 Try.sizeOf61 (hA.ev rfl) hq867 (hA.ev rfl) hi864 hj865) ?_)
            clear hA; intro a hA
            refine L1 (stv hA (by decide) (run_field' Try.underlying61 rfl rfl Try.sizeOf34 (by decide) (hA.ev rfl)) ?_)
            clear hA; intro a hA
            refine L1 (stv hA (by decide) (run_ld (hA.ev rfl) (run_loadP Try.isAgg34 Try.sizeOf34 (Stem.at_ID (hat868)))) ?_)
            clear hA; intro a hA
            refine L1 (e_litN [(r_0.Stems.getD i791.toNat Stem.z).ID] [(.agg (pHash.enc ((r_0.Stems.getD i791.toNat Stem.z).ID)).toArray)] elt37 hM rfl (by decide) hA rfl rfl (List.cons_ne_nil _ _) (by decide) ?_)
            clear hM hA; intro w870 g869 hM hE  a hA
            obtain ⟨hl874, H861⟩ := ite_some H861
            refine L1 (e_append elt37 hM (fun _ => (.s (.s (.s (.s (.s (.s (.s .z)))))))) (Src.row Try.underlying37 (RowOk.row (hM.row (p := pHash) .z)) (RowOk.len (hM.row (p := pHash) .z))) hl874 hA rfl rfl (by decide) ?_)
            clear hM hA; intro w875 A872 c873 hM hE  a hA
            refine L1 (stv hA (by decide) (run_assign (hA.ev rfl)) ?_)
            clear hA; intro a hA
            refine LQ ?_
            exact ⟨xs783, (xs789 ++ [(r_0.Stems.getD i791.toNat Stem.z).ID]), (.slice A781 xs783.length c782), (.slice A872 (xs789.length + 1) c873), Option.some.inj H861, (hM.sel [1, 2, 3, 4, 5, 6, 7] rfl (by decide)), ((((((hA.nil.cons (hA.get 8 _ rfl)).cons (hA.get 7 _ rfl)).cons (hA.get 6 _ rfl)).cons (hA.get 4 _ rfl)).cons (hA.get 2 _ rfl)).cons (hA.get 1 _ rfl))⟩
          · replace H861 := ite_f hb863 H861
            refine draw (fun w' => Below w810.heap.size w810 w') [8, 10] rfl ?_
            intro w876 hw hS; replace hM := hM.ext hS; clear hw
            refine d_takef (i := 0) (L' := #[true, false, false, false, false, false, false, false, false, false, false]) rfl (by kernel_rfl) rfl (fun _ _ _ h => h) hA (by decide) (fun _ => hS) (fun a w' hA => run_field' Try.underlying39 rfl rfl Try.sizeOf36 (by decide) (hA.ev rfl)) ?_; clear hA; intro a hA
            refine rebase hS ?_; clear hS; intro hS
            refine d_take (i := 1) (L' := #[true, true, false, false, false, false, false, false, false, false, false]) rfl (by kernel_rfl) rfl (fun _ _ _ h => h) hA (by decide) rfl hS (fun a w' hA hS' => run_ld (hA.ev rfl) (run_loadS Try.isAgg36 ((At.seg1 (hM.box (.s (.s .z))) 3 rfl).extB hS'))) ?_; clear hA; intro a hA
            refine d_takef (i := 2) (L' := #[true, true, true, false, false, false, false, false, false, false, false]) rfl (by kernel_rfl) rfl (fun _ _ _ h => h) hA (by decide) (fun _ => hS) (fun a w' hA => run_field' Try.underlying39 rfl rfl Try.sizeOf36 (by decide) (hA.ev rfl)) ?_; clear hA; intro a hA
            refine d_takef (i := 4) (L' := #[true, true, true, false, true, false, false, false, false, false, false]) rfl (by kernel_rfl) rfl (fun _ _ _ h => h) hA (by decide) (fun _ => hS) (fun a w' hA => run_move (hA.ev rfl)) ?_; clear hA; intro a hA
            refine d_one (i := 3) (L' := #[true, true, true, true, true, false, false, false, false, false, false]) (by kernel_rfl) rfl rfl (stv hA (by decide) (run_ld (hA.ev rfl) (run_loadS Try.isAgg36 (At.seg1 (hM.box .z) 3 rfl))) ?_)
            clear hA; intro a hA
            refine ⟨fun _ => hS, ?_⟩
            obtain ⟨⟨hi878, hj879⟩, H861⟩ := ite_some H861
            obtain ⟨ad880, hq881, hat882⟩ := Row.elem' (p := pStem) (hM.ro hr0_3) (Eq.refl r_0.Stems.length) Stem.z i791 hi878 hj879
            refine d_takef (i := 5) (L' := #[true, true, true, true, true, true, false, false, false, false, false]) rfl (by kernel_rfl) rfl (fun _ _ _ h => h) hA (by decide) (fun _ => hS) (fun a w' hA => run_idx Try.underlying36 Try.sizeOf61 (hA.ev rfl) hq881 (hA.ev rfl) hi878 hj879) ?_; clear hA; intro a hA
            refine d_one (i := 6) (L' := #[true, true, true, true, true, true, true, false, false, false, false]) (by kernel_rfl) rfl rfl (stv hA (by decide) (run_ld (hA.ev rfl) (run_loadP Try.isAgg61 Try.sizeOf61 hat882)) ?_)
            clear hA; intro a hA
            refine ⟨fun _ => hS, ?_⟩
            refine d_one (i := 7) (L' := #[true, true, true, true, true, true, true, true, false, false, false]) (by kernel_rfl) rfl rfl (e_litNL [(r_0.Stems.getD i791.toNat Stem.z)] [(.agg (pStem.enc (r_0.Stems.getD i791.toNat Stem.z)).toArray)] elt36 hM rfl (by decide) hA rfl rfl (List.cons_ne_nil _ _) (by decide) ?_)
            clear hM hA; intro w884 g883 hM hE hlo885 a hA
            have hlw886 : ∀ k, Value.ownBlock (.slice (some ⟨g883, 0, none⟩) 1 1) = some k → w876.heap.size ≤ k := fun k hk => by cases hk; exact Nat.le_trans hS.size hlo885
            replace hS := hS.trans (hE.mono hS.size)
            refine ⟨fun _ => hS, ?_⟩
            obtain ⟨hl889, H861⟩ := ite_some H861
            refine d_one (i := 8) (L' := #[true, true, true, true, true, true, true, true, true, false, false]) (by kernel_rfl) rfl rfl (e_appendL elt36 hM (fun _ => (.s (.s (.s (.s (.s .z)))))) (Src.row Try.underlying36 (RowOk.row (hM.row (p := pStem) .z)) (RowOk.len (hM.row (p := pStem) .z))) hl889 hA rfl rfl (by decide) ?_)
            clear hM hA; intro w890 A887 c888 hM hE hlo891 a hA
            refine ⟨fun h => absurd h (by decide), ?_⟩
            refine d_takef (i := 9) (L' := #[true, true, true, true, true, true, true, true, true, true, false]) rfl (by kernel_rfl) rfl (fun _ _ _ h => h) hA (by decide) (fun h => absurd h (by decide)) (fun a w' hA => run_field' Try.underlying39 rfl rfl Try.sizeOf36 (by decide) (hA.ev rfl)) ?_; clear hA; intro a hA
            refine d_one (i := 10) (L' := #[true, true, true, true, true, true, true, true, true, true, true]) (by kernel_rfl) rfl rfl (e_store (g := g469) (off := 3) (cur := [(.int .u32 r454.Epoch), (.bool r454.Diffuse), (.slice A461 r454.Routes.length c462), (.slice A781 xs783.length c782), (.slice A467 r454.Fluffed.length c468)]) (cs' := [(.int .u32 r454.Epoch), (.bool r454.Diffuse), (.slice A461 r454.Routes.length c462), (.slice A887 (xs783.length + 1) c888), (.slice A467 r454.Fluffed.length c468)]) hM (.s (.s (.s .z))) Try.sizeOf36 hA rfl (by simp [add_mk]) rfl (by first | rfl | simp [Value.cells, Pl.len]) (one_val rfl) (by first | exact Nat.le_of_ble_eq_true rfl | (simp [Pl.len]; done)) (rfl) ?_)
            clear hM hA; intro w892  hM hE  a hA
            refine ⟨fun h => absurd h (by decide), ?_⟩
            refine d_done (by kernel_rfl) ?_
            exact ⟨(xs783 ++ [(r_0.Stems.getD i791.toNat Stem.z)]), xs789, (.slice A887 (xs783.length + 1) c888), (.slice A787 xs789.length c788), Option.some.inj H861, (hM.sel [1, 2, 3, 4, 5, 6, 7] rfl (by decide)), ((((((hA.nil.cons (hA.get 8 _ rfl)).cons (hA.get 7 _ rfl)).cons (hA.get 6 _ rfl)).cons (hA.get 4 _ rfl)).cons (hA.get 2 _ rfl)).cons (hA.get 1 _ rfl))⟩
        clear hM hA
        rintro a w893 ⟨xs854, xs859, v851, v856, rfl, hM, hA⟩
        try dsimp only at H805
        obtain ⟨A852, c853, rfl⟩ := RowOk.form (hM.row (p := pStem) (.s (.s (.s (.s .z)))))
        obtain ⟨A857, c858, rfl⟩ := RowOk.form (hM.row (p := pHash) (.s (.s (.s (.s (.s (.s .z)))))))
        refine BN ?_
        refine TN ?_
        refine wp_region_lit ?_
        refine L1 (stv hA (by decide) (run_move (hA.ev rfl)) ?_)
        clear hA; intro a hA
        refine L1 (stv hA (by decide) (run_bin (hA.ev rfl) (hA.ev rfl) (bin_add _ _ _ _)) ?_)
        clear hA; intro a hA
        refine L1 (stv hA (by decide) (run_assign (hA.ev rfl)) ?_)
        clear hA; intro a hA
        refine LQ ?_
        exact ⟨_, Nat.lt_succ_self m809, xs854, xs859, IntKind.i64.wrap (i791 + 1), (.slice A852 xs854.length c853), (.slice A857 xs859.length c858), H805, hM, ((((((hA.nil.cons (hA.get 8 _ rfl)).cons (hA.get 7 _ rfl)).cons (hA.get 6 _ rfl)).cons (hA.get 4 _ rfl)).cons (hA.get 2 _ rfl)).cons (hA.get 1 _ rfl))⟩
      · replace H805 := ite_f hb811 H805
        refine wp_exit ?_
        refine TX ?_
        refine TX ?_
        refine BX ?_
        exact ⟨xs783, xs789, (.slice A781 xs783.length c782), (.slice A787 xs789.length c788), Option.some.inj H805, (hM.sel [1, 2, 3, 4, 5, 6] rfl (by decide)), (((hA.nil.cons (hA.get 7 _ rfl)).cons (hA.get 6 _ rfl)).cons (hA.get 4 _ rfl))⟩
    clear hM hA
    rintro a w894 ⟨xs798, xs804, v795, v801, rfl, hM, hA⟩
    try dsimp only at H
    obtain ⟨A796, c797, rfl⟩ := RowOk.form (hM.row (p := pStem) (.s (.s (.s .z))))
    obtain ⟨A802, c803, rfl⟩ := RowOk.form (hM.row (p := pHash) (.s (.s (.s (.s (.s .z))))))
    refine TN ?_
    refine wp_seq ?_
    refine wp_region_lit ?_
    refine L1 (stv hA (by decide) (run_ld (hA.ev rfl) (run_loadW Try.isAgg39 Try.sizeOf39 (by simp [Pl.len]; try rfl) (hM.box (.s .z)))) ?_)
    clear hA; intro a hA
    refine L1 (stv hA (by decide) (run_move (hA.ev rfl)) ?_)
    clear hA; intro a hA
    refine L1 (e_store (g := g451) (off := 0) (cur := [(.int .u32 0), (.bool false), (.slice none 0 0), (.slice none 0 0), (.slice none 0 0)]) (cs' := [(.int .u32 r454.Epoch), (.bool r454.Diffuse), (.slice A461 r454.Routes.length c462), (.slice A796 xs798.length c797), (.slice A467 r454.Fluffed.length c468)]) hM .z Try.sizeOf39 hA rfl (by simp [add_mk]) rfl (by first | rfl | simp [Value.cells, Pl.len]) (by simp [Value.cells, Value.oneCell']) (by first | exact Nat.le_of_ble_eq_true rfl | (simp [Pl.len]; done)) (spl_all (by first | rfl | simp [Value.cells, Pl.len])) ?_)
    clear hM hA; intro w895  hM hE  a hA
    refine L1 (stv hA (by decide) (run_assign (hA.ev rfl)) ?_)
    clear hA; intro a hA
    refine LQ ?_
    refine TN ?_
    refine wp_ret ?_
    obtain rfl := Option.some.inj H
    exact ret_mix2 (fn := Try.f19) hA rfl (RV.cell rfl (run_loadW Try.isAgg39 Try.sizeOf39 (by simp [Pl.len]; try rfl) (hM.box .z))) (RV.tmp rfl) ⟨_, rfl, (.slice A461 r454.Routes.length c462), (.slice A796 xs798.length c797), (.slice A467 r454.Fluffed.length c468), (.slice A802 xs804.length c803), rfl, (hM.sel [2, 3, 4, 5] rfl (by decide))⟩

def law40_RelayFluffs.l0 (id_1 : (Vector Int 32)) (r2304 : (Relay × lightclientmill_Deck)) (r2349 : Int) : Nat → Int → Option (Out Bool (Unit))
  | 0, _ => none
  | k + 1, t2614 => (if (decide (t2614 < 2)) = true then (if 0 ≤ t2614 ∧ t2614 < ((2 : Nat) : Int) then ((relay_Fluff.f k (Relay.mk r2304.1.Epoch r2304.1.Diffuse r2304.1.Routes r2304.1.Stems r2304.1.Fluffed) ([id_1, (((Vector.replicate 32 0 : Vector Int 32).setIfInBounds 0 (IntKind.u8.wrap r2349)))].getD t2614.toNat (Vector.replicate 32 0 : Vector Int 32))).bind fun r2636 => ((ref40_Fluff.f k (Relay.mk r2304.1.Epoch r2304.1.Diffuse r2304.1.Routes r2304.1.Stems r2304.1.Fluffed) ([id_1, (((Vector.replicate 32 0 : Vector Int 32).setIfInBounds 0 (IntKind.u8.wrap r2349)))].getD t2614.toNat (Vector.replicate 32 0 : Vector Int 32))).bind fun r2655 => (Option.bind (α := Bool) (if (r2636.2 != r2655.2) = true then (some true) else ((ref40_Same.f k (Relay.mk r2636.1.Epoch r2636.1.Diffuse r2636.1.Routes r2636.1.Stems r2636.1.Fluffed) (Relay.mk r2655.1.Epoch r2655.1.Diffuse r2655.1.Routes r2655.1.Stems r2655.1.Fluffed)).bind fun r2693 => (some (!r2693)))) (fun t2689 => (if t2689 = true then (some (.ret false)) else (law40_RelayFluffs.l0 id_1 r2304 r2349 k (IntKind.i64.wrap (t2614 + 1)))))))) else none) else (some (.go ())))
def law40_RelayFluffs.l1 (now_2 : Int) (r2304 : (Relay × lightclientmill_Deck)) : Nat → Int → Option (Out Bool (Unit))
  | 0, _ => none
  | k + 1, t2990 => (if (decide (t2990 < 2)) = true then (if 0 ≤ t2990 ∧ t2990 < ((2 : Nat) : Int) then ((relay_Due.f k (Relay.mk r2304.1.Epoch r2304.1.Diffuse r2304.1.Routes r2304.1.Stems r2304.1.Fluffed) ([now_2, now_2.tmod 60].getD t2990.toNat (0 : Int))).bind fun r3007 => ((ref40_Due.f k (Relay.mk r2304.1.Epoch r2304.1.Diffuse r2304.1.Routes r2304.1.Stems r2304.1.Fluffed) ([now_2, now_2.tmod 60].getD t2990.toNat (0 : Int))).bind fun r3030 => (Option.bind (α := Bool) ((ref40_Same.f k (Relay.mk r3007.1.Epoch r3007.1.Diffuse r3007.1.Routes r3007.1.Stems r3007.1.Fluffed) (Relay.mk r3030.1.Epoch r3030.1.Diffuse r3030.1.Routes r3030.1.Stems r3030.1.Fluffed)).bind fun r3074 => (if (!r3074) = true then (some true) else ((ref40_SameHashes.f k r3007.2 r3030.2).bind fun r3078 => (some (!r3078))))) (fun t3071 => (if t3071 = true then (some (.ret false)) else (law40_RelayFluffs.l1 now_2 r2304 k (IntKind.i64.wrap (t2990 + 1)))))))) else none) else (some (.go ())))
def law40_RelayFluffs.l2 (id_1 : (Vector Int 32)) (r2325 : Relay) (r3091 : Int) : Nat → Int → Option (Out Bool (Unit))
  | 0, _ => none
  | k + 1, t3356 => (if (decide (t3356 < 2)) = true then (if 0 ≤ t3356 ∧ t3356 < ((2 : Nat) : Int) then ((relay_Fluff.f k (Relay.mk r2325.Epoch r2325.Diffuse r2325.Routes r2325.Stems r2325.Fluffed) ([id_1, (((Vector.replicate 32 0 : Vector Int 32).setIfInBounds 0 (IntKind.u8.wrap r3091)))].getD t3356.toNat (Vector.replicate 32 0 : Vector Int 32))).bind fun r3378 => ((ref40_Fluff.f k (Relay.mk r2325.Epoch r2325.Diffuse r2325.Routes r2325.Stems r2325.Fluffed) ([id_1, (((Vector.replicate 32 0 : Vector Int 32).setIfInBounds 0 (IntKind.u8.wrap r3091)))].getD t3356.toNat (Vector.replicate 32 0 : Vector Int 32))).bind fun r3397 => (Option.bind (α := Bool) (if (r3378.2 != r3397.2) = true then (some true) else ((ref40_Same.f k (Relay.mk r3378.1.Epoch r3378.1.Diffuse r3378.1.Routes r3378.1.Stems r3378.1.Fluffed) (Relay.mk r3397.1.Epoch r3397.1.Diffuse r3397.1.Routes r3397.1.Stems r3397.1.Fluffed)).bind fun r3435 => (some (!r3435)))) (fun t3431 => (if t3431 = true then (some (.ret false)) else (law40_RelayFluffs.l2 id_1 r2325 r3091 k (IntKind.i64.wrap (t3356 + 1)))))))) else none) else (some (.go ())))
def law40_RelayFluffs.l3 (now_2 : Int) (r2325 : Relay) : Nat → Int → Option (Out Bool (Unit))
  | 0, _ => none
  | k + 1, t3732 => (if (decide (t3732 < 2)) = true then (if 0 ≤ t3732 ∧ t3732 < ((2 : Nat) : Int) then ((relay_Due.f k (Relay.mk r2325.Epoch r2325.Diffuse r2325.Routes r2325.Stems r2325.Fluffed) ([now_2, now_2.tmod 60].getD t3732.toNat (0 : Int))).bind fun r3749 => ((ref40_Due.f k (Relay.mk r2325.Epoch r2325.Diffuse r2325.Routes r2325.Stems r2325.Fluffed) ([now_2, now_2.tmod 60].getD t3732.toNat (0 : Int))).bind fun r3772 => (Option.bind (α := Bool) ((ref40_Same.f k (Relay.mk r3749.1.Epoch r3749.1.Diffuse r3749.1.Routes r3749.1.Stems r3749.1.Fluffed) (Relay.mk r3772.1.Epoch r3772.1.Diffuse r3772.1.Routes r3772.1.Stems r3772.1.Fluffed)).bind fun r3816 => (if (!r3816) = true then (some true) else ((ref40_SameHashes.f k r3749.2 r3772.2).bind fun r3820 => (some (!r3820))))) (fun t3813 => (if t3813 = true then (some (.ret false)) else (law40_RelayFluffs.l3 now_2 r2325 k (IntKind.i64.wrap (t3732 + 1)))))))) else none) else (some (.go ())))
def law40_RelayFluffs.f (k : Nat) (l_0 : (List Int)) (id_1 : (Vector Int 32)) (now_2 : Int) (what_3 : Int) (at_4 : Int) : Option Bool := ((law40_sane.f k ).bind fun r2295 => (if (!r2295) = true then (some false) else ((mill_New.f k l_0).bind fun r2299 => ((mill_Relay.f k (lightclientmill_Deck.mk l_0 r2299.At_)).bind fun r2304 => ((law40_spoil.f k (Relay.mk r2304.1.Epoch r2304.1.Diffuse r2304.1.Routes r2304.1.Stems r2304.1.Fluffed) what_3 at_4).bind fun r2325 => ((mill_Mod.f k at_4 10).bind fun r2349 => (Option.bind (α := Out Bool (Unit)) (law40_RelayFluffs.l0 id_1 r2304 r2349 k 0) (fun o => match o with | .ret r => some r | .go _ => (Option.bind (α := Out Bool (Unit)) (law40_RelayFluffs.l1 now_2 r2304 k 0) (fun o => match o with | .ret r => some r | .go _ => ((mill_Mod.f k at_4 10).bind fun r3091 => (Option.bind (α := Out Bool (Unit)) (law40_RelayFluffs.l2 id_1 r2325 r3091 k 0) (fun o => match o with | .ret r => some r | .go _ => (Option.bind (α := Out Bool (Unit)) (law40_RelayFluffs.l3 now_2 r2325 k 0) (fun o => match o with | .ret r => some r | .go _ => (some true))))))))))))))))
set_option maxRecDepth 100000 in
theorem law40_RelayFluffs.calls (k : Nat) (l_0 : (List Int)) (id_1 : (Vector Int 32)) (now_2 : Int) (what_3 : Int) (at_4 : Int) (F : List (Option Nat)) (v0 : Value) (r : Bool) (w0 : World) (h0 : RoV F (Pl.int .i64) w0 v0 l_0) (hM : Mem F w0 w0 []) (H : law40_RelayFluffs.f k l_0 id_1 now_2 what_3 at_4 = some r) :
    Calls Try.prog 5 #[v0, (.agg (pHash.enc id_1).toArray), (.int .u32 now_2), (.int .i64 what_3), (.int .i64 at_4)] w0 fun e w' => ∃ v, e = .returned v ∧ v = (.bool r) ∧ Mem F w0 w' [] := by
  unfold law40_RelayFluffs.f at H
  obtain ⟨A0, c0, rfl, hr0, hc0⟩ := h0
  refine enterL (n := 108) [(.slice A0 l_0.length c0), (.agg (pHash.enc id_1).toArray), (.int .u32 now_2), (.int .i64 what_3), (.int .i64 at_4)] Try.func5 rfl rfl rfl ?_
  intro a hA
  refine wp_seq ?_
  refine wp_region_lit ?_
  refine L1 (e_box (cs := (pHash.enc id_1)) hM hA rfl rfl (by decide) ?_)
  clear hM hA; intro w2293 g2292 hM hE  a hA
  refine L1 (stv hA (by decide) (run_assign (hA.ev rfl)) ?_)
  clear hA; intro a hA
  refine LQ ?_
  refine TN ?_
  refine wp_seq ?_
  refine wp_seq ?_
  refine wp_region_lit ?_
  obtain ⟨r2295, H2296, H⟩ := Option.bind_eq_some_iff.1 H
  refine L1 (st_call Try.call7 hA [] rfl (by decide) (law40_sane.calls _ _ _ _ (hM.front (Ms := [])) H2296) ?_)
  clear hA; rintro _ w2297 ⟨rfl, hMc⟩ a hA
  have hE := hMc.below; have hM := hM.call (Ms := []) hMc
  clear hMc; simp only [List.cons_append, List.nil_append] at hM
  refine L1 (stv hA (by decide) (run_not (hA.ev rfl)) ?_)
  clear hA; intro a hA
  refine LQ ?_
  refine TN ?_
  refine tcond (b := (!r2295)) hA rfl (fun hb2298 => ?_) (fun hb2298 => ?_)
  · replace H := ite_t hb2298 H
    refine wp_seq ?_
    refine wp_region_lit ?_
    refine L1 (stv hA (by decide) (run_assign (hA.ev rfl)) ?_)
    clear hA; intro a hA
    refine LQ ?_
    refine TN ?_
    refine wp_ret ?_
    obtain rfl := Option.some.inj H
    refine TR ?_
    exact ret_post1 (fn := Try.f5) hA rfl rfl ⟨_, rfl, rfl, (hM.sel [] rfl (by decide))⟩
  · replace H := ite_f hb2298 H
    refine wp_skip ?_
    refine TN ?_
    refine wp_seq ?_
    refine wp_region_lit ?_
    refine L1 (stv hA (by decide) (run_move (hA.ev rfl)) ?_)
    clear hA; intro a hA
    obtain ⟨r2299, H2300, H⟩ := Option.bind_eq_some_iff.1 H
    refine L1 (st_call Try.call13 hA [(.slice A0 l_0.length c0)] rfl (by decide) (mill_New.calls _ _ _ _ _ _ ((RoV.mk (hM.roC (Ms := []) hr0) (Eq.refl l_0.length) hc0)) (hM.front (Ms := [])) H2300) ?_)
    clear hA; rintro _ w2301 ⟨g2302, rfl, hMc⟩ a hA
    have hE := hMc.below; have hM := hM.call (Ms := []) hMc
    clear hMc; simp only [List.cons_append, List.nil_append] at hM
    obtain ⟨r2304, H2305, H⟩ := Option.bind_eq_some_iff.1 H
    refine L1 (st_call Try.call12 hA [(.pointer (some (⟨g2302, 0, none⟩)))] rfl (by decide) (mill_Relay.calls _ (lightclientmill_Deck.mk l_0 r2299.At_) _ _ _ _ _ ((RoV.mk (hM.roC (Ms := [_]) hr0) (Eq.refl l_0.length) hc0)) (hM.front (Ms := [_])) H2305) ?_)
    clear hA; rintro _ w2306 ⟨v2307, v2308, v2309, rfl, hMc⟩ a hA
    have hM := hM.call (Ms := [_]) hMc
    clear hMc; simp only [List.cons_append, List.nil_append] at hM
    obtain ⟨A2311, c2312, rfl⟩ := RowOk.form (hM.row (p := (Pl.int .i64)) (.s .z))
    obtain ⟨A2314, c2315, rfl⟩ := RowOk.form (hM.row (p := pStem) (.s (.s .z)))
    obtain ⟨A2317, c2318, rfl⟩ := RowOk.form (hM.row (p := pHash) (.s (.s (.s .z))))
    refine L1 (e_alloc (cs := [(.int .u32 0), (.bool false), (.slice none 0 0), (.slice none 0 0), (.slice none 0 0)]) hM zero39 rfl hA (by decide) ?_)
    clear hM hA; intro w2320 g2319 hM hE  a hA
    refine L1 (e_store (g := g2319) (off := 0) (cur := [(.int .u32 0), (.bool false), (.slice none 0 0), (.slice none 0 0), (.slice none 0 0)]) (cs' := [(.int .u32 r2304.1.Epoch), (.bool r2304.1.Diffuse), (.slice A2311 r2304.1.Routes.length c2312), (.slice A2314 r2304.1.Stems.length c2315), (.slice A2317 r2304.1.Fluffed.length c2318)]) hM .z Try.sizeOf39 hA rfl (by simp [add_mk]) rfl (by first | rfl | simp [Value.cells, Pl.len]) (by simp [Value.cells, Value.oneCell']) (by first | exact Nat.le_of_ble_eq_true rfl | (simp [Pl.len]; done)) (spl_all (by first | rfl | simp [Value.cells, Pl.len])) ?_)
    clear hM hA; intro w2322  hM hE  a hA
    refine LQ ?_
    refine TN ?_
    refine wp_seq ?_
    refine wp_seq ?_
    refine draw (fun w' => Below w2322.heap.size w2322 w') [] rfl ?_
    intro w2323 hw hS; replace hM := hM.ext hS; clear hw
    refine rebase hS ?_; clear hS; intro hS
    refine d_take (i := 0) (L' := #[true, false, false, false, false, false, false, false]) rfl (by kernel_rfl) rfl (fun _ _ _ h => h) hA (by decide) rfl hS (fun a w' hA hS' => run_ld (hA.ev rfl) (run_loadW Try.isAgg39 Try.sizeOf39 (by simp [Pl.len]; try rfl) ((hM.box .z).extB hS'))) ?_; clear hA; intro a hA
    refine d_take (i := 1) (L' := #[true, true, false, false, false, false, false, false]) rfl (by kernel_rfl) rfl (fun _ _ _ h => h) hA (by decide) rfl hS (fun a w' hA hS' => run_ld (hA.ev rfl) (run_loadW Try.isAgg39 Try.sizeOf39 (by simp [Pl.len]; try rfl) ((hM.box .z).extB hS'))) ?_; clear hA; intro a hA
    refine d_takef (i := 2) (L' := #[true, true, true, false, false, false, false, false]) rfl (by kernel_rfl) rfl (fun _ _ _ h => h) hA (by decide) (fun _ => hS) (fun a w' hA => run_move (hA.ev rfl)) ?_; clear hA; intro a hA
    refine d_takef (i := 3) (L' := #[true, true, true, true, false, false, false, false]) rfl (by kernel_rfl) rfl (fun _ _ _ h => h) hA (by decide) (fun _ => hS) (fun a w' hA => run_move (hA.ev rfl)) ?_; clear hA; intro a hA
    refine d_takef (i := 7) (L' := #[true, true, true, true, false, false, false, true]) rfl (by kernel_rfl) rfl (fun _ _ _ h => h) hA (by decide) (fun _ => hS) (fun a w' hA => run_move (hA.ev rfl)) ?_; clear hA; intro a hA
    obtain ⟨r2325, H2326, H⟩ := Option.bind_eq_some_iff.1 H
    refine d_one (i := 4) (L' := #[true, true, true, true, true, false, false, true]) (by kernel_rfl) rfl rfl (st_call Try.call14 hA [(.agg #[(.int .u32 r2304.1.Epoch), (.bool r2304.1.Diffuse), (.slice A2311 r2304.1.Routes.length c2312), (.slice A2314 r2304.1.Stems.length c2315), (.slice A2317 r2304.1.Fluffed.length c2318)]), (.int .i64 what_3), (.int .i64 at_4)] rfl (by decide) (law40_spoil.calls _ (Relay.mk r2304.1.Epoch r2304.1.Diffuse r2304.1.Routes r2304.1.Stems r2304.1.Fluffed) _ _ _ _ _ _ _ _ ((RoV.mk (hM.rowC (p := (Pl.int .i64)) (Ms := []) (.s (.s .z))) (RowOk.len (hM.row (p := (Pl.int .i64)) (.s (.s .z)))) (RowOk.cap (hM.row (p := (Pl.int .i64)) (.s (.s .z)))))) ((RoV.mk (hM.rowC (p := pStem) (Ms := []) (.s (.s (.s .z)))) (RowOk.len (hM.row (p := pStem) (.s (.s (.s .z))))) (RowOk.cap (hM.row (p := pStem) (.s (.s (.s .z))))))) ((RoV.mk (hM.rowC (p := pHash) (Ms := []) (.s (.s (.s (.s .z))))) (RowOk.len (hM.row (p := pHash) (.s (.s (.s (.s .z)))))) (RowOk.cap (hM.row (p := pHash) (.s (.s (.s (.s .z)))))))) (hM.front (Ms := [])) H2326) ?_)
    clear hA; rintro _ w2327 ⟨v2328, v2329, v2330, rfl, hMc⟩ a hA
    have hE := hMc.below; have hM := hM.call (Ms := []) hMc
    have hlw2331 : ∀ k, _ → w2323.heap.size ≤ k := fun k hk => Nat.le_trans hS.size ((hMc.low _ (List.Mem.head _) k hk).resolve_right (by simp))
    have hlw2332 : ∀ k, _ → w2323.heap.size ≤ k := fun k hk => Nat.le_trans hS.size ((hMc.low _ (List.Mem.tail _ (List.Mem.head _)) k hk).resolve_right (by simp))
    have hlw2333 : ∀ k, _ → w2323.heap.size ≤ k := fun k hk => Nat.le_trans hS.size ((hMc.low _ (List.Mem.tail _ (List.Mem.tail _ (List.Mem.head _))) k hk).resolve_right (by simp))
    clear hMc; simp only [List.cons_append, List.nil_append] at hM
    obtain ⟨A2334, c2335, rfl⟩ := RowOk.form (hM.row (p := (Pl.int .i64)) .z)
    obtain ⟨A2336, c2337, rfl⟩ := RowOk.form (hM.row (p := pStem) (.s .z))
    obtain ⟨A2338, c2339, rfl⟩ := RowOk.form (hM.row (p := pHash) (.s (.s .z)))
    replace hS := hS.trans (hE.mono hS.size)
    refine ⟨fun _ => hS, ?_⟩
    refine d_one (i := 5) (L' := #[true, true, true, true, true, true, false, true]) (by kernel_rfl) rfl rfl (e_litW (cs := (List.flatten [[(.int .u32 r2304.1.Epoch), (.bool r2304.1.Diffuse), (.slice A2311 r2304.1.Routes.length c2312), (.slice A2314 r2304.1.Stems.length c2315), (.slice A2317 r2304.1.Fluffed.length c2318)], [(.int .u32 r2325.Epoch), (.bool r2325.Diffuse), (.slice A2334 r2325.Routes.length c2335), (.slice A2336 r2325.Stems.length c2337), (.slice A2338 r2325.Fluffed.length c2339)]])) [(.agg #[(.int .u32 r2304.1.Epoch), (.bool r2304.1.Diffuse), (.slice A2311 r2304.1.Routes.length c2312), (.slice A2314 r2304.1.Stems.length c2315), (.slice A2317 r2304.1.Fluffed.length c2318)]), (.agg #[(.int .u32 r2325.Epoch), (.bool r2325.Diffuse), (.slice A2334 r2325.Routes.length c2335), (.slice A2336 r2325.Stems.length c2337), (.slice A2338 r2325.Fluffed.length c2339)])] Try.underlying44 zero39 Try.sizeOf39 hM rfl rfl rfl hA rfl (by simp [Value.cells, Pl.len]) (by simp [Value.cells]) (by decide) ?_)
    clear hM hA; intro w2341 g2340 hM hE  a hA
    replace hS := hS.trans (hE.mono hS.size)
    refine ⟨fun _ => hS, ?_⟩
    refine d_takef (i := 6) (L' := #[true, true, true, true, true, true, true, true]) rfl (by kernel_rfl) rfl (fun _ _ _ h => h) hA (by decide) (fun _ => hS) (fun a w' hA => run_len_slice Try.underlying44 (hA.ev rfl)) ?_; clear hA; intro a hA
    refine d_done (by kernel_rfl) ?_
    refine TN ?_
    refine wp_block ?_; refine wp_loop_rounds 40 ?_; refine rounds_s ?_
    refine wp_seq ?_
    refine wp_region_lit ?_
    refine L1 (stv hA (by decide) (run_bin (hA.ev rfl) (hA.ev rfl) (bin_lss _ _ _ _)) ?_)
    clear hA; intro a hA
    refine LQ ?_
    refine TN ?_
    refine wp_seq ?_
    refine tcond_t hA rfl ?_
    refine wp_skip ?_
    refine TN ?_
    refine wp_seq ?_
    refine wp_block ?_
    refine wp_seq ?_
    refine wp_region_lit ?_
    refine L1 (stv hA (by decide) (run_idx Try.underlying44 Try.sizeOf39 (hA.ev rfl) rfl (hA.ev rfl) (by decide) (by decide)) ?_)
    clear hA; intro a hA
    refine L1 (stv hA (by decide) (run_ld (hA.ev rfl) (run_loadW Try.isAgg39 Try.sizeOf39 (by simp [Pl.len]; try rfl) (At.seg (segs := [[(.int .u32 r2304.1.Epoch), (.bool r2304.1.Diffuse), (.slice A2311 r2304.1.Routes.length c2312), (.slice A2314 r2304.1.Stems.length c2315), (.slice A2317 r2304.1.Fluffed.length c2318)], [(.int .u32 r2325.Epoch), (.bool r2325.Diffuse), (.slice A2334 r2325.Routes.length c2335), (.slice A2336 r2325.Stems.length c2337), (.slice A2338 r2325.Fluffed.length c2339)]]) (hM.box .z) 0 rfl rfl))) ?_)
    clear hA; intro a hA
    refine L1 (e_alloc (cs := [(.int .u32 0), (.bool false), (.slice none 0 0), (.slice none 0 0), (.slice none 0 0)]) hM zero39 rfl hA (by decide) ?_)
    clear hM hA; intro w2344 g2343 hM hE  a hA
    refine L1 (e_store (g := g2343) (off := 0) (cur := [(.int .u32 0), (.bool false), (.slice none 0 0), (.slice none 0 0), (.slice none 0 0)]) (cs' := [(.int .u32 r2304.1.Epoch), (.bool r2304.1.Diffuse), (.slice A2311 r2304.1.Routes.length c2312), (.slice A2314 r2304.1.Stems.length c2315), (.slice A2317 r2304.1.Fluffed.length c2318)]) hM .z Try.sizeOf39 hA rfl (by simp [add_mk]) rfl (by first | rfl | simp [Value.cells, Pl.len]) (by simp [Value.cells, Value.oneCell']) (by first | exact Nat.le_of_ble_eq_true rfl | (simp [Pl.len]; done)) (spl_all (by first | rfl | simp [Value.cells, Pl.len])) ?_)
    clear hM hA; intro w2346  hM hE  a hA
    refine LQ ?_
    refine TN ?_
    refine wp_seq ?_
    refine wp_seq ?_
    refine draw (fun w' => Below w2346.heap.size w2346 w') [] rfl ?_
    intro w2347 hw hS; replace hM := hM.ext hS; clear hw
    refine rebase hS ?_; clear hS; intro hS
    refine d_take (i := 0) (L' := #[true, false, false, false, false, false, false, false]) rfl (by kernel_rfl) rfl (fun _ _ _ h => h) hA (by decide) rfl hS (fun a w' hA hS' => run_ld (hA.ev rfl) (run_loadP Try.isAgg34 Try.sizeOf34 ((hM.box (.s (.s (.s (.s (.s (.s (.s (.s (.s (.s .z))))))))))).extB hS'))) ?_; clear hA; intro a hA
    refine d_takef (i := 1) (L' := #[true, true, false, false, false, false, false, false]) rfl (by kernel_rfl) rfl (fun _ _ _ h => h) hA (by decide) (fun _ => hS) (fun a w' hA => run_move (hA.ev rfl)) ?_; clear hA; intro a hA
    refine d_takef (i := 7) (L' := #[true, true, false, false, false, false, false, true]) rfl (by kernel_rfl) rfl (fun _ _ _ h => h) hA (by decide) (fun _ => hS) (fun a w' hA => run_move (hA.ev rfl)) ?_; clear hA; intro a hA
    obtain ⟨r2349, H2350, H⟩ := Option.bind_eq_some_iff.1 H
    refine d_one (i := 2) (L' := #[true, true, true, false, false, false, false, true]) (by kernel_rfl) rfl rfl (st_call Try.call9 hA [(.int .i64 at_4), (.int .i64 10)] rfl (by decide) (mill_Mod.calls _ _ _ _ _ _ (hM.front (Ms := [])) H2350) ?_)
    clear hA; rintro _ w2351 ⟨rfl, hMc⟩ a hA
    have hE := hMc.below; have hM := hM.call (Ms := []) hMc
    clear hMc; simp only [List.cons_append, List.nil_append] at hM
    replace hS := hS.trans (hE.mono hS.size)
    refine ⟨fun _ => hS, ?_⟩
    refine d_takef (i := 3) (L' := #[true, true, true, true, false, false, false, true]) rfl (by kernel_rfl) rfl (fun _ _ _ h => h) hA (by decide) (fun _ => hS) (fun a w' hA => run_conv Try.underlying3 Try.underlying5 (hA.ev rfl)) ?_; clear hA; intro a hA
    refine d_takef (i := 4) (L' := #[true, true, true, true, true, false, false, true]) rfl (by kernel_rfl) rfl (fun _ _ _ h => h) hA (by decide) (fun _ => hS) (fun a w' hA => run_build_arr [(0, (.int .u8 (IntKind.u8.wrap r2349)))] zero34 Try.underlying34 Try.sizeOf5 hA rfl (fill_step rfl rfl (enc_fit _ _ rfl) (arr_eq (vec_spl' _ _ _ (by decide))) (fill_nil))) ?_; clear hA; intro a hA
    refine d_one (i := 5) (L' := #[true, true, true, true, true, true, false, true]) (by kernel_rfl) rfl rfl (e_litNL [id_1, (((Vector.replicate 32 0 : Vector Int 32).setIfInBounds 0 (IntKind.u8.wrap r2349)))] [(.agg (pHash.enc id_1).toArray), (.agg (pHash.enc (((Vector.replicate 32 0 : Vector Int 32).setIfInBounds 0 (IntKind.u8.wrap r2349)))).toArray)] elt37 hM rfl (by decide) hA rfl rfl (List.cons_ne_nil _ _) (by decide) ?_)
    clear hM hA; intro w2353 g2352 hM hE hlo2354 a hA
    have hlw2355 : ∀ k, Value.ownBlock (.slice (some ⟨g2352, 0, none⟩) 2 2) = some k → w2347.heap.size ≤ k := fun k hk => by cases hk; exact Nat.le_trans hS.size hlo2354
    replace hS := hS.trans (hE.mono hS.size)
    refine ⟨fun _ => hS, ?_⟩
    refine d_takef (i := 6) (L' := #[true, true, true, true, true, true, true, true]) rfl (by kernel_rfl) rfl (fun _ _ _ h => h) hA (by decide) (fun _ => hS) (fun a w' hA => run_len_slice Try.underlying37 (hA.ev rfl)) ?_; clear hA; intro a hA
    refine d_done (by kernel_rfl) ?_
    refine TN ?_
    obtain ⟨o2623, H2622, H⟩ := Option.bind_eq_some_iff.1 H
    refine cutC (fun a w => (.go ()) = o2623 ∧ Mem F w0 w [.box g2292 34 (pHash.enc id_1), .box g2343 39 [(.int .u32 r2304.1.Epoch), (.bool r2304.1.Diffuse), (.slice A2311 r2304.1.Routes.length c2312), (.slice A2314 r2304.1.Stems.length c2315), (.slice A2317 r2304.1.Fluffed.length c2318)], .row 3 (Pl.int .i64).sz (.slice A2311 r2304.1.Routes.length c2312) ((Pl.int .i64).flat r2304.1.Routes), .row 61 pStem.sz (.slice A2314 r2304.1.Stems.length c2315) (pStem.flat r2304.1.Stems), .row 34 pHash.sz (.slice A2317 r2304.1.Fluffed.length c2318) (pHash.flat r2304.1.Fluffed), .box g2340 39 (List.flatten [[(.int .u32 r2304.1.Epoch), (.bool r2304.1.Diffuse), (.slice A2311 r2304.1.Routes.length c2312), (.slice A2314 r2304.1.Stems.length c2315), (.slice A2317 r2304.1.Fluffed.length c2318)], [(.int .u32 r2325.Epoch), (.bool r2325.Diffuse), (.slice A2334 r2325.Routes.length c2335), (.slice A2336 r2325.Stems.length c2337), (.slice A2338 r2325.Fluffed.length c2339)]]), .row 3 (Pl.int .i64).sz (.slice A2334 r2325.Routes.length c2335) ((Pl.int .i64).flat r2325.Routes), .row 61 pStem.sz (.slice A2336 r2325.Stems.length c2337) (pStem.flat r2325.Stems), .row 34 pHash.sz (.slice A2338 r2325.Fluffed.length c2339) (pHash.flat r2325.Fluffed)] ∧ Has 108 [(2, (.int .u32 now_2)), (4, (.int .i64 at_4)), (6, (.pointer (some (⟨g2292, 0, none⟩)))), (13, (.pointer (some (⟨g2343, 0, none⟩)))), (36, (.slice (some ⟨g2340, 0, none⟩) 2 2)), (37, (.int .i64 2)), (38, (.int .i64 0))] a) ?_ ?_
    · refine wp_block ?_
      refine wp_loop_ghost (fun m a w => ∃ (t2614 : Int), law40_RelayFluffs.l0 id_1 r2304 r2349 m t2614 = some o2623 ∧ Mem F w0 w [.box g2292 34 (pHash.enc id_1), .box g2343 39 [(.int .u32 r2304.1.Epoch), (.bool r2304.1.Diffuse), (.slice A2311 r2304.1.Routes.length c2312), (.slice A2314 r2304.1.Stems.length c2315), (.slice A2317 r2304.1.Fluffed.length c2318)], .row 3 (Pl.int .i64).sz (.slice A2311 r2304.1.Routes.length c2312) ((Pl.int .i64).flat r2304.1.Routes), .row 61 pStem.sz (.slice A2314 r2304.1.Stems.length c2315) (pStem.flat r2304.1.Stems), .row 34 pHash.sz (.slice A2317 r2304.1.Fluffed.length c2318) (pHash.flat r2304.1.Fluffed), .box g2340 39 (List.flatten [[(.int .u32 r2304.1.Epoch), (.bool r2304.1.Diffuse), (.slice A2311 r2304.1.Routes.length c2312), (.slice A2314 r2304.1.Stems.length c2315), (.slice A2317 r2304.1.Fluffed.length c2318)], [(.int .u32 r2325.Epoch), (.bool r2325.Diffuse), (.slice A2334 r2325.Routes.length c2335), (.slice A2336 r2325.Stems.length c2337), (.slice A2338 r2325.Fluffed.length c2339)]]), .row 3 (Pl.int .i64).sz (.slice A2334 r2325.Routes.length c2335) ((Pl.int .i64).flat r2325.Routes), .row 61 pStem.sz (.slice A2336 r2325.Stems.length c2337) (pStem.flat r2325.Stems), .row 34 pHash.sz (.slice A2338 r2325.Fluffed.length c2339) (pHash.flat r2325.Fluffed), .row 34 pHash.sz (.slice (some ⟨g2352, 0, none⟩) 2 2) (pHash.flat [id_1, (((Vector.replicate 32 0 : Vector Int 32).setIfInBounds 0 (IntKind.u8.wrap r2349)))])] ∧ Has 108 [(2, (.int .u32 now_2)), (4, (.int .i64 at_4)), (6, (.pointer (some (⟨g2292, 0, none⟩)))), (13, (.pointer (some (⟨g2343, 0, none⟩)))), (36, (.slice (some ⟨g2340, 0, none⟩) 2 2)), (37, (.int .i64 2)), (38, (.int .i64 0)), (47, (.slice (some ⟨g2352, 0, none⟩) 2 2)), (48, (.int .i64 2)), (49, (.int .i64 t2614))] a) k ⟨0, H2622, (hM.sel [11, 1, 8, 9, 10, 2, 3, 4, 5, 0] rfl (by decide)), ((((((((((hA.nil.cons (hA.get 49 _ rfl)).cons (hA.get 48 _ rfl)).cons (hA.get 47 _ rfl)).cons (hA.get 38 _ rfl)).cons (hA.get 37 _ rfl)).cons (hA.get 36 _ rfl)).cons (hA.get 13 _ rfl)).cons (hA.get 6 _ rfl)).cons (hA.get 4 _ rfl)).cons (hA.get 2 _ rfl))⟩ ?_
      clear hM hA; rintro m2624 a w2625 ⟨t2614, H2622, hM, hA⟩
      cases m2624 with
      | zero => exact absurd H2622 (by simp [law40_RelayFluffs.l0])
      | succ m2624 =>
      rw [law40_RelayFluffs.l0] at H2622
      refine wp_seq ?_
      refine wp_region_lit ?_
      refine L1 (stv hA (by decide) (run_bin (hA.ev rfl) (hA.ev rfl) (bin_lss _ _ _ _)) ?_)
      clear hA; intro a hA
      refine LQ ?_
      refine TN ?_
      refine wp_seq ?_
      refine tcond (b := (decide (t2614 < 2))) hA rfl (fun hb2626 => ?_) (fun hb2626 => ?_)
      · replace H2622 := ite_t hb2626 H2622
        refine wp_skip ?_
        refine TN ?_
        refine wp_seq ?_
        refine wp_block ?_
        refine wp_seq ?_
        refine wp_region_lit ?_
        obtain ⟨⟨hi2627, hj2628⟩, H2622⟩ := ite_some H2622
        obtain ⟨ad2629, hq2630, hat2631⟩ := Row.elem' (p := pHash) (RowOk.row (hM.row (p := pHash) (.s (.s (.s (.s (.s (.s (.s (.s (.s .z))))))))))) (RowOk.len (hM.row (p := pHash) (.s (.s (.s (.s (.s (.s (.s (.s (.s .z))))))))))) (Vector.replicate 32 0 : Vector Int 32) t2614 hi2627 hj2628
        refine L1 (stv hA (by decide) (run_idx Try.underlying37 Try.sizeOf34 (hA.ev rfl) hq2630 (hA.ev rfl) hi2627 hj2628) ?_)
        clear hA; intro a hA
        refine L1 (stv hA (by decide) (run_ld (hA.ev rfl) (run_loadP Try.isAgg34 Try.sizeOf34 hat2631)) ?_)
        clear hA; intro a hA
        refine L1 (e_alloc (cs := (pHash.enc (Vector.replicate 32 0 : Vector Int 32))) hM zero34 rfl hA (by decide) ?_)
        clear hM hA; intro w2633 g2632 hM hE  a hA
        refine L1 (e_store (g := g2632) (off := 0) (cur := (pHash.enc (Vector.replicate 32 0 : Vector Int 32))) (cs' := (pHash.enc ([id_1, (((Vector.replicate 32 0 : Vector Int 32).setIfInBounds 0 (IntKind.u8.wrap r2349)))].getD t2614.toNat (Vector.replicate 32 0 : Vector Int 32)))) hM .z Try.sizeOf34 hA rfl (by simp [add_mk]) rfl (agg_size _ _) (agg_one _ _) (Nat.le_of_ble_eq_true (enc_fitL _ _ rfl)) (spl_all (by first | rfl | simp [Value.cells, Pl.len])) ?_)
        clear hM hA; intro w2635  hM hE  a hA
        refine LQ ?_
        refine TN ?_
        refine wp_seq ?_
        refine wp_region_lit ?_
        refine L1 (stv hA (by decide) (run_ld (hA.ev rfl) (run_loadW Try.isAgg39 Try.sizeOf39 (by simp [Pl.len]; try rfl) (hM.box (.s (.s .z))))) ?_)
        clear hA; intro a hA
        refine L1 (stv hA (by decide) (run_ld (hA.ev rfl) (run_loadP Try.isAgg34 Try.sizeOf34 (hM.box .z))) ?_)
        clear hA; intro a hA
        obtain ⟨r2636, H2637, H2622⟩ := Option.bind_eq_some_iff.1 H2622
        refine L1 (st_call Try.call15 hA [(.agg #[(.int .u32 r2304.1.Epoch), (.bool r2304.1.Diffuse), (.slice A2311 r2304.1.Routes.length c2312), (.slice A2314 r2304.1.Stems.length c2315), (.slice A2317 r2304.1.Fluffed.length c2318)]), (.agg (pHash.enc ([id_1, (((Vector.replicate 32 0 : Vector Int 32).setIfInBounds 0 (IntKind.u8.wrap r2349)))].getD t2614.toNat (Vector.replicate 32 0 : Vector Int 32))).toArray)] rfl (by decide) (relay_Fluff.calls _ (Relay.mk r2304.1.Epoch r2304.1.Diffuse r2304.1.Routes r2304.1.Stems r2304.1.Fluffed) _ _ _ _ _ _ _ ((RoV.mk (hM.rowC (p := (Pl.int .i64)) (Ms := []) (.s (.s (.s .z)))) (RowOk.len (hM.row (p := (Pl.int .i64)) (.s (.s (.s .z))))) (RowOk.cap (hM.row (p := (Pl.int .i64)) (.s (.s (.s .z))))))) ((RoV.mk (hM.rowC (p := pStem) (Ms := []) (.s (.s (.s (.s .z))))) (RowOk.len (hM.row (p := pStem) (.s (.s (.s (.s .z)))))) (RowOk.cap (hM.row (p := pStem) (.s (.s (.s (.s .z)))))))) ((RoV.mk (hM.rowC (p := pHash) (Ms := []) (.s (.s (.s (.s (.s .z)))))) (RowOk.len (hM.row (p := pHash) (.s (.s (.s (.s (.s .z))))))) (RowOk.cap (hM.row (p := pHash) (.s (.s (.s (.s (.s .z))))))))) (hM.front (Ms := [])) H2637) ?_)
        clear hA; rintro _ w2638 ⟨v2639, v2640, v2641, rfl, hMc⟩ a hA
        have hE := hMc.below; have hM := hM.call (Ms := []) hMc
        clear hMc; simp only [List.cons_append, List.nil_append] at hM
        obtain ⟨A2643, c2644, rfl⟩ := RowOk.form (hM.row (p := (Pl.int .i64)) .z)
        obtain ⟨A2646, c2647, rfl⟩ := RowOk.form (hM.row (p := pStem) (.s .z))
        obtain ⟨A2649, c2650, rfl⟩ := RowOk.form (hM.row (p := pHash) (.s (.s .z)))
        refine L1 (stv hA (by decide) (run_move (hA.ev rfl)) ?_)
        clear hA; intro a hA
        refine L1 (stv hA (by decide) (run_ext (hA.ev rfl) rfl) ?_)
        clear hA; intro a hA
        refine L1 (stv hA (by decide) (run_ext (hA.ev rfl) rfl) ?_)
        clear hA; intro a hA
        refine L1 (e_alloc (cs := [(.int .u32 0), (.bool false), (.slice none 0 0), (.slice none 0 0), (.slice none 0 0)]) hM zero39 rfl hA (by decide) ?_)
        clear hM hA; intro w2652 g2651 hM hE  a hA
        refine L1 (e_store (g := g2651) (off := 0) (cur := [(.int .u32 0), (.bool false), (.slice none 0 0), (.slice none 0 0), (.slice none 0 0)]) (cs' := [(.int .u32 r2636.1.Epoch), (.bool r2636.1.Diffuse), (.slice A2643 r2636.1.Routes.length c2644), (.slice A2646 r2636.1.Stems.length c2647), (.slice A2649 r2636.1.Fluffed.length c2650)]) hM .z Try.sizeOf39 hA rfl (by simp [add_mk]) rfl (by first | rfl | simp [Value.cells, Pl.len]) (by simp [Value.cells, Value.oneCell']) (by first | exact Nat.le_of_ble_eq_true rfl | (simp [Pl.len]; done)) (spl_all (by first | rfl | simp [Value.cells, Pl.len])) ?_)
        clear hM hA; intro w2654  hM hE  a hA
        refine L1 (stv hA (by decide) (run_assign (hA.ev rfl)) ?_)
        clear hA; intro a hA
        refine LQ ?_
        refine TN ?_
        refine wp_seq ?_
        refine wp_region_lit ?_
        refine L1 (stv hA (by decide) (run_ld (hA.ev rfl) (run_loadW Try.isAgg39 Try.sizeOf39 (by simp [Pl.len]; try rfl) (hM.box (.s (.s (.s (.s (.s (.s .z))))))))) ?_)
        clear hA; intro a hA
        refine L1 (stv hA (by decide) (run_ld (hA.ev rfl) (run_loadP Try.isAgg34 Try.sizeOf34 (hM.box (.s (.s (.s (.s .z))))))) ?_)
        clear hA; intro a hA
        obtain ⟨r2655, H2656, H2622⟩ := Option.bind_eq_some_iff.1 H2622
        refine L1 (st_call Try.call16 hA [(.agg #[(.int .u32 r2304.1.Epoch), (.bool r2304.1.Diffuse), (.slice A2311 r2304.1.Routes.length c2312), (.slice A2314 r2304.1.Stems.length c2315), (.slice A2317 r2304.1.Fluffed.length c2318)]), (.agg (pHash.enc ([id_1, (((Vector.replicate 32 0 : Vector Int 32).setIfInBounds 0 (IntKind.u8.wrap r2349)))].getD t2614.toNat (Vector.replicate 32 0 : Vector Int 32))).toArray)] rfl (by decide) (ref40_Fluff.calls _ (Relay.mk r2304.1.Epoch r2304.1.Diffuse r2304.1.Routes r2304.1.Stems r2304.1.Fluffed) _ _ _ _ _ _ _ ((RoV.mk (hM.rowC (p := (Pl.int .i64)) (Ms := []) (.s (.s (.s (.s (.s (.s (.s .z)))))))) (RowOk.len (hM.row (p := (Pl.int .i64)) (.s (.s (.s (.s (.s (.s (.s .z))))))))) (RowOk.cap (hM.row (p := (Pl.int .i64)) (.s (.s (.s (.s (.s (.s (.s .z))))))))))) ((RoV.mk (hM.rowC (p := pStem) (Ms := []) (.s (.s (.s (.s (.s (.s (.s (.s .z))))))))) (RowOk.len (hM.row (p := pStem) (.s (.s (.s (.s (.s (.s (.s (.s .z)))))))))) (RowOk.cap (hM.row (p := pStem) (.s (.s (.s (.s (.s (.s (.s (.s .z)))))))))))) ((RoV.mk (hM.rowC (p := pHash) (Ms := []) (.s (.s (.s (.s (.s (.s (.s (.s (.s .z)))))))))) (RowOk.len (hM.row (p := pHash) (.s (.s (.s (.s (.s (.s (.s (.s (.s .z))))))))))) (RowOk.cap (hM.row (p := pHash) (.s (.s (.s (.s (.s (.s (.s (.s (.s .z))))))))))))) (hM.front (Ms := [])) H2656) ?_)
        clear hA; rintro _ w2657 ⟨v2658, v2659, v2660, rfl, hMc⟩ a hA
        have hE := hMc.below; have hM := hM.call (Ms := []) hMc
        clear hMc; simp only [List.cons_append, List.nil_append] at hM
        obtain ⟨A2662, c2663, rfl⟩ := RowOk.form (hM.row (p := (Pl.int .i64)) .z)
        obtain ⟨A2665, c2666, rfl⟩ := RowOk.form (hM.row (p := pStem) (.s .z))
        obtain ⟨A2668, c2669, rfl⟩ := RowOk.form (hM.row (p := pHash) (.s (.s .z)))
        refine L1 (stv hA (by decide) (run_move (hA.ev rfl)) ?_)
        clear hA; intro a hA
        refine L1 (stv hA (by decide) (run_ext (hA.ev rfl) rfl) ?_)
        clear hA; intro a hA
        refine L1 (stv hA (by decide) (run_ext (hA.ev rfl) rfl) ?_)
        clear hA; intro a hA
        refine L1 (e_alloc (cs := [(.int .u32 0), (.bool false), (.slice none 0 0), (.slice none 0 0), (.slice none 0 0)]) hM zero39 rfl hA (by decide) ?_)
        clear hM hA; intro w2671 g2670 hM hE  a hA
        refine L1 (e_store (g := g2670) (off := 0) (cur := [(.int .u32 0), (.bool false), (.slice none 0 0), (.slice none 0 0), (.slice none 0 0)]) (cs' := [(.int .u32 r2655.1.Epoch), (.bool r2655.1.Diffuse), (.slice A2662 r2655.1.Routes.length c2663), (.slice A2665 r2655.1.Stems.length c2666), (.slice A2668 r2655.1.Fluffed.length c2669)]) hM .z Try.sizeOf39 hA rfl (by simp [add_mk]) rfl (by first | rfl | simp [Value.cells, Pl.len]) (by simp [Value.cells, Value.oneCell']) (by first | exact Nat.le_of_ble_eq_true rfl | (simp [Pl.len]; done)) (spl_all (by first | rfl | simp [Value.cells, Pl.len])) ?_)
        clear hM hA; intro w2673  hM hE  a hA
        refine L1 (stv hA (by decide) (run_assign (hA.ev rfl)) ?_)
        clear hA; intro a hA
        refine LQ ?_
        refine TN ?_
        refine wp_seq ?_
        obtain ⟨o2691, H2690, H2622⟩ := Option.bind_eq_some_iff.1 H2622
        refine cutC (fun a w => ∃ (t2689 : Bool), t2689 = o2691 ∧ Mem F w0 w [.box g2292 34 (pHash.enc id_1), .box g2343 39 [(.int .u32 r2304.1.Epoch), (.bool r2304.1.Diffuse), (.slice A2311 r2304.1.Routes.length c2312), (.slice A2314 r2304.1.Stems.length c2315), (.slice A2317 r2304.1.Fluffed.length c2318)], .row 3 (Pl.int .i64).sz (.slice A2311 r2304.1.Routes.length c2312) ((Pl.int .i64).flat r2304.1.Routes), .row 61 pStem.sz (.slice A2314 r2304.1.Stems.length c2315) (pStem.flat r2304.1.Stems), .row 34 pHash.sz (.slice A2317 r2304.1.Fluffed.length c2318) (pHash.flat r2304.1.Fluffed), .box g2340 39 (List.flatten [[(.int .u32 r2304.1.Epoch), (.bool r2304.1.Diffuse), (.slice A2311 r2304.1.Routes.length c2312), (.slice A2314 r2304.1.Stems.length c2315), (.slice A2317 r2304.1.Fluffed.length c2318)], [(.int .u32 r2325.Epoch), (.bool r2325.Diffuse), (.slice A2334 r2325.Routes.length c2335), (.slice A2336 r2325.Stems.length c2337), (.slice A2338 r2325.Fluffed.length c2339)]]), .row 3 (Pl.int .i64).sz (.slice A2334 r2325.Routes.length c2335) ((Pl.int .i64).flat r2325.Routes), .row 61 pStem.sz (.slice A2336 r2325.Stems.length c2337) (pStem.flat r2325.Stems), .row 34 pHash.sz (.slice A2338 r2325.Fluffed.length c2339) (pHash.flat r2325.Fluffed), .row 34 pHash.sz (.slice (some ⟨g2352, 0, none⟩) 2 2) (pHash.flat [id_1, (((Vector.replicate 32 0 : Vector Int 32).setIfInBounds 0 (IntKind.u8.wrap r2349)))])] ∧ Has 108 [(2, (.int .u32 now_2)), (4, (.int .i64 at_4)), (6, (.pointer (some (⟨g2292, 0, none⟩)))), (13, (.pointer (some (⟨g2343, 0, none⟩)))), (36, (.slice (some ⟨g2340, 0, none⟩) 2 2)), (37, (.int .i64 2)), (38, (.int .i64 0)), (47, (.slice (some ⟨g2352, 0, none⟩) 2 2)), (48, (.int .i64 2)), (49, (.int .i64 t2614)), (73, (.bool t2689))] a) ?_ ?_
        · refine wp_region_lit ?_
          refine L1 (stv hA (by decide) (run_move (hA.ev rfl)) ?_)
          clear hA; intro a hA
          refine L1 (stv hA (by decide) (run_move (hA.ev rfl)) ?_)
          clear hA; intro a hA
          refine L1 (stv hA (by decide) (run_bin (hA.ev rfl) (hA.ev rfl) (bin_neq _ _ _ _)) ?_)
          clear hA; intro a hA
          refine L1 (stv hA (by decide) (run_move (hA.ev rfl)) ?_)
          clear hA; intro a hA
          refine bsplit (b := (r2636.2 != r2655.2)) (fun hb2692 => ?_) (fun hb2692 => ?_)
          · replace H2690 := ite_t hb2692 H2690
            have hA := hA.re (t := 68) rfl (congrArg Value.bool hb2692)
            refine L1 (gate_off rfl (by decide) rfl hA (by decide) rfl rfl ?_); clear hA; intro a hA
            refine L1 (gate_off rfl (by decide) rfl hA (by decide) rfl rfl ?_); clear hA; intro a hA
            refine L1 (gate_off rfl (by decide) rfl hA (by decide) rfl rfl ?_); clear hA; intro a hA
            refine L1 (gate_off rfl (by decide) rfl hA (by decide) rfl rfl ?_); clear hA; intro a hA
            refine L1 (stv hA (by decide) (run_pick (hA.ev rfl) (fun _ => hA.ev rfl) (fun h => Bool.noConfusion h)) ?_)
            clear hA; intro a hA
            refine LQ ?_
            exact ⟨true, Option.some.inj H2690, (hM.sel [9, 10, 11, 12, 13, 14, 15, 16, 17, 18] rfl (by decide)), (((((((((((hA.nil.cons (hA.get 73 _ rfl)).cons (hA.get 49 _ rfl)).cons (hA.get 48 _ rfl)).cons (hA.get 47 _ rfl)).cons (hA.get 38 _ rfl)).cons (hA.get 37 _ rfl)).cons (hA.get 36 _ rfl)).cons (hA.get 13 _ rfl)).cons (hA.get 6 _ rfl)).cons (hA.get 4 _ rfl)).cons (hA.get 2 _ rfl))⟩
          · replace H2690 := ite_f hb2692 H2690
            have hA := hA.re (t := 68) rfl (congrArg Value.bool hb2692)
            refine L1 (gate_on rfl rfl hA (by decide) rfl (stv hA (by decide) (run_ld (hA.ev rfl) (run_loadW Try.isAgg39 Try.sizeOf39 (by simp [Pl.len]; try rfl) (hM.box (.s (.s (.s (.s .z))))))) ?_))
            clear hA; intro a hA
            refine L1 (gate_on rfl rfl hA (by decide) rfl (stv hA (by decide) (run_ld (hA.ev rfl) (run_loadW Try.isAgg39 Try.sizeOf39 (by simp [Pl.len]; try rfl) (hM.box .z))) ?_))
            clear hA; intro a hA
            obtain ⟨r2693, H2694, H2690⟩ := Option.bind_eq_some_iff.1 H2690
            refine L1 (gate_on rfl rfl hA (by decide) rfl (st_call Try.call17 hA [(.agg #[(.int .u32 r2636.1.Epoch), (.bool r2636.1.Diffuse), (.slice A2643 r2636.1.Routes.length c2644), (.slice A2646 r2636.1.Stems.length c2647), (.slice A2649 r2636.1.Fluffed.length c2650)]), (.agg #[(.int .u32 r2655.1.Epoch), (.bool r2655.1.Diffuse), (.slice A2662 r2655.1.Routes.length c2663), (.slice A2665 r2655.1.Stems.length c2666), (.slice A2668 r2655.1.Fluffed.length c2669)])] rfl (by decide) (ref40_Same.calls _ (Relay.mk r2636.1.Epoch r2636.1.Diffuse r2636.1.Routes r2636.1.Stems r2636.1.Fluffed) (Relay.mk r2655.1.Epoch r2655.1.Diffuse r2655.1.Routes r2655.1.Stems r2655.1.Fluffed) _ _ _ _ _ _ _ _ _ ((RoV.mk (hM.rowC (p := (Pl.int .i64)) (Ms := []) (.s (.s (.s (.s (.s .z)))))) (RowOk.len (hM.row (p := (Pl.int .i64)) (.s (.s (.s (.s (.s .z))))))) (RowOk.cap (hM.row (p := (Pl.int .i64)) (.s (.s (.s (.s (.s .z))))))))) ((RoV.mk (hM.rowC (p := pStem) (Ms := []) (.s (.s (.s (.s (.s (.s .z))))))) (RowOk.len (hM.row (p := pStem) (.s (.s (.s (.s (.s (.s .z)))))))) (RowOk.cap (hM.row (p := pStem) (.s (.s (.s (.s (.s (.s .z)))))))))) ((RoV.mk (hM.rowC (p := pHash) (Ms := []) (.s (.s (.s (.s (.s (.s (.s .z)))))))) (RowOk.len (hM.row (p := pHash) (.s (.s (.s (.s (.s (.s (.s .z))))))))) (RowOk.cap (hM.row (p := pHash) (.s (.s (.s (.s (.s (.s (.s .z))))))))))) ((RoV.mk (hM.rowC (p := (Pl.int .i64)) (Ms := []) (.s .z)) (RowOk.len (hM.row (p := (Pl.int .i64)) (.s .z))) (RowOk.cap (hM.row (p := (Pl.int .i64)) (.s .z))))) ((RoV.mk (hM.rowC (p := pStem) (Ms := []) (.s (.s .z))) (RowOk.len (hM.row (p := pStem) (.s (.s .z)))) (RowOk.cap (hM.row (p := pStem) (.s (.s .z)))))) ((RoV.mk (hM.rowC (p := pHash) (Ms := []) (.s (.s (.s .z)))) (RowOk.len (hM.row (p := pHash) (.s (.s (.s .z))))) (RowOk.cap (hM.row (p := pHash) (.s (.s (.s .z))))))) (hM.front (Ms := [])) H2694) ?_))
            clear hA; rintro _ w2695 ⟨rfl, hMc⟩ a hA
            have hE := hMc.below; have hM := hM.call (Ms := []) hMc
            clear hMc; simp only [List.cons_append, List.nil_append] at hM
            refine L1 (gate_on rfl rfl hA (by decide) rfl (stv hA (by decide) (run_not (hA.ev rfl)) ?_))
            clear hA; intro a hA
            refine L1 (stv hA (by decide) (run_pick (hA.ev rfl) (fun h => Bool.noConfusion h) (fun _ => hA.ev rfl)) ?_)
            clear hA; intro a hA
            refine LQ ?_
            exact ⟨(!r2693), Option.some.inj H2690, (hM.sel [9, 10, 11, 12, 13, 14, 15, 16, 17, 18] rfl (by decide)), (((((((((((hA.nil.cons (hA.get 73 _ rfl)).cons (hA.get 49 _ rfl)).cons (hA.get 48 _ rfl)).cons (hA.get 47 _ rfl)).cons (hA.get 38 _ rfl)).cons (hA.get 37 _ rfl)).cons (hA.get 36 _ rfl)).cons (hA.get 13 _ rfl)).cons (hA.get 6 _ rfl)).cons (hA.get 4 _ rfl)).cons (hA.get 2 _ rfl))⟩
        clear hM hA
        rintro a w2696 ⟨t2689, rfl, hM, hA⟩
        try dsimp only at H2622
        refine TN ?_
        refine tcond (b := t2689) hA rfl (fun hb2697 => ?_) (fun hb2697 => ?_)
        · replace H2622 := ite_t hb2697 H2622
          refine wp_seq ?_
          refine wp_region_lit ?_
          refine L1 (stv hA (by decide) (run_assign (hA.ev rfl)) ?_)
          clear hA; intro a hA
          refine LQ ?_
          refine TN ?_
          refine wp_ret ?_
          obtain rfl := Option.some.inj H2622
          dsimp only at H
          obtain rfl := Option.some.inj H
          refine BR ?_
          refine TR ?_
          refine TR ?_
          refine BR ?_
          refine TR ?_
          refine TR ?_
          refine BR ?_
          refine TR ?_
          refine TR ?_
          refine BR ?_
          refine TR ?_
          exact ret_post1 (fn := Try.f5) hA rfl rfl ⟨_, rfl, rfl, (hM.sel [] rfl (by decide))⟩
        · replace H2622 := ite_f hb2697 H2622
          refine wp_skip ?_
          refine BN ?_
          refine TN ?_
          refine wp_region_lit ?_
          refine L1 (stv hA (by decide) (run_bin (hA.ev rfl) (hA.ev rfl) (bin_add _ _ _ _)) ?_)
          clear hA; intro a hA
          refine L1 (stv hA (by decide) (run_move (hA.ev rfl)) ?_)
          clear hA; intro a hA
          refine LQ ?_
          exact ⟨_, Nat.lt_succ_self m2624, IntKind.i64.wrap (t2614 + 1), H2622, hM, ((((((((((hA.nil.cons (hA.get 49 _ rfl)).cons (hA.get 48 _ rfl)).cons (hA.get 47 _ rfl)).cons (hA.get 38 _ rfl)).cons (hA.get 37 _ rfl)).cons (hA.get 36 _ rfl)).cons (hA.get 13 _ rfl)).cons (hA.get 6 _ rfl)).cons (hA.get 4 _ rfl)).cons (hA.get 2 _ rfl))⟩
      · replace H2622 := ite_f hb2626 H2622
        refine wp_exit ?_
        refine TX ?_
        refine TX ?_
        refine BX ?_
        exact ⟨Option.some.inj H2622, (hM.sel [0, 1, 2, 3, 4, 5, 6, 7, 8] rfl (by decide)), (((((((hA.nil.cons (hA.get 38 _ rfl)).cons (hA.get 37 _ rfl)).cons (hA.get 36 _ rfl)).cons (hA.get 13 _ rfl)).cons (hA.get 6 _ rfl)).cons (hA.get 4 _ rfl)).cons (hA.get 2 _ rfl))⟩
    clear hM hA
    rintro a w2698 ⟨rfl, hM, hA⟩
    try dsimp only at H
    refine TN ?_
    refine wp_seq ?_
    refine wp_region_lit ?_
    refine L1 (stv hA (by decide) (run_move (hA.ev rfl)) ?_)
    clear hA; intro a hA
    refine L1 (stv hA (by decide) (run_move (hA.ev rfl)) ?_)
    clear hA; intro a hA
    refine L1 (stv hA (by decide) (run_bin (hA.ev rfl) (hA.ev rfl) (bin_rem _ _ _ _ (by decide))) ?_)
    clear hA; intro a hA
    refine L1 (e_litN [now_2, now_2.tmod 60] [(.int .u32 now_2), (.int .u32 (now_2.tmod 60))] elt49 hM rfl (by decide) hA rfl rfl (List.cons_ne_nil _ _) (by decide) ?_)
    clear hM hA; intro w2700 g2699 hM hE  a hA
    refine L1 (stv hA (by decide) (run_len_slice Try.underlying49 (hA.ev rfl)) ?_)
    clear hA; intro a hA
    refine L1 (stv hA (by decide) (run_move (hA.ev rfl)) ?_)
    clear hA; intro a hA
    refine LQ ?_
    refine TN ?_
    obtain ⟨o2998, H2997, H⟩ := Option.bind_eq_some_iff.1 H
    refine cutC (fun a w => (.go ()) = o2998 ∧ Mem F w0 w [.box g2292 34 (pHash.enc id_1), .box g2340 39 (List.flatten [[(.int .u32 r2304.1.Epoch), (.bool r2304.1.Diffuse), (.slice A2311 r2304.1.Routes.length c2312), (.slice A2314 r2304.1.Stems.length c2315), (.slice A2317 r2304.1.Fluffed.length c2318)], [(.int .u32 r2325.Epoch), (.bool r2325.Diffuse), (.slice A2334 r2325.Routes.length c2335), (.slice A2336 r2325.Stems.length c2337), (.slice A2338 r2325.Fluffed.length c2339)]]), .row 3 (Pl.int .i64).sz (.slice A2311 r2304.1.Routes.length c2312) ((Pl.int .i64).flat r2304.1.Routes), .row 61 pStem.sz (.slice A2314 r2304.1.Stems.length c2315) (pStem.flat r2304.1.Stems), .row 34 pHash.sz (.slice A2317 r2304.1.Fluffed.length c2318) (pHash.flat r2304.1.Fluffed), .row 3 (Pl.int .i64).sz (.slice A2334 r2325.Routes.length c2335) ((Pl.int .i64).flat r2325.Routes), .row 61 pStem.sz (.slice A2336 r2325.Stems.length c2337) (pStem.flat r2325.Stems), .row 34 pHash.sz (.slice A2338 r2325.Fluffed.length c2339) (pHash.flat r2325.Fluffed)] ∧ Has 108 [(2, (.int .u32 now_2)), (4, (.int .i64 at_4)), (6, (.pointer (some (⟨g2292, 0, none⟩)))), (36, (.slice (some ⟨g2340, 0, none⟩) 2 2)), (37, (.int .i64 2)), (38, (.int .i64 0))] a) ?_ ?_
    · refine wp_block ?_
      refine wp_loop_ghost (fun m a w => ∃ (t2990 : Int), law40_RelayFluffs.l1 now_2 r2304 m t2990 = some o2998 ∧ Mem F w0 w [.box g2292 34 (pHash.enc id_1), .box g2343 39 [(.int .u32 r2304.1.Epoch), (.bool r2304.1.Diffuse), (.slice A2311 r2304.1.Routes.length c2312), (.slice A2314 r2304.1.Stems.length c2315), (.slice A2317 r2304.1.Fluffed.length c2318)], .row 3 (Pl.int .i64).sz (.slice A2311 r2304.1.Routes.length c2312) ((Pl.int .i64).flat r2304.1.Routes), .row 61 pStem.sz (.slice A2314 r2304.1.Stems.length c2315) (pStem.flat r2304.1.Stems), .row 34 pHash.sz (.slice A2317 r2304.1.Fluffed.length c2318) (pHash.flat r2304.1.Fluffed), .box g2340 39 (List.flatten [[(.int .u32 r2304.1.Epoch), (.bool r2304.1.Diffuse), (.slice A2311 r2304.1.Routes.length c2312), (.slice A2314 r2304.1.Stems.length c2315), (.slice A2317 r2304.1.Fluffed.length c2318)], [(.int .u32 r2325.Epoch), (.bool r2325.Diffuse), (.slice A2334 r2325.Routes.length c2335), (.slice A2336 r2325.Stems.length c2337), (.slice A2338 r2325.Fluffed.length c2339)]]), .row 3 (Pl.int .i64).sz (.slice A2334 r2325.Routes.length c2335) ((Pl.int .i64).flat r2325.Routes), .row 61 pStem.sz (.slice A2336 r2325.Stems.length c2337) (pStem.flat r2325.Stems), .row 34 pHash.sz (.slice A2338 r2325.Fluffed.length c2339) (pHash.flat r2325.Fluffed), .row 35 (Pl.int .u32).sz (.slice (some ⟨g2699, 0, none⟩) 2 2) ((Pl.int .u32).flat [now_2, now_2.tmod 60])] ∧ Has 108 [(2, (.int .u32 now_2)), (4, (.int .i64 at_4)), (6, (.pointer (some (⟨g2292, 0, none⟩)))), (13, (.pointer (some (⟨g2343, 0, none⟩)))), (36, (.slice (some ⟨g2340, 0, none⟩) 2 2)), (37, (.int .i64 2)), (38, (.int .i64 0)), (78, (.slice (some ⟨g2699, 0, none⟩) 2 2)), (79, (.int .i64 2)), (80, (.int .i64 t2990))] a) k ⟨0, H2997, (hM.sel [1, 2, 3, 4, 5, 6, 7, 8, 9, 0] rfl (by decide)), ((((((((((hA.nil.cons (hA.get 80 _ rfl)).cons (hA.get 79 _ rfl)).cons (hA.get 78 _ rfl)).cons (hA.get 38 _ rfl)).cons (hA.get 37 _ rfl)).cons (hA.get 36 _ rfl)).cons (hA.get 13 _ rfl)).cons (hA.get 6 _ rfl)).cons (hA.get 4 _ rfl)).cons (hA.get 2 _ rfl))⟩ ?_
      clear hM hA; rintro m2999 a w3000 ⟨t2990, H2997, hM, hA⟩
      cases m2999 with
      | zero => exact absurd H2997 (by simp [law40_RelayFluffs.l1])
      | succ m2999 =>
      rw [law40_RelayFluffs.l1] at H2997
      refine wp_seq ?_
      refine wp_region_lit ?_
      refine L1 (stv hA (by decide) (run_bin (hA.ev rfl) (hA.ev rfl) (bin_lss _ _ _ _)) ?_)
      clear hA; intro a hA
      refine LQ ?_
      refine TN ?_
      refine wp_seq ?_
      refine tcond (b := (decide (t2990 < 2))) hA rfl (fun hb3001 => ?_) (fun hb3001 => ?_)
      · replace H2997 := ite_t hb3001 H2997
        refine wp_skip ?_
        refine TN ?_
        refine wp_seq ?_
        refine wp_block ?_
        refine wp_seq ?_
        refine wp_region_lit ?_
        obtain ⟨⟨hi3002, hj3003⟩, H2997⟩ := ite_some H2997
        obtain ⟨ad3004, hq3005, hat3006⟩ := Row.elem' (p := (Pl.int .u32)) (RowOk.row (hM.row (p := (Pl.int .u32)) (.s (.s (.s (.s (.s (.s (.s (.s (.s .z))))))))))) (RowOk.len (hM.row (p := (Pl.int .u32)) (.s (.s (.s (.s (.s (.s (.s (.s (.s .z))))))))))) (0 : Int) t2990 hi3002 hj3003
        refine L1 (stv hA (by decide) (run_idx Try.underlying49 Try.sizeOf35 (hA.ev rfl) hq3005 (hA.ev rfl) hi3002 hj3003) ?_)
        clear hA; intro a hA
        refine L1 (stv hA (by decide) (run_ld (hA.ev rfl) (run_loadS Try.isAgg35 hat3006)) ?_)
        clear hA; intro a hA
        refine L1 (stv hA (by decide) (run_assign (hA.ev rfl)) ?_)
        clear hA; intro a hA
        refine LQ ?_
        refine TN ?_
        refine wp_seq ?_
        refine wp_region_lit ?_
        refine L1 (stv hA (by decide) (run_ld (hA.ev rfl) (run_loadW Try.isAgg39 Try.sizeOf39 (by simp [Pl.len]; try rfl) (hM.box (.s .z)))) ?_)
        clear hA; intro a hA
        refine L1 (stv hA (by decide) (run_move (hA.ev rfl)) ?_)
        clear hA; intro a hA
        obtain ⟨r3007, H3008, H2997⟩ := Option.bind_eq_some_iff.1 H2997
        refine L1 (st_call Try.call18 hA [(.agg #[(.int .u32 r2304.1.Epoch), (.bool r2304.1.Diffuse), (.slice A2311 r2304.1.Routes.length c2312), (.slice A2314 r2304.1.Stems.length c2315), (.slice A2317 r2304.1.Fluffed.length c2318)]), (.int .u32 ([now_2, now_2.tmod 60].getD t2990.toNat (0 : Int)))] rfl (by decide) (relay_Due.calls _ (Relay.mk r2304.1.Epoch r2304.1.Diffuse r2304.1.Routes r2304.1.Stems r2304.1.Fluffed) _ _ _ _ _ _ _ ((RoV.mk (hM.rowC (p := (Pl.int .i64)) (Ms := []) (.s (.s .z))) (RowOk.len (hM.row (p := (Pl.int .i64)) (.s (.s .z)))) (RowOk.cap (hM.row (p := (Pl.int .i64)) (.s (.s .z)))))) ((RoV.mk (hM.rowC (p := pStem) (Ms := []) (.s (.s (.s .z)))) (RowOk.len (hM.row (p := pStem) (.s (.s (.s .z))))) (RowOk.cap (hM.row (p := pStem) (.s (.s (.s .z))))))) ((RoV.mk (hM.rowC (p := pHash) (Ms := []) (.s (.s (.s (.s .z))))) (RowOk.len (hM.row (p := pHash) (.s (.s (.s (.s .z)))))) (RowOk.cap (hM.row (p := pHash) (.s (.s (.s (.s .z)))))))) (hM.front (Ms := [])) H3008) ?_)
        clear hA; rintro _ w3009 ⟨v3010, v3011, v3012, v3013, rfl, hMc⟩ a hA
        have hE := hMc.below; have hM := hM.call (Ms := []) hMc
        clear hMc; simp only [List.cons_append, List.nil_append] at hM
        obtain ⟨A3015, c3016, rfl⟩ := RowOk.form (hM.row (p := (Pl.int .i64)) .z)
        obtain ⟨A3018, c3019, rfl⟩ := RowOk.form (hM.row (p := pStem) (.s .z))
        obtain ⟨A3021, c3022, rfl⟩ := RowOk.form (hM.row (p := pHash) (.s (.s .z)))
        obtain ⟨A3024, c3025, rfl⟩ := RowOk.form (hM.row (p := pHash) (.s (.s (.s .z))))
        refine L1 (stv hA (by decide) (run_move (hA.ev rfl)) ?_)
        clear hA; intro a hA
        refine L1 (stv hA (by decide) (run_ext (hA.ev rfl) rfl) ?_)
        clear hA; intro a hA
        refine L1 (stv hA (by decide) (run_ext (hA.ev rfl) rfl) ?_)
        clear hA; intro a hA
        refine L1 (e_alloc (cs := [(.int .u32 0), (.bool false), (.slice none 0 0), (.slice none 0 0), (.slice none 0 0)]) hM zero39 rfl hA (by decide) ?_)
        clear hM hA; intro w3027 g3026 hM hE  a hA
        refine L1 (e_store (g := g3026) (off := 0) (cur := [(.int .u32 0), (.bool false), (.slice none 0 0), (.slice none 0 0), (.slice none 0 0)]) (cs' := [(.int .u32 r3007.1.Epoch), (.bool r3007.1.Diffuse), (.slice A3015 r3007.1.Routes.length c3016), (.slice A3018 r3007.1.Stems.length c3019), (.slice A3021 r3007.1.Fluffed.length c3022)]) hM .z Try.sizeOf39 hA rfl (by simp [add_mk]) rfl (by first | rfl | simp [Value.cells, Pl.len]) (by simp [Value.cells, Value.oneCell']) (by first | exact Nat.le_of_ble_eq_true rfl | (simp [Pl.len]; done)) (spl_all (by first | rfl | simp [Value.cells, Pl.len])) ?_)
        clear hM hA; intro w3029  hM hE  a hA
        refine L1 (stv hA (by decide) (run_assign (hA.ev rfl)) ?_)
        clear hA; intro a hA
        refine LQ ?_
        refine TN ?_
        refine wp_seq ?_
        refine wp_region_lit ?_
        refine L1 (stv hA (by decide) (run_ld (hA.ev rfl) (run_loadW Try.isAgg39 Try.sizeOf39 (by simp [Pl.len]; try rfl) (hM.box (.s (.s (.s (.s (.s (.s .z))))))))) ?_)
        clear hA; intro a hA
        refine L1 (stv hA (by decide) (run_move (hA.ev rfl)) ?_)
        clear hA; intro a hA
        obtain ⟨r3030, H3031, H2997⟩ := Option.bind_eq_some_iff.1 H2997
        refine L1 (st_call Try.call19 hA [(.agg #[(.int .u32 r2304.1.Epoch), (.bool r2304.1.Diffuse), (.slice A2311 r2304.1.Routes.length c2312), (.slice A2314 r2304.1.Stems.length c2315), (.slice A2317 r2304.1.Fluffed.length c2318)]), (.int .u32 ([now_2, now_2.tmod 60].getD t2990.toNat (0 : Int)))] rfl (by decide) (ref40_Due.calls _ (Relay.mk r2304.1.Epoch r2304.1.Diffuse r2304.1.Routes r2304.1.Stems r2304.1.Fluffed) _ _ _ _ _ _ _ ((RoV.mk (hM.rowC (p := (Pl.int .i64)) (Ms := []) (.s (.s (.s (.s (.s (.s (.s .z)))))))) (RowOk.len (hM.row (p := (Pl.int .i64)) (.s (.s (.s (.s (.s (.s (.s .z))))))))) (RowOk.cap (hM.row (p := (Pl.int .i64)) (.s (.s (.s (.s (.s (.s (.s .z))))))))))) ((RoV.mk (hM.rowC (p := pStem) (Ms := []) (.s (.s (.s (.s (.s (.s (.s (.s .z))))))))) (RowOk.len (hM.row (p := pStem) (.s (.s (.s (.s (.s (.s (.s (.s .z)))))))))) (RowOk.cap (hM.row (p := pStem) (.s (.s (.s (.s (.s (.s (.s (.s .z)))))))))))) ((RoV.mk (hM.rowC (p := pHash) (Ms := []) (.s (.s (.s (.s (.s (.s (.s (.s (.s .z)))))))))) (RowOk.len (hM.row (p := pHash) (.s (.s (.s (.s (.s (.s (.s (.s (.s .z))))))))))) (RowOk.cap (hM.row (p := pHash) (.s (.s (.s (.s (.s (.s (.s (.s (.s .z))))))))))))) (hM.front (Ms := [])) H3031) ?_)
        clear hA; rintro _ w3032 ⟨v3033, v3034, v3035, v3036, rfl, hMc⟩ a hA
        have hE := hMc.below; have hM := hM.call (Ms := []) hMc
        clear hMc; simp only [List.cons_append, List.nil_append] at hM
        obtain ⟨A3038, c3039, rfl⟩ := RowOk.form (hM.row (p := (Pl.int .i64)) .z)
        obtain ⟨A3041, c3042, rfl⟩ := RowOk.form (hM.row (p := pStem) (.s .z))
        obtain ⟨A3044, c3045, rfl⟩ := RowOk.form (hM.row (p := pHash) (.s (.s .z)))
        obtain ⟨A3047, c3048, rfl⟩ := RowOk.form (hM.row (p := pHash) (.s (.s (.s .z))))
        refine L1 (stv hA (by decide) (run_move (hA.ev rfl)) ?_)
        clear hA; intro a hA
        refine L1 (stv hA (by decide) (run_ext (hA.ev rfl) rfl) ?_)
        clear hA; intro a hA
        refine L1 (stv hA (by decide) (run_ext (hA.ev rfl) rfl) ?_)
        clear hA; intro a hA
        refine L1 (e_alloc (cs := [(.int .u32 0), (.bool false), (.slice none 0 0), (.slice none 0 0), (.slice none 0 0)]) hM zero39 rfl hA (by decide) ?_)
        clear hM hA; intro w3050 g3049 hM hE  a hA
        refine L1 (e_store (g := g3049) (off := 0) (cur := [(.int .u32 0), (.bool false), (.slice none 0 0), (.slice none 0 0), (.slice none 0 0)]) (cs' := [(.int .u32 r3030.1.Epoch), (.bool r3030.1.Diffuse), (.slice A3038 r3030.1.Routes.length c3039), (.slice A3041 r3030.1.Stems.length c3042), (.slice A3044 r3030.1.Fluffed.length c3045)]) hM .z Try.sizeOf39 hA rfl (by simp [add_mk]) rfl (by first | rfl | simp [Value.cells, Pl.len]) (by simp [Value.cells, Value.oneCell']) (by first | exact Nat.le_of_ble_eq_true rfl | (simp [Pl.len]; done)) (spl_all (by first | rfl | simp [Value.cells, Pl.len])) ?_)
        clear hM hA; intro w3052  hM hE  a hA
        refine L1 (stv hA (by decide) (run_assign (hA.ev rfl)) ?_)
        clear hA; intro a hA
        refine LQ ?_
        refine TN ?_
        refine wp_seq ?_
        obtain ⟨o3073, H3072, H2997⟩ := Option.bind_eq_some_iff.1 H2997
        refine cutC (fun a w => ∃ (t3071 : Bool), t3071 = o3073 ∧ Mem F w0 w [.box g2292 34 (pHash.enc id_1), .box g2343 39 [(.int .u32 r2304.1.Epoch), (.bool r2304.1.Diffuse), (.slice A2311 r2304.1.Routes.length c2312), (.slice A2314 r2304.1.Stems.length c2315), (.slice A2317 r2304.1.Fluffed.length c2318)], .row 3 (Pl.int .i64).sz (.slice A2311 r2304.1.Routes.length c2312) ((Pl.int .i64).flat r2304.1.Routes), .row 61 pStem.sz (.slice A2314 r2304.1.Stems.length c2315) (pStem.flat r2304.1.Stems), .row 34 pHash.sz (.slice A2317 r2304.1.Fluffed.length c2318) (pHash.flat r2304.1.Fluffed), .box g2340 39 (List.flatten [[(.int .u32 r2304.1.Epoch), (.bool r2304.1.Diffuse), (.slice A2311 r2304.1.Routes.length c2312), (.slice A2314 r2304.1.Stems.length c2315), (.slice A2317 r2304.1.Fluffed.length c2318)], [(.int .u32 r2325.Epoch), (.bool r2325.Diffuse), (.slice A2334 r2325.Routes.length c2335), (.slice A2336 r2325.Stems.length c2337), (.slice A2338 r2325.Fluffed.length c2339)]]), .row 3 (Pl.int .i64).sz (.slice A2334 r2325.Routes.length c2335) ((Pl.int .i64).flat r2325.Routes), .row 61 pStem.sz (.slice A2336 r2325.Stems.length c2337) (pStem.flat r2325.Stems), .row 34 pHash.sz (.slice A2338 r2325.Fluffed.length c2339) (pHash.flat r2325.Fluffed), .row 35 (Pl.int .u32).sz (.slice (some ⟨g2699, 0, none⟩) 2 2) ((Pl.int .u32).flat [now_2, now_2.tmod 60])] ∧ Has 108 [(2, (.int .u32 now_2)), (4, (.int .i64 at_4)), (6, (.pointer (some (⟨g2292, 0, none⟩)))), (13, (.pointer (some (⟨g2343, 0, none⟩)))), (36, (.slice (some ⟨g2340, 0, none⟩) 2 2)), (37, (.int .i64 2)), (38, (.int .i64 0)), (78, (.slice (some ⟨g2699, 0, none⟩) 2 2)), (79, (.int .i64 2)), (80, (.int .i64 t2990)), (105, (.bool t3071))] a) ?_ ?_
        · refine wp_region_lit ?_
          refine L1 (stv hA (by decide) (run_ld (hA.ev rfl) (run_loadW Try.isAgg39 Try.sizeOf39 (by simp [Pl.len]; try rfl) (hM.box (.s (.s (.s (.s (.s .z)))))))) ?_)
          clear hA; intro a hA
          refine L1 (stv hA (by decide) (run_ld (hA.ev rfl) (run_loadW Try.isAgg39 Try.sizeOf39 (by simp [Pl.len]; try rfl) (hM.box .z))) ?_)
          clear hA; intro a hA
          obtain ⟨r3074, H3075, H3072⟩ := Option.bind_eq_some_iff.1 H3072
          refine L1 (st_call Try.call17 hA [(.agg #[(.int .u32 r3007.1.Epoch), (.bool r3007.1.Diffuse), (.slice A3015 r3007.1.Routes.length c3016), (.slice A3018 r3007.1.Stems.length c3019), (.slice A3021 r3007.1.Fluffed.length c3022)]), (.agg #[(.int .u32 r3030.1.Epoch), (.bool r3030.1.Diffuse), (.slice A3038 r3030.1.Routes.length c3039), (.slice A3041 r3030.1.Stems.length c3042), (.slice A3044 r3030.1.Fluffed.length c3045)])] rfl (by decide) (ref40_Same.calls _ (Relay.mk r3007.1.Epoch r3007.1.Diffuse r3007.1.Routes r3007.1.Stems r3007.1.Fluffed) (Relay.mk r3030.1.Epoch r3030.1.Diffuse r3030.1.Routes r3030.1.Stems r3030.1.Fluffed) _ _ _ _ _ _ _ _ _ ((RoV.mk (hM.rowC (p := (Pl.int .i64)) (Ms := []) (.s (.s (.s (.s (.s (.s .z))))))) (RowOk.len (hM.row (p := (Pl.int .i64)) (.s (.s (.s (.s (.s (.s .z)))))))) (RowOk.cap (hM.row (p := (Pl.int .i64)) (.s (.s (.s (.s (.s (.s .z)))))))))) ((RoV.mk (hM.rowC (p := pStem) (Ms := []) (.s (.s (.s (.s (.s (.s (.s .z)))))))) (RowOk.len (hM.row (p := pStem) (.s (.s (.s (.s (.s (.s (.s .z))))))))) (RowOk.cap (hM.row (p := pStem) (.s (.s (.s (.s (.s (.s (.s .z))))))))))) ((RoV.mk (hM.rowC (p := pHash) (Ms := []) (.s (.s (.s (.s (.s (.s (.s (.s .z))))))))) (RowOk.len (hM.row (p := pHash) (.s (.s (.s (.s (.s (.s (.s (.s .z)))))))))) (RowOk.cap (hM.row (p := pHash) (.s (.s (.s (.s (.s (.s (.s (.s .z)))))))))))) ((RoV.mk (hM.rowC (p := (Pl.int .i64)) (Ms := []) (.s .z)) (RowOk.len (hM.row (p := (Pl.int .i64)) (.s .z))) (RowOk.cap (hM.row (p := (Pl.int .i64)) (.s .z))))) ((RoV.mk (hM.rowC (p := pStem) (Ms := []) (.s (.s .z))) (RowOk.len (hM.row (p := pStem) (.s (.s .z)))) (RowOk.cap (hM.row (p := pStem) (.s (.s .z)))))) ((RoV.mk (hM.rowC (p := pHash) (Ms := []) (.s (.s (.s .z)))) (RowOk.len (hM.row (p := pHash) (.s (.s (.s .z))))) (RowOk.cap (hM.row (p := pHash) (.s (.s (.s .z))))))) (hM.front (Ms := [])) H3075) ?_)
          clear hA; rintro _ w3076 ⟨rfl, hMc⟩ a hA
          have hE := hMc.below; have hM := hM.call (Ms := []) hMc
          clear hMc; simp only [List.cons_append, List.nil_append] at hM
          refine L1 (stv hA (by decide) (run_not (hA.ev rfl)) ?_)
          clear hA; intro a hA
          refine L1 (stv hA (by decide) (run_move (hA.ev rfl)) ?_)
          clear hA; intro a hA
          refine bsplit (b := (!r3074)) (fun hb3077 => ?_) (fun hb3077 => ?_)
          · replace H3072 := ite_t hb3077 H3072
            have hA := hA.re (t := 100) rfl (congrArg Value.bool hb3077)
            refine L1 (gate_off rfl (by decide) rfl hA (by decide) rfl rfl ?_); clear hA; intro a hA
            refine L1 (gate_off rfl (by decide) rfl hA (by decide) rfl rfl ?_); clear hA; intro a hA
            refine L1 (gate_off rfl (by decide) rfl hA (by decide) rfl rfl ?_); clear hA; intro a hA
            refine L1 (gate_off rfl (by decide) rfl hA (by decide) rfl rfl ?_); clear hA; intro a hA
            refine L1 (stv hA (by decide) (run_pick (hA.ev rfl) (fun _ => hA.ev rfl) (fun h => Bool.noConfusion h)) ?_)
            clear hA; intro a hA
            refine LQ ?_
            exact ⟨true, Option.some.inj H3072, (hM.sel [10, 11, 12, 13, 14, 15, 16, 17, 18, 19] rfl (by decide)), (((((((((((hA.nil.cons (hA.get 105 _ rfl)).cons (hA.get 80 _ rfl)).cons (hA.get 79 _ rfl)).cons (hA.get 78 _ rfl)).cons (hA.get 38 _ rfl)).cons (hA.get 37 _ rfl)).cons (hA.get 36 _ rfl)).cons (hA.get 13 _ rfl)).cons (hA.get 6 _ rfl)).cons (hA.get 4 _ rfl)).cons (hA.get 2 _ rfl))⟩
          · replace H3072 := ite_f hb3077 H3072
            have hA := hA.re (t := 100) rfl (congrArg Value.bool hb3077)
            refine L1 (gate_on rfl rfl hA (by decide) rfl (stv hA (by decide) (run_move (hA.ev rfl)) ?_))
            clear hA; intro a hA
            refine L1 (gate_on rfl rfl hA (by decide) rfl (stv hA (by decide) (run_move (hA.ev rfl)) ?_))
            clear hA; intro a hA
            obtain ⟨r3078, H3079, H3072⟩ := Option.bind_eq_some_iff.1 H3072
            refine L1 (gate_on rfl rfl hA (by decide) rfl (st_call Try.call20 hA [(.slice A3024 r3007.2.length c3025), (.slice A3047 r3030.2.length c3048)] rfl (by decide) (ref40_SameHashes.calls _ _ _ _ _ _ _ _ ((RoV.mk (hM.rowC (p := pHash) (Ms := []) (.s (.s (.s (.s (.s (.s (.s (.s (.s .z)))))))))) (RowOk.len (hM.row (p := pHash) (.s (.s (.s (.s (.s (.s (.s (.s (.s .z))))))))))) (RowOk.cap (hM.row (p := pHash) (.s (.s (.s (.s (.s (.s (.s (.s (.s .z))))))))))))) ((RoV.mk (hM.rowC (p := pHash) (Ms := []) (.s (.s (.s (.s .z))))) (RowOk.len (hM.row (p := pHash) (.s (.s (.s (.s .z)))))) (RowOk.cap (hM.row (p := pHash) (.s (.s (.s (.s .z)))))))) (hM.front (Ms := [])) H3079) ?_))
            clear hA; rintro _ w3080 ⟨rfl, hMc⟩ a hA
            have hE := hMc.below; have hM := hM.call (Ms := []) hMc
            clear hMc; simp only [List.cons_append, List.nil_append] at hM
            refine L1 (gate_on rfl rfl hA (by decide) rfl (stv hA (by decide) (run_not (hA.ev rfl)) ?_))
            clear hA; intro a hA
            refine L1 (stv hA (by decide) (run_pick (hA.ev rfl) (fun h => Bool.noConfusion h) (fun _ => hA.ev rfl)) ?_)
            clear hA; intro a hA
            refine LQ ?_
            exact ⟨(!r3078), Option.some.inj H3072, (hM.sel [10, 11, 12, 13, 14, 15, 16, 17, 18, 19] rfl (by decide)), (((((((((((hA.nil.cons (hA.get 105 _ rfl)).cons (hA.get 80 _ rfl)).cons (hA.get 79 _ rfl)).cons (hA.get 78 _ rfl)).cons (hA.get 38 _ rfl)).cons (hA.get 37 _ rfl)).cons (hA.get 36 _ rfl)).cons (hA.get 13 _ rfl)).cons (hA.get 6 _ rfl)).cons (hA.get 4 _ rfl)).cons (hA.get 2 _ rfl))⟩
        clear hM hA
        rintro a w3081 ⟨t3071, rfl, hM, hA⟩
        try dsimp only at H2997
        refine TN ?_
        refine tcond (b := t3071) hA rfl (fun hb3082 => ?_) (fun hb3082 => ?_)
        · replace H2997 := ite_t hb3082 H2997
          refine wp_seq ?_
          refine wp_region_lit ?_
          refine L1 (stv hA (by decide) (run_assign (hA.ev rfl)) ?_)
          clear hA; intro a hA
          refine LQ ?_
          refine TN ?_
          refine wp_ret ?_
          obtain rfl := Option.some.inj H2997
          dsimp only at H
          obtain rfl := Option.some.inj H
          refine BR ?_
          refine TR ?_
          refine TR ?_
          refine BR ?_
          refine TR ?_
          refine BR ?_
          refine TR ?_
          refine TR ?_
          refine BR ?_
          refine TR ?_
          exact ret_post1 (fn := Try.f5) hA rfl rfl ⟨_, rfl, rfl, (hM.sel [] rfl (by decide))⟩
        · replace H2997 := ite_f hb3082 H2997
          refine wp_skip ?_
          refine BN ?_
          refine TN ?_
          refine wp_region_lit ?_
          refine L1 (stv hA (by decide) (run_bin (hA.ev rfl) (hA.ev rfl) (bin_add _ _ _ _)) ?_)
          clear hA; intro a hA
          refine L1 (stv hA (by decide) (run_move (hA.ev rfl)) ?_)
          clear hA; intro a hA
          refine LQ ?_
          exact ⟨_, Nat.lt_succ_self m2999, IntKind.i64.wrap (t2990 + 1), H2997, hM, ((((((((((hA.nil.cons (hA.get 80 _ rfl)).cons (hA.get 79 _ rfl)).cons (hA.get 78 _ rfl)).cons (hA.get 38 _ rfl)).cons (hA.get 37 _ rfl)).cons (hA.get 36 _ rfl)).cons (hA.get 13 _ rfl)).cons (hA.get 6 _ rfl)).cons (hA.get 4 _ rfl)).cons (hA.get 2 _ rfl))⟩
      · replace H2997 := ite_f hb3001 H2997
        refine wp_exit ?_
        refine TX ?_
        refine TX ?_
        refine BX ?_
        exact ⟨Option.some.inj H2997, (hM.sel [0, 5, 2, 3, 4, 6, 7, 8] rfl (by decide)), ((((((hA.nil.cons (hA.get 38 _ rfl)).cons (hA.get 37 _ rfl)).cons (hA.get 36 _ rfl)).cons (hA.get 6 _ rfl)).cons (hA.get 4 _ rfl)).cons (hA.get 2 _ rfl))⟩
    clear hM hA
    rintro a w3083 ⟨rfl, hM, hA⟩
    try dsimp only at H
    refine BN ?_
    refine TN ?_
    refine wp_region_lit ?_
    refine L1 (stv hA (by decide) (run_bin (hA.ev rfl) (hA.ev rfl) (bin_add _ _ _ _)) ?_)
    clear hA; intro a hA
    refine L1 (stv hA (by decide) (run_move (hA.ev rfl)) ?_)
    clear hA; intro a hA
    refine LQ ?_
    refine TN ?_; refine rounds_s ?_
    refine wp_seq ?_
    refine wp_region_lit ?_
    refine L1 (stv hA (by decide) (run_bin (hA.ev rfl) (hA.ev rfl) (bin_lss _ _ _ _)) ?_)
    clear hA; intro a hA
    refine LQ ?_
    refine TN ?_
    refine wp_seq ?_
    refine tcond_t hA rfl ?_
    refine wp_skip ?_
    refine TN ?_
    refine wp_seq ?_
    refine wp_block ?_
    refine wp_seq ?_
    refine wp_region_lit ?_
    refine L1 (stv hA (by decide) (run_idx Try.underlying44 Try.sizeOf39 (hA.ev rfl) rfl (hA.ev rfl) (by decide) (by decide)) ?_)
    clear hA; intro a hA
    refine L1 (stv hA (by decide) (run_ld (hA.ev rfl) (run_loadW Try.isAgg39 Try.sizeOf39 (by simp [Pl.len]; try rfl) (At.seg (segs := [[(.int .u32 r2304.1.Epoch), (.bool r2304.1.Diffuse), (.slice A2311 r2304.1.Routes.length c2312), (.slice A2314 r2304.1.Stems.length c2315), (.slice A2317 r2304.1.Fluffed.length c2318)], [(.int .u32 r2325.Epoch), (.bool r2325.Diffuse), (.slice A2334 r2325.Routes.length c2335), (.slice A2336 r2325.Stems.length c2337), (.slice A2338 r2325.Fluffed.length c2339)]]) (hM.box (.s .z)) 1 rfl rfl))) ?_)
    clear hA; intro a hA
    refine L1 (e_alloc (cs := [(.int .u32 0), (.bool false), (.slice none 0 0), (.slice none 0 0), (.slice none 0 0)]) hM zero39 rfl hA (by decide) ?_)
    clear hM hA; intro w3086 g3085 hM hE  a hA
    refine L1 (e_store (g := g3085) (off := 0) (cur := [(.int .u32 0), (.bool false), (.slice none 0 0), (.slice none 0 0), (.slice none 0 0)]) (cs' := [(.int .u32 r2325.Epoch), (.bool r2325.Diffuse), (.slice A2334 r2325.Routes.length c2335), (.slice A2336 r2325.Stems.length c2337), (.slice A2338 r2325.Fluffed.length c2339)]) hM .z Try.sizeOf39 hA rfl (by simp [add_mk]) rfl (by first | rfl | simp [Value.cells, Pl.len]) (by simp [Value.cells, Value.oneCell']) (by first | exact Nat.le_of_ble_eq_true rfl | (simp [Pl.len]; done)) (spl_all (by first | rfl | simp [Value.cells, Pl.len])) ?_)
    clear hM hA; intro w3088  hM hE  a hA
    refine LQ ?_
    refine TN ?_
    refine wp_seq ?_
    refine wp_seq ?_
    refine draw (fun w' => Below w3088.heap.size w3088 w') [] rfl ?_
    intro w3089 hw hS; replace hM := hM.ext hS; clear hw
    refine rebase hS ?_; clear hS; intro hS
    refine d_take (i := 0) (L' := #[true, false, false, false, false, false, false, false]) rfl (by kernel_rfl) rfl (fun _ _ _ h => h) hA (by decide) rfl hS (fun a w' hA hS' => run_ld (hA.ev rfl) (run_loadP Try.isAgg34 Try.sizeOf34 ((hM.box (.s .z)).extB hS'))) ?_; clear hA; intro a hA
    refine d_takef (i := 1) (L' := #[true, true, false, false, false, false, false, false]) rfl (by kernel_rfl) rfl (fun _ _ _ h => h) hA (by decide) (fun _ => hS) (fun a w' hA => run_move (hA.ev rfl)) ?_; clear hA; intro a hA
    refine d_takef (i := 7) (L' := #[true, true, false, false, false, false, false, true]) rfl (by kernel_rfl) rfl (fun _ _ _ h => h) hA (by decide) (fun _ => hS) (fun a w' hA => run_move (hA.ev rfl)) ?_; clear hA; intro a hA
    obtain ⟨r3091, H3092, H⟩ := Option.bind_eq_some_iff.1 H
    refine d_one (i := 2) (L' := #[true, true, true, false, false, false, false, true]) (by kernel_rfl) rfl rfl (st_call Try.call9 hA [(.int .i64 at_4), (.int .i64 10)] rfl (by decide) (mill_Mod.calls _ _ _ _ _ _ (hM.front (Ms := [])) H3092) ?_)
    clear hA; rintro _ w3093 ⟨rfl, hMc⟩ a hA
    have hE := hMc.below; have hM := hM.call (Ms := []) hMc
    clear hMc; simp only [List.cons_append, List.nil_append] at hM
    replace hS := hS.trans (hE.mono hS.size)
    refine ⟨fun _ => hS, ?_⟩
    refine d_takef (i := 3) (L' := #[true, true, true, true, false, false, false, true]) rfl (by kernel_rfl) rfl (fun _ _ _ h => h) hA (by decide) (fun _ => hS) (fun a w' hA => run_conv Try.underlying3 Try.underlying5 (hA.ev rfl)) ?_; clear hA; intro a hA
    refine d_takef (i := 4) (L' := #[true, true, true, true, true, false, false, true]) rfl (by kernel_rfl) rfl (fun _ _ _ h => h) hA (by decide) (fun _ => hS) (fun a w' hA => run_build_arr [(0, (.int .u8 (IntKind.u8.wrap r3091)))] zero34 Try.underlying34 Try.sizeOf5 hA rfl (fill_step rfl rfl (enc_fit _ _ rfl) (arr_eq (vec_spl' _ _ _ (by decide))) (fill_nil))) ?_; clear hA; intro a hA
    refine d_one (i := 5) (L' := #[true, true, true, true, true, true, false, true]) (by kernel_rfl) rfl rfl (e_litNL [id_1, (((Vector.replicate 32 0 : Vector Int 32).setIfInBounds 0 (IntKind.u8.wrap r3091)))] [(.agg (pHash.enc id_1).toArray), (.agg (pHash.enc (((Vector.replicate 32 0 : Vector Int 32).setIfInBounds 0 (IntKind.u8.wrap r3091)))).toArray)] elt37 hM rfl (by decide) hA rfl rfl (List.cons_ne_nil _ _) (by decide) ?_)
    clear hM hA; intro w3095 g3094 hM hE hlo3096 a hA
    have hlw3097 : ∀ k, Value.ownBlock (.slice (some ⟨g3094, 0, none⟩) 2 2) = some k → w3089.heap.size ≤ k := fun k hk => by cases hk; exact Nat.le_trans hS.size hlo3096
    replace hS := hS.trans (hE.mono hS.size)
    refine ⟨fun _ => hS, ?_⟩
    refine d_takef (i := 6) (L' := #[true, true, true, true, true, true, true, true]) rfl (by kernel_rfl) rfl (fun _ _ _ h => h) hA (by decide) (fun _ => hS) (fun a w' hA => run_len_slice Try.underlying37 (hA.ev rfl)) ?_; clear hA; intro a hA
    refine d_done (by kernel_rfl) ?_
    refine TN ?_
    obtain ⟨o3365, H3364, H⟩ := Option.bind_eq_some_iff.1 H
    refine cutC (fun a w => (.go ()) = o3365 ∧ Mem F w0 w [.box g2292 34 (pHash.enc id_1), .box g3085 39 [(.int .u32 r2325.Epoch), (.bool r2325.Diffuse), (.slice A2334 r2325.Routes.length c2335), (.slice A2336 r2325.Stems.length c2337), (.slice A2338 r2325.Fluffed.length c2339)], .row 3 (Pl.int .i64).sz (.slice A2334 r2325.Routes.length c2335) ((Pl.int .i64).flat r2325.Routes), .row 61 pStem.sz (.slice A2336 r2325.Stems.length c2337) (pStem.flat r2325.Stems), .row 34 pHash.sz (.slice A2338 r2325.Fluffed.length c2339) (pHash.flat r2325.Fluffed), .box g2340 39 (List.flatten [[(.int .u32 r2304.1.Epoch), (.bool r2304.1.Diffuse), (.slice A2311 r2304.1.Routes.length c2312), (.slice A2314 r2304.1.Stems.length c2315), (.slice A2317 r2304.1.Fluffed.length c2318)], [(.int .u32 r2325.Epoch), (.bool r2325.Diffuse), (.slice A2334 r2325.Routes.length c2335), (.slice A2336 r2325.Stems.length c2337), (.slice A2338 r2325.Fluffed.length c2339)]]), .row 3 (Pl.int .i64).sz (.slice A2311 r2304.1.Routes.length c2312) ((Pl.int .i64).flat r2304.1.Routes), .row 61 pStem.sz (.slice A2314 r2304.1.Stems.length c2315) (pStem.flat r2304.1.Stems), .row 34 pHash.sz (.slice A2317 r2304.1.Fluffed.length c2318) (pHash.flat r2304.1.Fluffed)] ∧ Has 108 [(2, (.int .u32 now_2)), (4, (.int .i64 at_4)), (6, (.pointer (some (⟨g2292, 0, none⟩)))), (13, (.pointer (some (⟨g3085, 0, none⟩)))), (36, (.slice (some ⟨g2340, 0, none⟩) 2 2)), (37, (.int .i64 2)), (38, (.int .i64 1))] a) ?_ ?_
    · refine wp_block ?_
      refine wp_loop_ghost (fun m a w => ∃ (t3356 : Int), law40_RelayFluffs.l2 id_1 r2325 r3091 m t3356 = some o3365 ∧ Mem F w0 w [.box g2292 34 (pHash.enc id_1), .box g3085 39 [(.int .u32 r2325.Epoch), (.bool r2325.Diffuse), (.slice A2334 r2325.Routes.length c2335), (.slice A2336 r2325.Stems.length c2337), (.slice A2338 r2325.Fluffed.length c2339)], .row 3 (Pl.int .i64).sz (.slice A2334 r2325.Routes.length c2335) ((Pl.int .i64).flat r2325.Routes), .row 61 pStem.sz (.slice A2336 r2325.Stems.length c2337) (pStem.flat r2325.Stems), .row 34 pHash.sz (.slice A2338 r2325.Fluffed.length c2339) (pHash.flat r2325.Fluffed), .box g2340 39 (List.flatten [[(.int .u32 r2304.1.Epoch), (.bool r2304.1.Diffuse), (.slice A2311 r2304.1.Routes.length c2312), (.slice A2314 r2304.1.Stems.length c2315), (.slice A2317 r2304.1.Fluffed.length c2318)], [(.int .u32 r2325.Epoch), (.bool r2325.Diffuse), (.slice A2334 r2325.Routes.length c2335), (.slice A2336 r2325.Stems.length c2337), (.slice A2338 r2325.Fluffed.length c2339)]]), .row 3 (Pl.int .i64).sz (.slice A2311 r2304.1.Routes.length c2312) ((Pl.int .i64).flat r2304.1.Routes), .row 61 pStem.sz (.slice A2314 r2304.1.Stems.length c2315) (pStem.flat r2304.1.Stems), .row 34 pHash.sz (.slice A2317 r2304.1.Fluffed.length c2318) (pHash.flat r2304.1.Fluffed), .row 34 pHash.sz (.slice (some ⟨g3094, 0, none⟩) 2 2) (pHash.flat [id_1, (((Vector.replicate 32 0 : Vector Int 32).setIfInBounds 0 (IntKind.u8.wrap r3091)))])] ∧ Has 108 [(2, (.int .u32 now_2)), (4, (.int .i64 at_4)), (6, (.pointer (some (⟨g2292, 0, none⟩)))), (13, (.pointer (some (⟨g3085, 0, none⟩)))), (36, (.slice (some ⟨g2340, 0, none⟩) 2 2)), (37, (.int .i64 2)), (38, (.int .i64 1)), (47, (.slice (some ⟨g3094, 0, none⟩) 2 2)), (48, (.int .i64 2)), (49, (.int .i64 t3356))] a) k ⟨0, H3364, (hM.sel [2, 1, 7, 8, 9, 3, 4, 5, 6, 0] rfl (by decide)), ((((((((((hA.nil.cons (hA.get 49 _ rfl)).cons (hA.get 48 _ rfl)).cons (hA.get 47 _ rfl)).cons (hA.get 38 _ rfl)).cons (hA.get 37 _ rfl)).cons (hA.get 36 _ rfl)).cons (hA.get 13 _ rfl)).cons (hA.get 6 _ rfl)).cons (hA.get 4 _ rfl)).cons (hA.get 2 _ rfl))⟩ ?_
      clear hM hA; rintro m3366 a w3367 ⟨t3356, H3364, hM, hA⟩
      cases m3366 with
      | zero => exact absurd H3364 (by simp [law40_RelayFluffs.l2])
      | succ m3366 =>
      rw [law40_RelayFluffs.l2] at H3364
      refine wp_seq ?_
      refine wp_region_lit ?_
      refine L1 (stv hA (by decide) (run_bin (hA.ev rfl) (hA.ev rfl) (bin_lss _ _ _ _)) ?_)
      clear hA; intro a hA
      refine LQ ?_
      refine TN ?_
      refine wp_seq ?_
      refine tcond (b := (decide (t3356 < 2))) hA rfl (fun hb3368 => ?_) (fun hb3368 => ?_)
      · replace H3364 := ite_t hb3368 H3364
        refine wp_skip ?_
        refine TN ?_
        refine wp_seq ?_
        refine wp_block ?_
        refine wp_seq ?_
        refine wp_region_lit ?_
        obtain ⟨⟨hi3369, hj3370⟩, H3364⟩ := ite_some H3364
        obtain ⟨ad3371, hq3372, hat3373⟩ := Row.elem' (p := pHash) (RowOk.row (hM.row (p := pHash) (.s (.s (.s (.s (.s (.s (.s (.s (.s .z))))))))))) (RowOk.len (hM.row (p := pHash) (.s (.s (.s (.s (.s (.s (.s (.s (.s .z))))))))))) (Vector.replicate 32 0 : Vector Int 32) t3356 hi3369 hj3370
        refine L1 (stv hA (by decide) (run_idx Try.underlying37 Try.sizeOf34 (hA.ev rfl) hq3372 (hA.ev rfl) hi3369 hj3370) ?_)
        clear hA; intro a hA
        refine L1 (stv hA (by decide) (run_ld (hA.ev rfl) (run_loadP Try.isAgg34 Try.sizeOf34 hat3373)) ?_)
        clear hA; intro a hA
        refine L1 (e_alloc (cs := (pHash.enc (Vector.replicate 32 0 : Vector Int 32))) hM zero34 rfl hA (by decide) ?_)
        clear hM hA; intro w3375 g3374 hM hE  a hA
        refine L1 (e_store (g := g3374) (off := 0) (cur := (pHash.enc (Vector.replicate 32 0 : Vector Int 32))) (cs' := (pHash.enc ([id_1, (((Vector.replicate 32 0 : Vector Int 32).setIfInBounds 0 (IntKind.u8.wrap r3091)))].getD t3356.toNat (Vector.replicate 32 0 : Vector Int 32)))) hM .z Try.sizeOf34 hA rfl (by simp [add_mk]) rfl (agg_size _ _) (agg_one _ _) (Nat.le_of_ble_eq_true (enc_fitL _ _ rfl)) (spl_all (by first | rfl | simp [Value.cells, Pl.len])) ?_)
        clear hM hA; intro w3377  hM hE  a hA
        refine LQ ?_
        refine TN ?_
        refine wp_seq ?_
        refine wp_region_lit ?_
        refine L1 (stv hA (by decide) (run_ld (hA.ev rfl) (run_loadW Try.isAgg39 Try.sizeOf39 (by simp [Pl.len]; try rfl) (hM.box (.s (.s .z))))) ?_)
        clear hA; intro a hA
        refine L1 (stv hA (by decide) (run_ld (hA.ev rfl) (run_loadP Try.isAgg34 Try.sizeOf34 (hM.box .z))) ?_)
        clear hA; intro a hA
        obtain ⟨r3378, H3379, H3364⟩ := Option.bind_eq_some_iff.1 H3364
        refine L1 (st_call Try.call15 hA [(.agg #[(.int .u32 r2325.Epoch), (.bool r2325.Diffuse), (.slice A2334 r2325.Routes.length c2335), (.slice A2336 r2325.Stems.length c2337), (.slice A2338 r2325.Fluffed.length c2339)]), (.agg (pHash.enc ([id_1, (((Vector.replicate 32 0 : Vector Int 32).setIfInBounds 0 (IntKind.u8.wrap r3091)))].getD t3356.toNat (Vector.replicate 32 0 : Vector Int 32))).toArray)] rfl (by decide) (relay_Fluff.calls _ (Relay.mk r2325.Epoch r2325.Diffuse r2325.Routes r2325.Stems r2325.Fluffed) _ _ _ _ _ _ _ ((RoV.mk (hM.rowC (p := (Pl.int .i64)) (Ms := []) (.s (.s (.s .z)))) (RowOk.len (hM.row (p := (Pl.int .i64)) (.s (.s (.s .z))))) (RowOk.cap (hM.row (p := (Pl.int .i64)) (.s (.s (.s .z))))))) ((RoV.mk (hM.rowC (p := pStem) (Ms := []) (.s (.s (.s (.s .z))))) (RowOk.len (hM.row (p := pStem) (.s (.s (.s (.s .z)))))) (RowOk.cap (hM.row (p := pStem) (.s (.s (.s (.s .z)))))))) ((RoV.mk (hM.rowC (p := pHash) (Ms := []) (.s (.s (.s (.s (.s .z)))))) (RowOk.len (hM.row (p := pHash) (.s (.s (.s (.s (.s .z))))))) (RowOk.cap (hM.row (p := pHash) (.s (.s (.s (.s (.s .z))))))))) (hM.front (Ms := [])) H3379) ?_)
        clear hA; rintro _ w3380 ⟨v3381, v3382, v3383, rfl, hMc⟩ a hA
        have hE := hMc.below; have hM := hM.call (Ms := []) hMc
        clear hMc; simp only [List.cons_append, List.nil_append] at hM
        obtain ⟨A3385, c3386, rfl⟩ := RowOk.form (hM.row (p := (Pl.int .i64)) .z)
        obtain ⟨A3388, c3389, rfl⟩ := RowOk.form (hM.row (p := pStem) (.s .z))
        obtain ⟨A3391, c3392, rfl⟩ := RowOk.form (hM.row (p := pHash) (.s (.s .z)))
        refine L1 (stv hA (by decide) (run_move (hA.ev rfl)) ?_)
        clear hA; intro a hA
        refine L1 (stv hA (by decide) (run_ext (hA.ev rfl) rfl) ?_)
        clear hA; intro a hA
        refine L1 (stv hA (by decide) (run_ext (hA.ev rfl) rfl) ?_)
        clear hA; intro a hA
        refine L1 (e_alloc (cs := [(.int .u32 0), (.bool false), (.slice none 0 0), (.slice none 0 0), (.slice none 0 0)]) hM zero39 rfl hA (by decide) ?_)
        clear hM hA; intro w3394 g3393 hM hE  a hA
        refine L1 (e_store (g := g3393) (off := 0) (cur := [(.int .u32 0), (.bool false), (.slice none 0 0), (.slice none 0 0), (.slice none 0 0)]) (cs' := [(.int .u32 r3378.1.Epoch), (.bool r3378.1.Diffuse), (.slice A3385 r3378.1.Routes.length c3386), (.slice A3388 r3378.1.Stems.length c3389), (.slice A3391 r3378.1.Fluffed.length c3392)]) hM .z Try.sizeOf39 hA rfl (by simp [add_mk]) rfl (by first | rfl | simp [Value.cells, Pl.len]) (by simp [Value.cells, Value.oneCell']) (by first | exact Nat.le_of_ble_eq_true rfl | (simp [Pl.len]; done)) (spl_all (by first | rfl | simp [Value.cells, Pl.len])) ?_)
        clear hM hA; intro w3396  hM hE  a hA
        refine L1 (stv hA (by decide) (run_assign (hA.ev rfl)) ?_)
        clear hA; intro a hA
        refine LQ ?_
        refine TN ?_
        refine wp_seq ?_
        refine wp_region_lit ?_
        refine L1 (stv hA (by decide) (run_ld (hA.ev rfl) (run_loadW Try.isAgg39 Try.sizeOf39 (by simp [Pl.len]; try rfl) (hM.box (.s (.s (.s (.s (.s (.s .z))))))))) ?_)
        clear hA; intro a hA
        refine L1 (stv hA (by decide) (run_ld (hA.ev rfl) (run_loadP Try.isAgg34 Try.sizeOf34 (hM.box (.s (.s (.s (.s .z))))))) ?_)
        clear hA; intro a hA
        obtain ⟨r3397, H3398, H3364⟩ := Option.bind_eq_some_iff.1 H3364
        refine L1 (st_call Try.call16 hA [(.agg #[(.int .u32 r2325.Epoch), (.bool r2325.Diffuse), (.slice A2334 r2325.Routes.length c2335), (.slice A2336 r2325.Stems.length c2337), (.slice A2338 r2325.Fluffed.length c2339)]), (.agg (pHash.enc ([id_1, (((Vector.replicate 32 0 : Vector Int 32).setIfInBounds 0 (IntKind.u8.wrap r3091)))].getD t3356.toNat (Vector.replicate 32 0 : Vector Int 32))).toArray)] rfl (by decide) (ref40_Fluff.calls _ (Relay.mk r2325.Epoch r2325.Diffuse r2325.Routes r2325.Stems r2325.Fluffed) _ _ _ _ _ _ _ ((RoV.mk (hM.rowC (p := (Pl.int .i64)) (Ms := []) (.s (.s (.s (.s (.s (.s (.s .z)))))))) (RowOk.len (hM.row (p := (Pl.int .i64)) (.s (.s (.s (.s (.s (.s (.s .z))))))))) (RowOk.cap (hM.row (p := (Pl.int .i64)) (.s (.s (.s (.s (.s (.s (.s .z))))))))))) ((RoV.mk (hM.rowC (p := pStem) (Ms := []) (.s (.s (.s (.s (.s (.s (.s (.s .z))))))))) (RowOk.len (hM.row (p := pStem) (.s (.s (.s (.s (.s (.s (.s (.s .z)))))))))) (RowOk.cap (hM.row (p := pStem) (.s (.s (.s (.s (.s (.s (.s (.s .z)))))))))))) ((RoV.mk (hM.rowC (p := pHash) (Ms := []) (.s (.s (.s (.s (.s (.s (.s (.s (.s .z)))))))))) (RowOk.len (hM.row (p := pHash) (.s (.s (.s (.s (.s (.s (.s (.s (.s .z))))))))))) (RowOk.cap (hM.row (p := pHash) (.s (.s (.s (.s (.s (.s (.s (.s (.s .z))))))))))))) (hM.front (Ms := [])) H3398) ?_)
        clear hA; rintro _ w3399 ⟨v3400, v3401, v3402, rfl, hMc⟩ a hA
        have hE := hMc.below; have hM := hM.call (Ms := []) hMc
        clear hMc; simp only [List.cons_append, List.nil_append] at hM
        obtain ⟨A3404, c3405, rfl⟩ := RowOk.form (hM.row (p := (Pl.int .i64)) .z)
        obtain ⟨A3407, c3408, rfl⟩ := RowOk.form (hM.row (p := pStem) (.s .z))
        obtain ⟨A3410, c3411, rfl⟩ := RowOk.form (hM.row (p := pHash) (.s (.s .z)))
        refine L1 (stv hA (by decide) (run_move (hA.ev rfl)) ?_)
        clear hA; intro a hA
        refine L1 (stv hA (by decide) (run_ext (hA.ev rfl) rfl) ?_)
        clear hA; intro a hA
        refine L1 (stv hA (by decide) (run_ext (hA.ev rfl) rfl) ?_)
        clear hA; intro a hA
        refine L1 (e_alloc (cs := [(.int .u32 0), (.bool false), (.slice none 0 0), (.slice none 0 0), (.slice none 0 0)]) hM zero39 rfl hA (by decide) ?_)
        clear hM hA; intro w3413 g3412 hM hE  a hA
        refine L1 (e_store (g := g3412) (off := 0) (cur := [(.int .u32 0), (.bool false), (.slice none 0 0), (.slice none 0 0), (.slice none 0 0)]) (cs' := [(.int .u32 r3397.1.Epoch), (.bool r3397.1.Diffuse), (.slice A3404 r3397.1.Routes.length c3405), (.slice A3407 r3397.1.Stems.length c3408), (.slice A3410 r3397.1.Fluffed.length c3411)]) hM .z Try.sizeOf39 hA rfl (by simp [add_mk]) rfl (by first | rfl | simp [Value.cells, Pl.len]) (by simp [Value.cells, Value.oneCell']) (by first | exact Nat.le_of_ble_eq_true rfl | (simp [Pl.len]; done)) (spl_all (by first | rfl | simp [Value.cells, Pl.len])) ?_)
        clear hM hA; intro w3415  hM hE  a hA
        refine L1 (stv hA (by decide) (run_assign (hA.ev rfl)) ?_)
        clear hA; intro a hA
        refine LQ ?_
        refine TN ?_
        refine wp_seq ?_
        obtain ⟨o3433, H3432, H3364⟩ := Option.bind_eq_some_iff.1 H3364
        refine cutC (fun a w => ∃ (t3431 : Bool), t3431 = o3433 ∧ Mem F w0 w [.box g2292 34 (pHash.enc id_1), .box g3085 39 [(.int .u32 r2325.Epoch), (.bool r2325.Diffuse), (.slice A2334 r2325.Routes.length c2335), (.slice A2336 r2325.Stems.length c2337), (.slice A2338 r2325.Fluffed.length c2339)], .row 3 (Pl.int .i64).sz (.slice A2334 r2325.Routes.length c2335) ((Pl.int .i64).flat r2325.Routes), .row 61 pStem.sz (.slice A2336 r2325.Stems.length c2337) (pStem.flat r2325.Stems), .row 34 pHash.sz (.slice A2338 r2325.Fluffed.length c2339) (pHash.flat r2325.Fluffed), .box g2340 39 (List.flatten [[(.int .u32 r2304.1.Epoch), (.bool r2304.1.Diffuse), (.slice A2311 r2304.1.Routes.length c2312), (.slice A2314 r2304.1.Stems.length c2315), (.slice A2317 r2304.1.Fluffed.length c2318)], [(.int .u32 r2325.Epoch), (.bool r2325.Diffuse), (.slice A2334 r2325.Routes.length c2335), (.slice A2336 r2325.Stems.length c2337), (.slice A2338 r2325.Fluffed.length c2339)]]), .row 3 (Pl.int .i64).sz (.slice A2311 r2304.1.Routes.length c2312) ((Pl.int .i64).flat r2304.1.Routes), .row 61 pStem.sz (.slice A2314 r2304.1.Stems.length c2315) (pStem.flat r2304.1.Stems), .row 34 pHash.sz (.slice A2317 r2304.1.Fluffed.length c2318) (pHash.flat r2304.1.Fluffed), .row 34 pHash.sz (.slice (some ⟨g3094, 0, none⟩) 2 2) (pHash.flat [id_1, (((Vector.replicate 32 0 : Vector Int 32).setIfInBounds 0 (IntKind.u8.wrap r3091)))])] ∧ Has 108 [(2, (.int .u32 now_2)), (4, (.int .i64 at_4)), (6, (.pointer (some (⟨g2292, 0, none⟩)))), (13, (.pointer (some (⟨g3085, 0, none⟩)))), (36, (.slice (some ⟨g2340, 0, none⟩) 2 2)), (37, (.int .i64 2)), (38, (.int .i64 1)), (47, (.slice (some ⟨g3094, 0, none⟩) 2 2)), (48, (.int .i64 2)), (49, (.int .i64 t3356)), (73, (.bool t3431))] a) ?_ ?_
        · refine wp_region_lit ?_
          refine L1 (stv hA (by decide) (run_move (hA.ev rfl)) ?_)
          clear hA; intro a hA
          refine L1 (stv hA (by decide) (run_move (hA.ev rfl)) ?_)
          clear hA; intro a hA
          refine L1 (stv hA (by decide) (run_bin (hA.ev rfl) (hA.ev rfl) (bin_neq _ _ _ _)) ?_)
          clear hA; intro a hA
          refine L1 (stv hA (by decide) (run_move (hA.ev rfl)) ?_)
          clear hA; intro a hA
          refine bsplit (b := (r3378.2 != r3397.2)) (fun hb3434 => ?_) (fun hb3434 => ?_)
          · replace H3432 := ite_t hb3434 H3432
            have hA := hA.re (t := 68) rfl (congrArg Value.bool hb3434)
            refine L1 (gate_off rfl (by decide) rfl hA (by decide) rfl rfl ?_); clear hA; intro a hA
            refine L1 (gate_off rfl (by decide) rfl hA (by decide) rfl rfl ?_); clear hA; intro a hA
            refine L1 (gate_off rfl (by decide) rfl hA (by decide) rfl rfl ?_); clear hA; intro a hA
            refine L1 (gate_off rfl (by decide) rfl hA (by decide) rfl rfl ?_); clear hA; intro a hA
            refine L1 (stv hA (by decide) (run_pick (hA.ev rfl) (fun _ => hA.ev rfl) (fun h => Bool.noConfusion h)) ?_)
            clear hA; intro a hA
            refine LQ ?_
            exact ⟨true, Option.some.inj H3432, (hM.sel [9, 10, 11, 12, 13, 14, 15, 16, 17, 18] rfl (by decide)), (((((((((((hA.nil.cons (hA.get 73 _ rfl)).cons (hA.get 49 _ rfl)).cons (hA.get 48 _ rfl)).cons (hA.get 47 _ rfl)).cons (hA.get 38 _ rfl)).cons (hA.get 37 _ rfl)).cons (hA.get 36 _ rfl)).cons (hA.get 13 _ rfl)).cons (hA.get 6 _ rfl)).cons (hA.get 4 _ rfl)).cons (hA.get 2 _ rfl))⟩
          · replace H3432 := ite_f hb3434 H3432
            have hA := hA.re (t := 68) rfl (congrArg Value.bool hb3434)
            refine L1 (gate_on rfl rfl hA (by decide) rfl (stv hA (by decide) (run_ld (hA.ev rfl) (run_loadW Try.isAgg39 Try.sizeOf39 (by simp [Pl.len]; try rfl) (hM.box (.s (.s (.s (.s .z))))))) ?_))
            clear hA; intro a hA
            refine L1 (gate_on rfl rfl hA (by decide) rfl (stv hA (by decide) (run_ld (hA.ev rfl) (run_loadW Try.isAgg39 Try.sizeOf39 (by simp [Pl.len]; try rfl) (hM.box .z))) ?_))
            clear hA; intro a hA
            obtain ⟨r3435, H3436, H3432⟩ := Option.bind_eq_some_iff.1 H3432
            refine L1 (gate_on rfl rfl hA (by decide) rfl (st_call Try.call17 hA [(.agg #[(.int .u32 r3378.1.Epoch), (.bool r3378.1.Diffuse), (.slice A3385 r3378.1.Routes.length c3386), (.slice A3388 r3378.1.Stems.length c3389), (.slice A3391 r3378.1.Fluffed.length c3392)]), (.agg #[(.int .u32 r3397.1.Epoch), (.bool r3397.1.Diffuse), (.slice A3404 r3397.1.Routes.length c3405), (.slice A3407 r3397.1.Stems.length c3408), (.slice A3410 r3397.1.Fluffed.length c3411)])] rfl (by decide) (ref40_Same.calls _ (Relay.mk r3378.1.Epoch r3378.1.Diffuse r3378.1.Routes r3378.1.Stems r3378.1.Fluffed) (Relay.mk r3397.1.Epoch r3397.1.Diffuse r3397.1.Routes r3397.1.Stems r3397.1.Fluffed) _ _ _ _ _ _ _ _ _ ((RoV.mk (hM.rowC (p := (Pl.int .i64)) (Ms := []) (.s (.s (.s (.s (.s .z)))))) (RowOk.len (hM.row (p := (Pl.int .i64)) (.s (.s (.s (.s (.s .z))))))) (RowOk.cap (hM.row (p := (Pl.int .i64)) (.s (.s (.s (.s (.s .z))))))))) ((RoV.mk (hM.rowC (p := pStem) (Ms := []) (.s (.s (.s (.s (.s (.s .z))))))) (RowOk.len (hM.row (p := pStem) (.s (.s (.s (.s (.s (.s .z)))))))) (RowOk.cap (hM.row (p := pStem) (.s (.s (.s (.s (.s (.s .z)))))))))) ((RoV.mk (hM.rowC (p := pHash) (Ms := []) (.s (.s (.s (.s (.s (.s (.s .z)))))))) (RowOk.len (hM.row (p := pHash) (.s (.s (.s (.s (.s (.s (.s .z))))))))) (RowOk.cap (hM.row (p := pHash) (.s (.s (.s (.s (.s (.s (.s .z))))))))))) ((RoV.mk (hM.rowC (p := (Pl.int .i64)) (Ms := []) (.s .z)) (RowOk.len (hM.row (p := (Pl.int .i64)) (.s .z))) (RowOk.cap (hM.row (p := (Pl.int .i64)) (.s .z))))) ((RoV.mk (hM.rowC (p := pStem) (Ms := []) (.s (.s .z))) (RowOk.len (hM.row (p := pStem) (.s (.s .z)))) (RowOk.cap (hM.row (p := pStem) (.s (.s .z)))))) ((RoV.mk (hM.rowC (p := pHash) (Ms := []) (.s (.s (.s .z)))) (RowOk.len (hM.row (p := pHash) (.s (.s (.s .z))))) (RowOk.cap (hM.row (p := pHash) (.s (.s (.s .z))))))) (hM.front (Ms := [])) H3436) ?_))
            clear hA; rintro _ w3437 ⟨rfl, hMc⟩ a hA
            have hE := hMc.below; have hM := hM.call (Ms := []) hMc
            clear hMc; simp only [List.cons_append, List.nil_append] at hM
            refine L1 (gate_on rfl rfl hA (by decide) rfl (stv hA (by decide) (run_not (hA.ev rfl)) ?_))
            clear hA; intro a hA
            refine L1 (stv hA (by decide) (run_pick (hA.ev rfl) (fun h => Bool.noConfusion h) (fun _ => hA.ev rfl)) ?_)
            clear hA; intro a hA
            refine LQ ?_
            exact ⟨(!r3435), Option.some.inj H3432, (hM.sel [9, 10, 11, 12, 13, 14, 15, 16, 17, 18] rfl (by decide)), (((((((((((hA.nil.cons (hA.get 73 _ rfl)).cons (hA.get 49 _ rfl)).cons (hA.get 48 _ rfl)).cons (hA.get 47 _ rfl)).cons (hA.get 38 _ rfl)).cons (hA.get 37 _ rfl)).cons (hA.get 36 _ rfl)).cons (hA.get 13 _ rfl)).cons (hA.get 6 _ rfl)).cons (hA.get 4 _ rfl)).cons (hA.get 2 _ rfl))⟩
        clear hM hA
        rintro a w3438 ⟨t3431, rfl, hM, hA⟩
        try dsimp only at H3364
        refine TN ?_
        refine tcond (b := t3431) hA rfl (fun hb3439 => ?_) (fun hb3439 => ?_)
        · replace H3364 := ite_t hb3439 H3364
          refine wp_seq ?_
          refine wp_region_lit ?_
          refine L1 (stv hA (by decide) (run_assign (hA.ev rfl)) ?_)
          clear hA; intro a hA
          refine LQ ?_
          refine TN ?_
          refine wp_ret ?_
          obtain rfl := Option.some.inj H3364
          dsimp only at H
          obtain rfl := Option.some.inj H
          refine BR ?_
          refine TR ?_
          refine TR ?_
          refine BR ?_
          refine TR ?_
          refine TR ?_
          refine BR ?_
          refine TR ?_
          refine TR ?_
          refine BR ?_
          refine TR ?_
          exact ret_post1 (fn := Try.f5) hA rfl rfl ⟨_, rfl, rfl, (hM.sel [] rfl (by decide))⟩
        · replace H3364 := ite_f hb3439 H3364
          refine wp_skip ?_
          refine BN ?_
          refine TN ?_
          refine wp_region_lit ?_
          refine L1 (stv hA (by decide) (run_bin (hA.ev rfl) (hA.ev rfl) (bin_add _ _ _ _)) ?_)
          clear hA; intro a hA
          refine L1 (stv hA (by decide) (run_move (hA.ev rfl)) ?_)
          clear hA; intro a hA
          refine LQ ?_
          exact ⟨_, Nat.lt_succ_self m3366, IntKind.i64.wrap (t3356 + 1), H3364, hM, ((((((((((hA.nil.cons (hA.get 49 _ rfl)).cons (hA.get 48 _ rfl)).cons (hA.get 47 _ rfl)).cons (hA.get 38 _ rfl)).cons (hA.get 37 _ rfl)).cons (hA.get 36 _ rfl)).cons (hA.get 13 _ rfl)).cons (hA.get 6 _ rfl)).cons (hA.get 4 _ rfl)).cons (hA.get 2 _ rfl))⟩
      · replace H3364 := ite_f hb3368 H3364
        refine wp_exit ?_
        refine TX ?_
        refine TX ?_
        refine BX ?_
        exact ⟨Option.some.inj H3364, (hM.sel [0, 1, 2, 3, 4, 5, 6, 7, 8] rfl (by decide)), (((((((hA.nil.cons (hA.get 38 _ rfl)).cons (hA.get 37 _ rfl)).cons (hA.get 36 _ rfl)).cons (hA.get 13 _ rfl)).cons (hA.get 6 _ rfl)).cons (hA.get 4 _ rfl)).cons (hA.get 2 _ rfl))⟩
    clear hM hA
    rintro a w3440 ⟨rfl, hM, hA⟩
    try dsimp only at H
    refine TN ?_
    refine wp_seq ?_
    refine wp_region_lit ?_
    refine L1 (stv hA (by decide) (run_move (hA.ev rfl)) ?_)
    clear hA; intro a hA
    refine L1 (stv hA (by decide) (run_move (hA.ev rfl)) ?_)
    clear hA; intro a hA
    refine L1 (stv hA (by decide) (run_bin (hA.ev rfl) (hA.ev rfl) (bin_rem _ _ _ _ (by decide))) ?_)
    clear hA; intro a hA
    refine L1 (e_litN [now_2, now_2.tmod 60] [(.int .u32 now_2), (.int .u32 (now_2.tmod 60))] elt49 hM rfl (by decide) hA rfl rfl (List.cons_ne_nil _ _) (by decide) ?_)
    clear hM hA; intro w3442 g3441 hM hE  a hA
    refine L1 (stv hA (by decide) (run_len_slice Try.underlying49 (hA.ev rfl)) ?_)
    clear hA; intro a hA
    refine L1 (stv hA (by decide) (run_move (hA.ev rfl)) ?_)
    clear hA; intro a hA
    refine LQ ?_
    refine TN ?_
    obtain ⟨o3740, H3739, H⟩ := Option.bind_eq_some_iff.1 H
    refine cutC (fun a w => (.go ()) = o3740 ∧ Mem F w0 w [.box g2292 34 (pHash.enc id_1), .box g2340 39 (List.flatten [[(.int .u32 r2304.1.Epoch), (.bool r2304.1.Diffuse), (.slice A2311 r2304.1.Routes.length c2312), (.slice A2314 r2304.1.Stems.length c2315), (.slice A2317 r2304.1.Fluffed.length c2318)], [(.int .u32 r2325.Epoch), (.bool r2325.Diffuse), (.slice A2334 r2325.Routes.length c2335), (.slice A2336 r2325.Stems.length c2337), (.slice A2338 r2325.Fluffed.length c2339)]]), .row 3 (Pl.int .i64).sz (.slice A2311 r2304.1.Routes.length c2312) ((Pl.int .i64).flat r2304.1.Routes), .row 61 pStem.sz (.slice A2314 r2304.1.Stems.length c2315) (pStem.flat r2304.1.Stems), .row 34 pHash.sz (.slice A2317 r2304.1.Fluffed.length c2318) (pHash.flat r2304.1.Fluffed), .row 3 (Pl.int .i64).sz (.slice A2334 r2325.Routes.length c2335) ((Pl.int .i64).flat r2325.Routes), .row 61 pStem.sz (.slice A2336 r2325.Stems.length c2337) (pStem.flat r2325.Stems), .row 34 pHash.sz (.slice A2338 r2325.Fluffed.length c2339) (pHash.flat r2325.Fluffed)] ∧ Has 108 [(2, (.int .u32 now_2)), (4, (.int .i64 at_4)), (6, (.pointer (some (⟨g2292, 0, none⟩)))), (36, (.slice (some ⟨g2340, 0, none⟩) 2 2)), (37, (.int .i64 2)), (38, (.int .i64 1))] a) ?_ ?_
    · refine wp_block ?_
      refine wp_loop_ghost (fun m a w => ∃ (t3732 : Int), law40_RelayFluffs.l3 now_2 r2325 m t3732 = some o3740 ∧ Mem F w0 w [.box g2292 34 (pHash.enc id_1), .box g3085 39 [(.int .u32 r2325.Epoch), (.bool r2325.Diffuse), (.slice A2334 r2325.Routes.length c2335), (.slice A2336 r2325.Stems.length c2337), (.slice A2338 r2325.Fluffed.length c2339)], .row 3 (Pl.int .i64).sz (.slice A2334 r2325.Routes.length c2335) ((Pl.int .i64).flat r2325.Routes), .row 61 pStem.sz (.slice A2336 r2325.Stems.length c2337) (pStem.flat r2325.Stems), .row 34 pHash.sz (.slice A2338 r2325.Fluffed.length c2339) (pHash.flat r2325.Fluffed), .box g2340 39 (List.flatten [[(.int .u32 r2304.1.Epoch), (.bool r2304.1.Diffuse), (.slice A2311 r2304.1.Routes.length c2312), (.slice A2314 r2304.1.Stems.length c2315), (.slice A2317 r2304.1.Fluffed.length c2318)], [(.int .u32 r2325.Epoch), (.bool r2325.Diffuse), (.slice A2334 r2325.Routes.length c2335), (.slice A2336 r2325.Stems.length c2337), (.slice A2338 r2325.Fluffed.length c2339)]]), .row 3 (Pl.int .i64).sz (.slice A2311 r2304.1.Routes.length c2312) ((Pl.int .i64).flat r2304.1.Routes), .row 61 pStem.sz (.slice A2314 r2304.1.Stems.length c2315) (pStem.flat r2304.1.Stems), .row 34 pHash.sz (.slice A2317 r2304.1.Fluffed.length c2318) (pHash.flat r2304.1.Fluffed), .row 35 (Pl.int .u32).sz (.slice (some ⟨g3441, 0, none⟩) 2 2) ((Pl.int .u32).flat [now_2, now_2.tmod 60])] ∧ Has 108 [(2, (.int .u32 now_2)), (4, (.int .i64 at_4)), (6, (.pointer (some (⟨g2292, 0, none⟩)))), (13, (.pointer (some (⟨g3085, 0, none⟩)))), (36, (.slice (some ⟨g2340, 0, none⟩) 2 2)), (37, (.int .i64 2)), (38, (.int .i64 1)), (78, (.slice (some ⟨g3441, 0, none⟩) 2 2)), (79, (.int .i64 2)), (80, (.int .i64 t3732))] a) k ⟨0, H3739, (hM.sel [1, 2, 3, 4, 5, 6, 7, 8, 9, 0] rfl (by decide)), ((((((((((hA.nil.cons (hA.get 80 _ rfl)).cons (hA.get 79 _ rfl)).cons (hA.get 78 _ rfl)).cons (hA.get 38 _ rfl)).cons (hA.get 37 _ rfl)).cons (hA.get 36 _ rfl)).cons (hA.get 13 _ rfl)).cons (hA.get 6 _ rfl)).cons (hA.get 4 _ rfl)).cons (hA.get 2 _ rfl))⟩ ?_
      clear hM hA; rintro m3741 a w3742 ⟨t3732, H3739, hM, hA⟩
      cases m3741 with
      | zero => exact absurd H3739 (by simp [law40_RelayFluffs.l3])
      | succ m3741 =>
      rw [law40_RelayFluffs.l3] at H3739
      refine wp_seq ?_
      refine wp_region_lit ?_
      refine L1 (stv hA (by decide) (run_bin (hA.ev rfl) (hA.ev rfl) (bin_lss _ _ _ _)) ?_)
      clear hA; intro a hA
      refine LQ ?_
      refine TN ?_
      refine wp_seq ?_
      refine tcond (b := (decide (t3732 < 2))) hA rfl (fun hb3743 => ?_) (fun hb3743 => ?_)
      · replace H3739 := ite_t hb3743 H3739
        refine wp_skip ?_
        refine TN ?_
        refine wp_seq ?_
        refine wp_block ?_
        refine wp_seq ?_
        refine wp_region_lit ?_
        obtain ⟨⟨hi3744, hj3745⟩, H3739⟩ := ite_some H3739
        obtain ⟨ad3746, hq3747, hat3748⟩ := Row.elem' (p := (Pl.int .u32)) (RowOk.row (hM.row (p := (Pl.int .u32)) (.s (.s (.s (.s (.s (.s (.s (.s (.s .z))))))))))) (RowOk.len (hM.row (p := (Pl.int .u32)) (.s (.s (.s (.s (.s (.s (.s (.s (.s .z))))))))))) (0 : Int) t3732 hi3744 hj3745
        refine L1 (stv hA (by decide) (run_idx Try.underlying49 Try.sizeOf35 (hA.ev rfl) hq3747 (hA.ev rfl) hi3744 hj3745) ?_)
        clear hA; intro a hA
        refine L1 (stv hA (by decide) (run_ld (hA.ev rfl) (run_loadS Try.isAgg35 hat3748)) ?_)
        clear hA; intro a hA
        refine L1 (stv hA (by decide) (run_assign (hA.ev rfl)) ?_)
        clear hA; intro a hA
        refine LQ ?_
        refine TN ?_
        refine wp_seq ?_
        refine wp_region_lit ?_
        refine L1 (stv hA (by decide) (run_ld (hA.ev rfl) (run_loadW Try.isAgg39 Try.sizeOf39 (by simp [Pl.len]; try rfl) (hM.box (.s .z)))) ?_)
        clear hA; intro a hA
        refine L1 (stv hA (by decide) (run_move (hA.ev rfl)) ?_)
        clear hA; intro a hA
        obtain ⟨r3749, H3750, H3739⟩ := Option.bind_eq_some_iff.1 H3739
        refine L1 (st_call Try.call18 hA [(.agg #[(.int .u32 r2325.Epoch), (.bool r2325.Diffuse), (.slice A2334 r2325.Routes.length c2335), (.slice A2336 r2325.Stems.length c2337), (.slice A2338 r2325.Fluffed.length c2339)]), (.int .u32 ([now_2, now_2.tmod 60].getD t3732.toNat (0 : Int)))] rfl (by decide) (relay_Due.calls _ (Relay.mk r2325.Epoch r2325.Diffuse r2325.Routes r2325.Stems r2325.Fluffed) _ _ _ _ _ _ _ ((RoV.mk (hM.rowC (p := (Pl.int .i64)) (Ms := []) (.s (.s .z))) (RowOk.len (hM.row (p := (Pl.int .i64)) (.s (.s .z)))) (RowOk.cap (hM.row (p := (Pl.int .i64)) (.s (.s .z)))))) ((RoV.mk (hM.rowC (p := pStem) (Ms := []) (.s (.s (.s .z)))) (RowOk.len (hM.row (p := pStem) (.s (.s (.s .z))))) (RowOk.cap (hM.row (p := pStem) (.s (.s (.s .z))))))) ((RoV.mk (hM.rowC (p := pHash) (Ms := []) (.s (.s (.s (.s .z))))) (RowOk.len (hM.row (p := pHash) (.s (.s (.s (.s .z)))))) (RowOk.cap (hM.row (p := pHash) (.s (.s (.s (.s .z)))))))) (hM.front (Ms := [])) H3750) ?_)
        clear hA; rintro _ w3751 ⟨v3752, v3753, v3754, v3755, rfl, hMc⟩ a hA
        have hE := hMc.below; have hM := hM.call (Ms := []) hMc
        clear hMc; simp only [List.cons_append, List.nil_append] at hM
        obtain ⟨A3757, c3758, rfl⟩ := RowOk.form (hM.row (p := (Pl.int .i64)) .z)
        obtain ⟨A3760, c3761, rfl⟩ := RowOk.form (hM.row (p := pStem) (.s .z))
        obtain ⟨A3763, c3764, rfl⟩ := RowOk.form (hM.row (p := pHash) (.s (.s .z)))
        obtain ⟨A3766, c3767, rfl⟩ := RowOk.form (hM.row (p := pHash) (.s (.s (.s .z))))
        refine L1 (stv hA (by decide) (run_move (hA.ev rfl)) ?_)
        clear hA; intro a hA
        refine L1 (stv hA (by decide) (run_ext (hA.ev rfl) rfl) ?_)
        clear hA; intro a hA
        refine L1 (stv hA (by decide) (run_ext (hA.ev rfl) rfl) ?_)
        clear hA; intro a hA
        refine L1 (e_alloc (cs := [(.int .u32 0), (.bool false), (.slice none 0 0), (.slice none 0 0), (.slice none 0 0)]) hM zero39 rfl hA (by decide) ?_)
        clear hM hA; intro w3769 g3768 hM hE  a hA
        refine L1 (e_store (g := g3768) (off := 0) (cur := [(.int .u32 0), (.bool false), (.slice none 0 0), (.slice none 0 0), (.slice none 0 0)]) (cs' := [(.int .u32 r3749.1.Epoch), (.bool r3749.1.Diffuse), (.slice A3757 r3749.1.Routes.length c3758), (.slice A3760 r3749.1.Stems.length c3761), (.slice A3763 r3749.1.Fluffed.length c3764)]) hM .z Try.sizeOf39 hA rfl (by simp [add_mk]) rfl (by first | rfl | simp [Value.cells, Pl.len]) (by simp [Value.cells, Value.oneCell']) (by first | exact Nat.le_of_ble_eq_true rfl | (simp [Pl.len]; done)) (spl_all (by first | rfl | simp [Value.cells, Pl.len])) ?_)
        clear hM hA; intro w3771  hM hE  a hA
        refine L1 (stv hA (by decide) (run_assign (hA.ev rfl)) ?_)
        clear hA; intro a hA
        refine LQ ?_
        refine TN ?_
        refine wp_seq ?_
        refine wp_region_lit ?_
        refine L1 (stv hA (by decide) (run_ld (hA.ev rfl) (run_loadW Try.isAgg39 Try.sizeOf39 (by simp [Pl.len]; try rfl) (hM.box (.s (.s (.s (.s (.s (.s .z))))))))) ?_)
        clear hA; intro a hA
        refine L1 (stv hA (by decide) (run_move (hA.ev rfl)) ?_)
        clear hA; intro a hA
        obtain ⟨r3772, H3773, H3739⟩ := Option.bind_eq_some_iff.1 H3739
        refine L1 (st_call Try.call19 hA [(.agg #[(.int .u32 r2325.Epoch), (.bool r2325.Diffuse), (.slice A2334 r2325.Routes.length c2335), (.slice A2336 r2325.Stems.length c2337), (.slice A2338 r2325.Fluffed.length c2339)]), (.int .u32 ([now_2, now_2.tmod 60].getD t3732.toNat (0 : Int)))] rfl (by decide) (ref40_Due.calls _ (Relay.mk r2325.Epoch r2325.Diffuse r2325.Routes r2325.Stems r2325.Fluffed) _ _ _ _ _ _ _ ((RoV.mk (hM.rowC (p := (Pl.int .i64)) (Ms := []) (.s (.s (.s (.s (.s (.s (.s .z)))))))) (RowOk.len (hM.row (p := (Pl.int .i64)) (.s (.s (.s (.s (.s (.s (.s .z))))))))) (RowOk.cap (hM.row (p := (Pl.int .i64)) (.s (.s (.s (.s (.s (.s (.s .z))))))))))) ((RoV.mk (hM.rowC (p := pStem) (Ms := []) (.s (.s (.s (.s (.s (.s (.s (.s .z))))))))) (RowOk.len (hM.row (p := pStem) (.s (.s (.s (.s (.s (.s (.s (.s .z)))))))))) (RowOk.cap (hM.row (p := pStem) (.s (.s (.s (.s (.s (.s (.s (.s .z)))))))))))) ((RoV.mk (hM.rowC (p := pHash) (Ms := []) (.s (.s (.s (.s (.s (.s (.s (.s (.s .z)))))))))) (RowOk.len (hM.row (p := pHash) (.s (.s (.s (.s (.s (.s (.s (.s (.s .z))))))))))) (RowOk.cap (hM.row (p := pHash) (.s (.s (.s (.s (.s (.s (.s (.s (.s .z))))))))))))) (hM.front (Ms := [])) H3773) ?_)
        clear hA; rintro _ w3774 ⟨v3775, v3776, v3777, v3778, rfl, hMc⟩ a hA
        have hE := hMc.below; have hM := hM.call (Ms := []) hMc
        clear hMc; simp only [List.cons_append, List.nil_append] at hM
        obtain ⟨A3780, c3781, rfl⟩ := RowOk.form (hM.row (p := (Pl.int .i64)) .z)
        obtain ⟨A3783, c3784, rfl⟩ := RowOk.form (hM.row (p := pStem) (.s .z))
        obtain ⟨A3786, c3787, rfl⟩ := RowOk.form (hM.row (p := pHash) (.s (.s .z)))
        obtain ⟨A3789, c3790, rfl⟩ := RowOk.form (hM.row (p := pHash) (.s (.s (.s .z))))
        refine L1 (stv hA (by decide) (run_move (hA.ev rfl)) ?_)
        clear hA; intro a hA
        refine L1 (stv hA (by decide) (run_ext (hA.ev rfl) rfl) ?_)
        clear hA; intro a hA
        refine L1 (stv hA (by decide) (run_ext (hA.ev rfl) rfl) ?_)
        clear hA; intro a hA
        refine L1 (e_alloc (cs := [(.int .u32 0), (.bool false), (.slice none 0 0), (.slice none 0 0), (.slice none 0 0)]) hM zero39 rfl hA (by decide) ?_)
        clear hM hA; intro w3792 g3791 hM hE  a hA
        refine L1 (e_store (g := g3791) (off := 0) (cur := [(.int .u32 0), (.bool false), (.slice none 0 0), (.slice none 0 0), (.slice none 0 0)]) (cs' := [(.int .u32 r3772.1.Epoch), (.bool r3772.1.Diffuse), (.slice A3780 r3772.1.Routes.length c3781), (.slice A3783 r3772.1.Stems.length c3784), (.slice A3786 r3772.1.Fluffed.length c3787)]) hM .z Try.sizeOf39 hA rfl (by simp [add_mk]) rfl (by first | rfl | simp [Value.cells, Pl.len]) (by simp [Value.cells, Value.oneCell']) (by first | exact Nat.le_of_ble_eq_true rfl | (simp [Pl.len]; done)) (spl_all (by first | rfl | simp [Value.cells, Pl.len])) ?_)
        clear hM hA; intro w3794  hM hE  a hA
        refine L1 (stv hA (by decide) (run_assign (hA.ev rfl)) ?_)
        clear hA; intro a hA
        refine LQ ?_
        refine TN ?_
        refine wp_seq ?_
        obtain ⟨o3815, H3814, H3739⟩ := Option.bind_eq_some_iff.1 H3739
        refine cutC (fun a w => ∃ (t3813 : Bool), t3813 = o3815 ∧ Mem F w0 w [.box g2292 34 (pHash.enc id_1), .box g3085 39 [(.int .u32 r2325.Epoch), (.bool r2325.Diffuse), (.slice A2334 r2325.Routes.length c2335), (.slice A2336 r2325.Stems.length c2337), (.slice A2338 r2325.Fluffed.length c2339)], .row 3 (Pl.int .i64).sz (.slice A2334 r2325.Routes.length c2335) ((Pl.int .i64).flat r2325.Routes), .row 61 pStem.sz (.slice A2336 r2325.Stems.length c2337) (pStem.flat r2325.Stems), .row 34 pHash.sz (.slice A2338 r2325.Fluffed.length c2339) (pHash.flat r2325.Fluffed), .box g2340 39 (List.flatten [[(.int .u32 r2304.1.Epoch), (.bool r2304.1.Diffuse), (.slice A2311 r2304.1.Routes.length c2312), (.slice A2314 r2304.1.Stems.length c2315), (.slice A2317 r2304.1.Fluffed.length c2318)], [(.int .u32 r2325.Epoch), (.bool r2325.Diffuse), (.slice A2334 r2325.Routes.length c2335), (.slice A2336 r2325.Stems.length c2337), (.slice A2338 r2325.Fluffed.length c2339)]]), .row 3 (Pl.int .i64).sz (.slice A2311 r2304.1.Routes.length c2312) ((Pl.int .i64).flat r2304.1.Routes), .row 61 pStem.sz (.slice A2314 r2304.1.Stems.length c2315) (pStem.flat r2304.1.Stems), .row 34 pHash.sz (.slice A2317 r2304.1.Fluffed.length c2318) (pHash.flat r2304.1.Fluffed), .row 35 (Pl.int .u32).sz (.slice (some ⟨g3441, 0, none⟩) 2 2) ((Pl.int .u32).flat [now_2, now_2.tmod 60])] ∧ Has 108 [(2, (.int .u32 now_2)), (4, (.int .i64 at_4)), (6, (.pointer (some (⟨g2292, 0, none⟩)))), (13, (.pointer (some (⟨g3085, 0, none⟩)))), (36, (.slice (some ⟨g2340, 0, none⟩) 2 2)), (37, (.int .i64 2)), (38, (.int .i64 1)), (78, (.slice (some ⟨g3441, 0, none⟩) 2 2)), (79, (.int .i64 2)), (80, (.int .i64 t3732)), (105, (.bool t3813))] a) ?_ ?_
        · refine wp_region_lit ?_
          refine L1 (stv hA (by decide) (run_ld (hA.ev rfl) (run_loadW Try.isAgg39 Try.sizeOf39 (by simp [Pl.len]; try rfl) (hM.box (.s (.s (.s (.s (.s .z)))))))) ?_)
          clear hA; intro a hA
          refine L1 (stv hA (by decide) (run_ld (hA.ev rfl) (run_loadW Try.isAgg39 Try.sizeOf39 (by simp [Pl.len]; try rfl) (hM.box .z))) ?_)
          clear hA; intro a hA
          obtain ⟨r3816, H3817, H3814⟩ := Option.bind_eq_some_iff.1 H3814
          refine L1 (st_call Try.call17 hA [(.agg #[(.int .u32 r3749.1.Epoch), (.bool r3749.1.Diffuse), (.slice A3757 r3749.1.Routes.length c3758), (.slice A3760 r3749.1.Stems.length c3761), (.slice A3763 r3749.1.Fluffed.length c3764)]), (.agg #[(.int .u32 r3772.1.Epoch), (.bool r3772.1.Diffuse), (.slice A3780 r3772.1.Routes.length c3781), (.slice A3783 r3772.1.Stems.length c3784), (.slice A3786 r3772.1.Fluffed.length c3787)])] rfl (by decide) (ref40_Same.calls _ (Relay.mk r3749.1.Epoch r3749.1.Diffuse r3749.1.Routes r3749.1.Stems r3749.1.Fluffed) (Relay.mk r3772.1.Epoch r3772.1.Diffuse r3772.1.Routes r3772.1.Stems r3772.1.Fluffed) _ _ _ _ _ _ _ _ _ ((RoV.mk (hM.rowC (p := (Pl.int .i64)) (Ms := []) (.s (.s (.s (.s (.s (.s .z))))))) (RowOk.len (hM.row (p := (Pl.int .i64)) (.s (.s (.s (.s (.s (.s .z)))))))) (RowOk.cap (hM.row (p := (Pl.int .i64)) (.s (.s (.s (.s (.s (.s .z)))))))))) ((RoV.mk (hM.rowC (p := pStem) (Ms := []) (.s (.s (.s (.s (.s (.s (.s .z)))))))) (RowOk.len (hM.row (p := pStem) (.s (.s (.s (.s (.s (.s (.s .z))))))))) (RowOk.cap (hM.row (p := pStem) (.s (.s (.s (.s (.s (.s (.s .z))))))))))) ((RoV.mk (hM.rowC (p := pHash) (Ms := []) (.s (.s (.s (.s (.s (.s (.s (.s .z))))))))) (RowOk.len (hM.row (p := pHash) (.s (.s (.s (.s (.s (.s (.s (.s .z)))))))))) (RowOk.cap (hM.row (p := pHash) (.s (.s (.s (.s (.s (.s (.s (.s .z)))))))))))) ((RoV.mk (hM.rowC (p := (Pl.int .i64)) (Ms := []) (.s .z)) (RowOk.len (hM.row (p := (Pl.int .i64)) (.s .z))) (RowOk.cap (hM.row (p := (Pl.int .i64)) (.s .z))))) ((RoV.mk (hM.rowC (p := pStem) (Ms := []) (.s (.s .z))) (RowOk.len (hM.row (p := pStem) (.s (.s .z)))) (RowOk.cap (hM.row (p := pStem) (.s (.s .z)))))) ((RoV.mk (hM.rowC (p := pHash) (Ms := []) (.s (.s (.s .z)))) (RowOk.len (hM.row (p := pHash) (.s (.s (.s .z))))) (RowOk.cap (hM.row (p := pHash) (.s (.s (.s .z))))))) (hM.front (Ms := [])) H3817) ?_)
          clear hA; rintro _ w3818 ⟨rfl, hMc⟩ a hA
          have hE := hMc.below; have hM := hM.call (Ms := []) hMc
          clear hMc; simp only [List.cons_append, List.nil_append] at hM
          refine L1 (stv hA (by decide) (run_not (hA.ev rfl)) ?_)
          clear hA; intro a hA
          refine L1 (stv hA (by decide) (run_move (hA.ev rfl)) ?_)
          clear hA; intro a hA
          refine bsplit (b := (!r3816)) (fun hb3819 => ?_) (fun hb3819 => ?_)
          · replace H3814 := ite_t hb3819 H3814
            have hA := hA.re (t := 100) rfl (congrArg Value.bool hb3819)
            refine L1 (gate_off rfl (by decide) rfl hA (by decide) rfl rfl ?_); clear hA; intro a hA
            refine L1 (gate_off rfl (by decide) rfl hA (by decide) rfl rfl ?_); clear hA; intro a hA
            refine L1 (gate_off rfl (by decide) rfl hA (by decide) rfl rfl ?_); clear hA; intro a hA
            refine L1 (gate_off rfl (by decide) rfl hA (by decide) rfl rfl ?_); clear hA; intro a hA
            refine L1 (stv hA (by decide) (run_pick (hA.ev rfl) (fun _ => hA.ev rfl) (fun h => Bool.noConfusion h)) ?_)
            clear hA; intro a hA
            refine LQ ?_
            exact ⟨true, Option.some.inj H3814, (hM.sel [10, 11, 12, 13, 14, 15, 16, 17, 18, 19] rfl (by decide)), (((((((((((hA.nil.cons (hA.get 105 _ rfl)).cons (hA.get 80 _ rfl)).cons (hA.get 79 _ rfl)).cons (hA.get 78 _ rfl)).cons (hA.get 38 _ rfl)).cons (hA.get 37 _ rfl)).cons (hA.get 36 _ rfl)).cons (hA.get 13 _ rfl)).cons (hA.get 6 _ rfl)).cons (hA.get 4 _ rfl)).cons (hA.get 2 _ rfl))⟩
          · replace H3814 := ite_f hb3819 H3814
            have hA := hA.re (t := 100) rfl (congrArg Value.bool hb3819)
            refine L1 (gate_on rfl rfl hA (by decide) rfl (stv hA (by decide) (run_move (hA.ev rfl)) ?_))
            clear hA; intro a hA
            refine L1 (gate_on rfl rfl hA (by decide) rfl (stv hA (by decide) (run_move (hA.ev rfl)) ?_))
            clear hA; intro a hA
            obtain ⟨r3820, H3821, H3814⟩ := Option.bind_eq_some_iff.1 H3814
            refine L1 (gate_on rfl rfl hA (by decide) rfl (st_call Try.call20 hA [(.slice A3766 r3749.2.length c3767), (.slice A3789 r3772.2.length c3790)] rfl (by decide) (ref40_SameHashes.calls _ _ _ _ _ _ _ _ ((RoV.mk (hM.rowC (p := pHash) (Ms := []) (.s (.s (.s (.s (.s (.s (.s (.s (.s .z)))))))))) (RowOk.len (hM.row (p := pHash) (.s (.s (.s (.s (.s (.s (.s (.s (.s .z))))))))))) (RowOk.cap (hM.row (p := pHash) (.s (.s (.s (.s (.s (.s (.s (.s (.s .z))))))))))))) ((RoV.mk (hM.rowC (p := pHash) (Ms := []) (.s (.s (.s (.s .z))))) (RowOk.len (hM.row (p := pHash) (.s (.s (.s (.s .z)))))) (RowOk.cap (hM.row (p := pHash) (.s (.s (.s (.s .z)))))))) (hM.front (Ms := [])) H3821) ?_))
            clear hA; rintro _ w3822 ⟨rfl, hMc⟩ a hA
            have hE := hMc.below; have hM := hM.call (Ms := []) hMc
            clear hMc; simp only [List.cons_append, List.nil_append] at hM
            refine L1 (gate_on rfl rfl hA (by decide) rfl (stv hA (by decide) (run_not (hA.ev rfl)) ?_))
            clear hA; intro a hA
            refine L1 (stv hA (by decide) (run_pick (hA.ev rfl) (fun h => Bool.noConfusion h) (fun _ => hA.ev rfl)) ?_)
            clear hA; intro a hA
            refine LQ ?_
            exact ⟨(!r3820), Option.some.inj H3814, (hM.sel [10, 11, 12, 13, 14, 15, 16, 17, 18, 19] rfl (by decide)), (((((((((((hA.nil.cons (hA.get 105 _ rfl)).cons (hA.get 80 _ rfl)).cons (hA.get 79 _ rfl)).cons (hA.get 78 _ rfl)).cons (hA.get 38 _ rfl)).cons (hA.get 37 _ rfl)).cons (hA.get 36 _ rfl)).cons (hA.get 13 _ rfl)).cons (hA.get 6 _ rfl)).cons (hA.get 4 _ rfl)).cons (hA.get 2 _ rfl))⟩
        clear hM hA
        rintro a w3823 ⟨t3813, rfl, hM, hA⟩
        try dsimp only at H3739
        refine TN ?_
        refine tcond (b := t3813) hA rfl (fun hb3824 => ?_) (fun hb3824 => ?_)
        · replace H3739 := ite_t hb3824 H3739
          refine wp_seq ?_
          refine wp_region_lit ?_
          refine L1 (stv hA (by decide) (run_assign (hA.ev rfl)) ?_)
          clear hA; intro a hA
          refine LQ ?_
          refine TN ?_
          refine wp_ret ?_
          obtain rfl := Option.some.inj H3739
          dsimp only at H
          obtain rfl := Option.some.inj H
          refine BR ?_
          refine TR ?_
          refine TR ?_
          refine BR ?_
          refine TR ?_
          refine BR ?_
          refine TR ?_
          refine TR ?_
          refine BR ?_
          refine TR ?_
          exact ret_post1 (fn := Try.f5) hA rfl rfl ⟨_, rfl, rfl, (hM.sel [] rfl (by decide))⟩
        · replace H3739 := ite_f hb3824 H3739
          refine wp_skip ?_
          refine BN ?_
          refine TN ?_
          refine wp_region_lit ?_
          refine L1 (stv hA (by decide) (run_bin (hA.ev rfl) (hA.ev rfl) (bin_add _ _ _ _)) ?_)
          clear hA; intro a hA
          refine L1 (stv hA (by decide) (run_move (hA.ev rfl)) ?_)
          clear hA; intro a hA
          refine LQ ?_
          exact ⟨_, Nat.lt_succ_self m3741, IntKind.i64.wrap (t3732 + 1), H3739, hM, ((((((((((hA.nil.cons (hA.get 80 _ rfl)).cons (hA.get 79 _ rfl)).cons (hA.get 78 _ rfl)).cons (hA.get 38 _ rfl)).cons (hA.get 37 _ rfl)).cons (hA.get 36 _ rfl)).cons (hA.get 13 _ rfl)).cons (hA.get 6 _ rfl)).cons (hA.get 4 _ rfl)).cons (hA.get 2 _ rfl))⟩
      · replace H3739 := ite_f hb3743 H3739
        refine wp_exit ?_
        refine TX ?_
        refine TX ?_
        refine BX ?_
        exact ⟨Option.some.inj H3739, (hM.sel [0, 5, 6, 7, 8, 2, 3, 4] rfl (by decide)), ((((((hA.nil.cons (hA.get 38 _ rfl)).cons (hA.get 37 _ rfl)).cons (hA.get 36 _ rfl)).cons (hA.get 6 _ rfl)).cons (hA.get 4 _ rfl)).cons (hA.get 2 _ rfl))⟩
    clear hM hA
    rintro a w3825 ⟨rfl, hM, hA⟩
    try dsimp only at H
    refine BN ?_
    refine TN ?_
    refine wp_region_lit ?_
    refine L1 (stv hA (by decide) (run_bin (hA.ev rfl) (hA.ev rfl) (bin_add _ _ _ _)) ?_)
    clear hA; intro a hA
    refine L1 (stv hA (by decide) (run_move (hA.ev rfl)) ?_)
    clear hA; intro a hA
    refine LQ ?_
    refine TN ?_; refine rounds_s ?_
    refine wp_seq ?_
    refine wp_region_lit ?_
    refine L1 (stv hA (by decide) (run_bin (hA.ev rfl) (hA.ev rfl) (bin_lss _ _ _ _)) ?_)
    clear hA; intro a hA
    refine LQ ?_
    refine TN ?_
    refine wp_seq ?_
    refine tcond_f hA rfl ?_
    refine wp_exit ?_
    refine TX ?_
    refine TX ?_
    refine BX ?_
    refine TN ?_
    refine wp_seq ?_
    refine wp_region_lit ?_
    refine L1 (stv hA (by decide) (run_assign (hA.ev rfl)) ?_)
    clear hA; intro a hA
    refine LQ ?_
    refine TN ?_
    refine wp_ret ?_
    obtain rfl := Option.some.inj H
    exact ret_post1 (fn := Try.f5) hA rfl rfl ⟨_, rfl, rfl, (hM.sel [] rfl (by decide))⟩

end Go.Proofs.Ytnhgfdinnbadeaa.G
