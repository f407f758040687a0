/- The functions that a law of this seat reaches: what each comes to, as a plain function, and that its code comes to it. Conditions: the plain function gives a value (enough fuel, no panic). -/
import Derived.Test.YtmopbcfjnnchgaaFAddressDetectsx0
set_option linter.unusedVariables false
set_option linter.unusedSimpArgs false
namespace Go.Proofs.Ytmopbcfjnnchgaa.G
open Go Go.RowKit Go.Proofs
def law27_AddressDetects.f (k : Nat) (n_0 : Int) (b_1 : (List Int)) (at_2 : Int) (by_3 : Int) : Option Bool := ((law27_sane.f k ).bind fun r186 => (if (!r186) = true then (some false) else (if (decide (((b_1.length : Nat) : Int) > 60)) = true then (some true) else ((law27_prefix.f k n_0).bind fun r191 => ((address_Encode.f k r191 b_1).bind fun r194 => (Option.bind (α := Bool) (if (r194.2 != 0) = true then (some true) else (some (decide (((r194.1.size : Nat) : Int) < (IntKind.i64.wrap (((r191.size : Nat) : Int) + 7)))))) (fun t203 => (if t203 = true then (some false) else ((mill_Mod.f k at_2 (IntKind.i64.wrap (((r194.1.size : Nat) : Int) - (IntKind.i64.wrap (((r191.size : Nat) : Int) + 1))))).bind fun r209 => (if r194.1.size ≤ 140737488355328 then ((mill_Mod.f k by_3 32).bind fun r217 => (if 0 ≤ r217 ∧ r217 < (((⟨#[113, 112, 122, 114, 121, 57, 120, 56, 103, 102, 50, 116, 118, 100, 119, 48, 115, 51, 106, 110, 53, 52, 107, 104, 99, 101, 54, 109, 117, 97, 55, 108]⟩ : ByteArray).size : Nat) : Int) then (if 0 ≤ (IntKind.i64.wrap ((IntKind.i64.wrap (((r191.size : Nat) : Int) + 1)) + r209)) ∧ (IntKind.i64.wrap ((IntKind.i64.wrap (((r191.size : Nat) : Int) + 1)) + r209)) < ((r194.1.size : Nat) : Int) then (Option.bind (α := Out Bool (Unit)) (if (((bytesOf r194.1).getD (IntKind.i64.wrap ((IntKind.i64.wrap (((r191.size : Nat) : Int) + 1)) + r209)).toNat (0 : Int)) != (sg (⟨#[113, 112, 122, 114, 121, 57, 120, 56, 103, 102, 50, 116, 118, 100, 119, 48, 115, 51, 106, 110, 53, 52, 107, 104, 99, 101, 54, 109, 117, 97, 55, 108]⟩ : ByteArray) r217)) = true then (if 0 ≤ (IntKind.i64.wrap ((IntKind.i64.wrap (((r191.size : Nat) : Int) + 1)) + r209)) ∧ (IntKind.i64.wrap ((IntKind.i64.wrap (((r191.size : Nat) : Int) + 1)) + r209)) < ((r194.1.size : Nat) : Int) then ((address_Decode.f k r191 (ofBytes ((bytesOf r194.1).set (IntKind.i64.wrap ((IntKind.i64.wrap (((r191.size : Nat) : Int) + 1)) + r209)).toNat (sg (⟨#[113, 112, 122, 114, 121, 57, 120, 56, 103, 102, 50, 116, 118, 100, 119, 48, 115, 51, 106, 110, 53, 52, 107, 104, 99, 101, 54, 109, 117, 97, 55, 108]⟩ : ByteArray) r217)))).bind fun r254 => (if (r254.2 == 0) = true then (some (.ret false)) else (some (.go ())))) else none) else (some (.go ()))) (fun o => match o with | .ret r => some r | .go _ => (if r194.1.size ≤ 140737488355328 then (Option.bind (α := Bool) (if (decide ((IntKind.i64.wrap ((IntKind.i64.wrap ((IntKind.i64.wrap (((r191.size : Nat) : Int) + 1)) + r209)) + 1)) < ((r194.1.size : Nat) : Int))) = true then (if 0 ≤ (IntKind.i64.wrap ((IntKind.i64.wrap (((r191.size : Nat) : Int) + 1)) + r209)) ∧ (IntKind.i64.wrap ((IntKind.i64.wrap (((r191.size : Nat) : Int) + 1)) + r209)) < ((r194.1.size : Nat) : Int) then (if 0 ≤ (IntKind.i64.wrap ((IntKind.i64.wrap ((IntKind.i64.wrap (((r191.size : Nat) : Int) + 1)) + r209)) + 1)) ∧ (IntKind.i64.wrap ((IntKind.i64.wrap ((IntKind.i64.wrap (((r191.size : Nat) : Int) + 1)) + r209)) + 1)) < ((r194.1.size : Nat) : Int) then (some (((bytesOf r194.1).getD (IntKind.i64.wrap ((IntKind.i64.wrap (((r191.size : Nat) : Int) + 1)) + r209)).toNat (0 : Int)) != ((bytesOf r194.1).getD (IntKind.i64.wrap ((IntKind.i64.wrap ((IntKind.i64.wrap (((r191.size : Nat) : Int) + 1)) + r209)) + 1)).toNat (0 : Int)))) else none) else none) else (some false)) (fun t285 => (Option.bind (α := Out Bool (Unit)) (if t285 = true then (if 0 ≤ (IntKind.i64.wrap ((IntKind.i64.wrap ((IntKind.i64.wrap (((r191.size : Nat) : Int) + 1)) + r209)) + 1)) ∧ (IntKind.i64.wrap ((IntKind.i64.wrap ((IntKind.i64.wrap (((r191.size : Nat) : Int) + 1)) + r209)) + 1)) < ((r194.1.size : Nat) : Int) then (if 0 ≤ (IntKind.i64.wrap ((IntKind.i64.wrap (((r191.size : Nat) : Int) + 1)) + r209)) ∧ (IntKind.i64.wrap ((IntKind.i64.wrap (((r191.size : Nat) : Int) + 1)) + r209)) < ((r194.1.size : Nat) : Int) then (if 0 ≤ (IntKind.i64.wrap ((IntKind.i64.wrap (((r191.size : Nat) : Int) + 1)) + r209)) ∧ (IntKind.i64.wrap ((IntKind.i64.wrap (((r191.size : Nat) : Int) + 1)) + r209)) < ((r194.1.size : Nat) : Int) then (if 0 ≤ (IntKind.i64.wrap ((IntKind.i64.wrap ((IntKind.i64.wrap (((r191.size : Nat) : Int) + 1)) + r209)) + 1)) ∧ (IntKind.i64.wrap ((IntKind.i64.wrap ((IntKind.i64.wrap (((r191.size : Nat) : Int) + 1)) + r209)) + 1)) < ((r194.1.size : Nat) : Int) then ((address_Decode.f k r191 (ofBytes (((bytesOf r194.1).set (IntKind.i64.wrap ((IntKind.i64.wrap (((r191.size : Nat) : Int) + 1)) + r209)).toNat ((bytesOf r194.1).getD (IntKind.i64.wrap ((IntKind.i64.wrap ((IntKind.i64.wrap (((r191.size : Nat) : Int) + 1)) + r209)) + 1)).toNat (0 : Int))).set (IntKind.i64.wrap ((IntKind.i64.wrap ((IntKind.i64.wrap (((r191.size : Nat) : Int) + 1)) + r209)) + 1)).toNat ((bytesOf r194.1).getD (IntKind.i64.wrap ((IntKind.i64.wrap (((r191.size : Nat) : Int) + 1)) + r209)).toNat (0 : Int))))).bind fun r362 => (if (r362.2 == 0) = true then (some (.ret false)) else (some (.go ())))) else none) else none) else none) else none) else (some (.go ()))) (fun o => match o with | .ret r => some r | .go _ => (some true))))) else none))) else none) else none)) else none))))))))))
set_option maxRecDepth 100000 in
theorem law27_AddressDetects.calls (k : Nat) (n_0 : Int) (b_1 : (List Int)) (at_2 : Int) (by_3 : Int) (F : List (Option Nat)) (v1 : Value) (r : Bool) (w0 : World) (h1 : RoV F (Pl.int .u8) w0 v1 b_1) (hM : Mem F w0 w0 []) (H : law27_AddressDetects.f k n_0 b_1 at_2 by_3 = some r) :
    Calls Try.prog 8 #[(.int .i64 n_0), v1, (.int .i64 at_2), (.int .i64 by_3)] w0 fun e w' => ∃ v, e = .returned v ∧ v = (.bool r) ∧ Mem F w0 w' [] := by
  unfold law27_AddressDetects.f at H
  obtain ⟨A1, c1, rfl, hr1, hc1⟩ := h1
  refine enterL (n := 123) [(.int .i64 n_0), (.slice A1 b_1.length c1), (.int .i64 at_2), (.int .i64 by_3)] Try.func8 rfl rfl rfl ?_
  intro a hA
  refine wp_seq ?_
  refine wp_region_lit ?_
  refine L1 (stv hA (by decide) (run_assign (hA.ev rfl)) ?_)
  clear hA; intro a hA
  refine LQ ?_
  refine TN ?_
  refine wp_seq ?_
  refine wp_seq ?_
  refine wp_region_lit ?_
  obtain ⟨r186, H187, H⟩ := Option.bind_eq_some_iff.1 H
  refine L1 (st_call Try.call9 hA [] rfl (by decide) (law27_sane.calls _ _ _ _ (hM.front (Ms := [])) H187) ?_)
  clear hA; rintro _ w188 ⟨rfl, hMc⟩ a hA
  have hE := hMc.below; have hM := hM.call (Ms := []) hMc
  clear hMc; simp only [List.cons_append, List.nil_append] at hM
  refine L1 (stv hA (by decide) (run_not (hA.ev rfl)) ?_)
  clear hA; intro a hA
  refine LQ ?_
  refine TN ?_
  refine tcond (b := (!r186)) hA rfl (fun hb189 => ?_) (fun hb189 => ?_)
  · replace H := ite_t hb189 H
    refine wp_seq ?_
    refine wp_region_lit ?_
    refine L1 (stv hA (by decide) (run_assign (hA.ev rfl)) ?_)
    clear hA; intro a hA
    refine LQ ?_
    refine TN ?_
    refine wp_ret ?_
    obtain rfl := Option.some.inj H
    refine TR ?_
    exact ret_post1 (fn := Try.f8) hA rfl rfl ⟨_, rfl, rfl, hM⟩
  · replace H := ite_f hb189 H
    refine wp_skip ?_
    refine TN ?_
    refine wp_seq ?_
    refine wp_seq ?_
    refine wp_region_lit ?_
    refine L1 (stv hA (by decide) (run_move (hA.ev rfl)) ?_)
    clear hA; intro a hA
    refine L1 (stv hA (by decide) (run_len_slice Try.underlying22 (hA.ev rfl)) ?_)
    clear hA; intro a hA
    refine L1 (stv hA (by decide) (run_bin (hA.ev rfl) (hA.ev rfl) (bin_gtr _ _ _ _)) ?_)
    clear hA; intro a hA
    refine LQ ?_
    refine TN ?_
    refine tcond (b := (decide (((b_1.length : Nat) : Int) > 60))) hA rfl (fun hb190 => ?_) (fun hb190 => ?_)
    · replace H := ite_t hb190 H
      refine wp_seq ?_
      refine wp_region_lit ?_
      refine L1 (stv hA (by decide) (run_assign (hA.ev rfl)) ?_)
      clear hA; intro a hA
      refine LQ ?_
      refine TN ?_
      refine wp_ret ?_
      obtain rfl := Option.some.inj H
      refine TR ?_
      exact ret_post1 (fn := Try.f8) hA rfl rfl ⟨_, rfl, rfl, hM⟩
    · replace H := ite_f hb190 H
      refine wp_skip ?_
      refine TN ?_
      refine wp_seq ?_
      refine wp_region_lit ?_
      refine L1 (stv hA (by decide) (run_move (hA.ev rfl)) ?_)
      clear hA; intro a hA
      obtain ⟨r191, H192, H⟩ := Option.bind_eq_some_iff.1 H
      refine L1 (st_call Try.call15 hA [(.int .i64 n_0)] rfl (by decide) (law27_prefix.calls _ _ _ _ _ (hM.front (Ms := [])) H192) ?_)
      clear hA; rintro _ w193 ⟨rfl, hMc⟩ a hA
      have hE := hMc.below; have hM := hM.call (Ms := []) hMc
      clear hMc; simp only [List.cons_append, List.nil_append] at hM
      refine L1 (stv hA (by decide) (run_assign (hA.ev rfl)) ?_)
      clear hA; intro a hA
      refine LQ ?_
      refine TN ?_
      refine wp_seq ?_
      refine wp_region_lit ?_
      refine L1 (stv hA (by decide) (run_move (hA.ev rfl)) ?_)
      clear hA; intro a hA
      refine L1 (stv hA (by decide) (run_move (hA.ev rfl)) ?_)
      clear hA; intro a hA
      obtain ⟨r194, H195, H⟩ := Option.bind_eq_some_iff.1 H
      refine L1 (st_call Try.call21 hA [(.string r191), (.slice A1 b_1.length c1)] rfl (by decide) (address_Encode.calls _ _ _ _ _ _ _ ((RoV.mk (hM.roC (Ms := []) hr1) (Eq.refl b_1.length) hc1)) (hM.front (Ms := [])) H195) ?_)
      clear hA; rintro _ w196 ⟨rfl, hMc⟩ a hA
      have hE := hMc.below; have hM := hM.call (Ms := []) hMc
      clear hMc; simp only [List.cons_append, List.nil_append] at hM
      refine L1 (stv hA (by decide) (run_move (hA.ev rfl)) ?_)
      clear hA; intro a hA
      refine L1 (stv hA (by decide) (run_ext (hA.ev rfl) rfl) ?_)
      clear hA; intro a hA
      refine L1 (stv hA (by decide) (run_ext (hA.ev rfl) rfl) ?_)
      clear hA; intro a hA
      refine L1 (stv hA (by decide) (run_assign (hA.ev rfl)) ?_)
      clear hA; intro a hA
      refine L1 (stv hA (by decide) (run_assign (hA.ev rfl)) ?_)
      clear hA; intro a hA
      refine LQ ?_
      refine TN ?_
      refine wp_seq ?_
      refine wp_seq ?_
      obtain ⟨o205, H204, H⟩ := Option.bind_eq_some_iff.1 H
      refine cutC (fun a w => ∃ (t203 : Bool), t203 = o205 ∧ Mem F w0 w [] ∧ Has 123 [(2, (.int .i64 at_2)), (3, (.int .i64 by_3)), (9, (.string r191)), (10, (.string r194.1)), (43, (.bool t203))] a) ?_ ?_
      · refine wp_region_lit ?_
        refine L1 (stv hA (by decide) (run_move (hA.ev rfl)) ?_)
        clear hA; intro a hA
        refine L1 (stv hA (by decide) (run_bin (hA.ev rfl) (hA.ev rfl) (bin_neq _ _ _ _)) ?_)
        clear hA; intro a hA
        refine L1 (stv hA (by decide) (run_move (hA.ev rfl)) ?_)
        clear hA; intro a hA
        refine bsplit (b := (r194.2 != 0)) (fun hb206 => ?_) (fun hb206 => ?_)
        · replace H204 := ite_t hb206 H204
          have hA := hA.re (t := 36) rfl (congrArg Value.bool hb206)
          refine L1 (gate_off rfl (by decide) rfl hA (by decide) rfl rfl ?_); clear hA; intro a hA
          refine L1 (gate_off rfl (by decide) rfl hA (by decide) rfl rfl ?_); clear hA; intro a hA
          refine L1 (gate_off rfl (by decide) rfl hA (by decide) rfl rfl ?_); clear hA; intro a hA
          refine L1 (gate_off rfl (by decide) rfl hA (by decide) rfl rfl ?_); clear hA; intro a hA
          refine L1 (gate_off rfl (by decide) rfl hA (by decide) rfl rfl ?_); clear hA; intro a hA
          refine L1 (gate_off rfl (by decide) rfl hA (by decide) rfl rfl ?_); clear hA; intro a hA
          refine L1 (stv hA (by decide) (run_pick (hA.ev rfl) (fun _ => hA.ev rfl) (fun h => Bool.noConfusion h)) ?_)
          clear hA; intro a hA
          refine LQ ?_
          exact ⟨true, Option.some.inj H204, hM, (((((hA.nil.cons (hA.get 43 _ rfl)).cons (hA.get 10 _ rfl)).cons (hA.get 9 _ rfl)).cons (hA.get 3 _ rfl)).cons (hA.get 2 _ rfl))⟩
        · replace H204 := ite_f hb206 H204
          have hA := hA.re (t := 36) rfl (congrArg Value.bool hb206)
          refine L1 (gate_on rfl rfl hA (by decide) rfl (stv hA (by decide) (run_move (hA.ev rfl)) ?_))
          clear hA; intro a hA
          refine L1 (gate_on rfl rfl hA (by decide) rfl (stv hA (by decide) (run_len_str Try.underlying9 (hA.ev rfl)) ?_))
          clear hA; intro a hA
          refine L1 (gate_on rfl rfl hA (by decide) rfl (stv hA (by decide) (run_move (hA.ev rfl)) ?_))
          clear hA; intro a hA
          refine L1 (gate_on rfl rfl hA (by decide) rfl (stv hA (by decide) (run_len_str Try.underlying9 (hA.ev rfl)) ?_))
          clear hA; intro a hA
          refine L1 (gate_on rfl rfl hA (by decide) rfl (stv hA (by decide) (run_bin (hA.ev rfl) (hA.ev rfl) (bin_add _ _ _ _)) ?_))
          clear hA; intro a hA
          refine L1 (gate_on rfl rfl hA (by decide) rfl (stv hA (by decide) (run_bin (hA.ev rfl) (hA.ev rfl) (bin_lss _ _ _ _)) ?_))
          clear hA; intro a hA
          refine L1 (stv hA (by decide) (run_pick (hA.ev rfl) (fun h => Bool.noConfusion h) (fun _ => hA.ev rfl)) ?_)
          clear hA; intro a hA
          refine LQ ?_
          exact ⟨(decide (((r194.1.size : Nat) : Int) < (IntKind.i64.wrap (((r191.size : Nat) : Int) + 7)))), Option.some.inj H204, hM, (((((hA.nil.cons (hA.get 43 _ rfl)).cons (hA.get 10 _ rfl)).cons (hA.get 9 _ rfl)).cons (hA.get 3 _ rfl)).cons (hA.get 2 _ rfl))⟩
      clear hM hA
      rintro a w207 ⟨t203, rfl, hM, hA⟩
      try dsimp only at H
      refine TN ?_
      refine tcond (b := t203) hA rfl (fun hb208 => ?_) (fun hb208 => ?_)
      · replace H := ite_t hb208 H
        refine wp_seq ?_
        refine wp_region_lit ?_
        refine L1 (stv hA (by decide) (run_assign (hA.ev rfl)) ?_)
        clear hA; intro a hA
        refine LQ ?_
        refine TN ?_
        refine wp_ret ?_
        obtain rfl := Option.some.inj H
        refine TR ?_
        exact ret_post1 (fn := Try.f8) hA rfl rfl ⟨_, rfl, rfl, hM⟩
      · replace H := ite_f hb208 H
        refine wp_skip ?_
        refine TN ?_
        refine wp_seq ?_
        refine wp_region_lit ?_
        refine L1 (stv hA (by decide) (run_move (hA.ev rfl)) ?_)
        clear hA; intro a hA
        refine L1 (stv hA (by decide) (run_len_str Try.underlying9 (hA.ev rfl)) ?_)
        clear hA; intro a hA
        refine L1 (stv hA (by decide) (run_bin (hA.ev rfl) (hA.ev rfl) (bin_add _ _ _ _)) ?_)
        clear hA; intro a hA
        refine L1 (stv hA (by decide) (run_assign (hA.ev rfl)) ?_)
        clear hA; intro a hA
        refine LQ ?_
        refine TN ?_
        refine wp_seq ?_
        refine wp_region_lit ?_
        refine L1 (stv hA (by decide) (run_move (hA.ev rfl)) ?_)
        clear hA; intro a hA
        refine L1 (stv hA (by decide) (run_move (hA.ev rfl)) ?_)
        clear hA; intro a hA
        refine L1 (stv hA (by decide) (run_move (hA.ev rfl)) ?_)
        clear hA; intro a hA
        refine L1 (stv hA (by decide) (run_len_str Try.underlying9 (hA.ev rfl)) ?_)
        clear hA; intro a hA
        refine L1 (stv hA (by decide) (run_move (hA.ev rfl)) ?_)
        clear hA; intro a hA
        refine L1 (stv hA (by decide) (run_bin (hA.ev rfl) (hA.ev rfl) (bin_sub _ _ _ _)) ?_)
        clear hA; intro a hA
        obtain ⟨r209, H210, H⟩ := Option.bind_eq_some_iff.1 H
        refine L1 (st_call Try.call16 hA [(.int .i64 at_2), (.int .i64 (IntKind.i64.wrap (((r194.1.size : Nat) : Int) - (IntKind.i64.wrap (((r191.size : Nat) : Int) + 1)))))] rfl (by decide) (mill_Mod.calls _ _ _ _ _ _ (hM.front (Ms := [])) H210) ?_)
        clear hA; rintro _ w211 ⟨rfl, hMc⟩ a hA
        have hE := hMc.below; have hM := hM.call (Ms := []) hMc
        clear hMc; simp only [List.cons_append, List.nil_append] at hM
        refine L1 (stv hA (by decide) (run_bin (hA.ev rfl) (hA.ev rfl) (bin_add _ _ _ _)) ?_)
        clear hA; intro a hA
        refine L1 (stv hA (by decide) (run_assign (hA.ev rfl)) ?_)
        clear hA; intro a hA
        refine LQ ?_
        refine TN ?_
        refine wp_seq ?_
        refine wp_region_lit ?_
        refine L1 (stv hA (by decide) (run_move (hA.ev rfl)) ?_)
        clear hA; intro a hA
        obtain ⟨hs214, H⟩ := ite_some H
        refine L1 (e_str2bytes Try.underlying9 Try.underlying22 Try.underlying5 hM hA rfl hs214 (by decide) ?_)
        clear hM hA; intro w215 g212 c213 hM hE  a hA
        refine L1 (stv hA (by decide) (run_assign (hA.ev rfl)) ?_)
        clear hA; intro a hA
        refine LQ ?_
        refine TN ?_
        refine wp_seq ?_
        refine wp_region_lit ?_
        refine L1 (stv hA (by decide) (run_move (hA.ev rfl)) ?_)
        clear hA; intro a hA
        obtain ⟨r217, H218, H⟩ := Option.bind_eq_some_iff.1 H
        refine L1 (st_call Try.call16 hA [(.int .i64 by_3), (.int .i64 32)] rfl (by decide) (mill_Mod.calls _ _ _ _ _ _ (hM.front (Ms := [])) H218) ?_)
        clear hA; rintro _ w219 ⟨rfl, hMc⟩ a hA
        have hE := hMc.below; have hM := hM.call (Ms := []) hMc
        clear hMc; simp only [List.cons_append, List.nil_append] at hM
        obtain ⟨⟨hi220, hj221⟩, H⟩ := ite_some H
        refine L1 (stv hA (by decide) (run_index_str Try.underlying9 (hA.ev rfl) (hA.ev rfl) hi220 hj221) ?_)
        clear hA; intro a hA
        refine L1 (stv hA (by decide) (run_assign (hA.ev rfl)) ?_)
        clear hA; intro a hA
        refine LQ ?_
        refine TN ?_
        refine wp_seq ?_
        refine wp_seq ?_
        refine wp_region_lit ?_
        refine L1 (stv hA (by decide) (run_move (hA.ev rfl)) ?_)
        clear hA; intro a hA
        refine L1 (stv hA (by decide) (run_move (hA.ev rfl)) ?_)
        clear hA; intro a hA
        obtain ⟨⟨hi222, hj223⟩, H⟩ := ite_some H
        obtain ⟨ad224, hq225, hat226⟩ := Row.elem' (p := (Pl.int .u8)) (RowOk.row (hM.row (p := (Pl.int .u8)) .z)) (RowOk.len (hM.row (p := (Pl.int .u8)) .z)) (0 : Int) (IntKind.i64.wrap ((IntKind.i64.wrap (((r191.size : Nat) : Int) + 1)) + r209)) hi222 hj223
        refine L1 (stv hA (by decide) (run_idx Try.underlying22 Try.sizeOf5 (hA.ev rfl) hq225 (hA.ev rfl) hi222 hj223) ?_)
        clear hA; intro a hA
        refine L1 (stv hA (by decide) (run_ld (hA.ev rfl) (run_loadS Try.isAgg5 hat226)) ?_)
        clear hA; intro a hA
        refine L1 (stv hA (by decide) (run_move (hA.ev rfl)) ?_)
        clear hA; intro a hA
        refine L1 (stv hA (by decide) (run_bin (hA.ev rfl) (hA.ev rfl) (bin_neq _ _ _ _)) ?_)
        clear hA; intro a hA
        refine LQ ?_
        refine TN ?_
        obtain ⟨o246, H245, H⟩ := Option.bind_eq_some_iff.1 H
        refine cutC (fun a w => (.go ()) = o246 ∧ Mem F w0 w [] ∧ Has 123 [(9, (.string r191)), (10, (.string r194.1)), (13, (.int .i64 (IntKind.i64.wrap ((IntKind.i64.wrap (((r191.size : Nat) : Int) + 1)) + r209))))] a) ?_ ?_
        · refine tcond (b := (((bytesOf r194.1).getD (IntKind.i64.wrap ((IntKind.i64.wrap (((r191.size : Nat) : Int) + 1)) + r209)).toNat (0 : Int)) != (sg (⟨#[113, 112, 122, 114, 121, 57, 120, 56, 103, 102, 50, 116, 118, 100, 119, 48, 115, 51, 106, 110, 53, 52, 107, 104, 99, 101, 54, 109, 117, 97, 55, 108]⟩ : ByteArray) r217))) hA rfl (fun hb247 => ?_) (fun hb247 => ?_)
          · replace H245 := ite_t hb247 H245
            refine wp_seq ?_
            refine wp_region_lit ?_
            refine L1 (stv hA (by decide) (run_move (hA.ev rfl)) ?_)
            clear hA; intro a hA
            refine L1 (stv hA (by decide) (run_move (hA.ev rfl)) ?_)
            clear hA; intro a hA
            refine L1 (stv hA (by decide) (run_move (hA.ev rfl)) ?_)
            clear hA; intro a hA
            obtain ⟨⟨hi248, hj249⟩, H245⟩ := ite_some H245
            obtain ⟨ad250, hq251, hat252⟩ := Row.elem' (p := (Pl.int .u8)) (RowOk.row (hM.row (p := (Pl.int .u8)) .z)) (RowOk.len (hM.row (p := (Pl.int .u8)) .z)) (0 : Int) (IntKind.i64.wrap ((IntKind.i64.wrap (((r191.size : Nat) : Int) + 1)) + r209)) hi248 hj249
            refine L1 (stv hA (by decide) (run_idx Try.underlying22 Try.sizeOf5 (hA.ev rfl) hq251 (hA.ev rfl) hi248 hj249) ?_)
            clear hA; intro a hA
            refine L1 (e_setrow (x1 := ((bytesOf r194.1).getD (IntKind.i64.wrap ((IntKind.i64.wrap (((r191.size : Nat) : Int) + 1)) + r209)).toNat (0 : Int))) (y1 := sg (⟨#[113, 112, 122, 114, 121, 57, 120, 56, 103, 102, 50, 116, 118, 100, 119, 48, 115, 51, 106, 110, 53, 52, 107, 104, 99, 101, 54, 109, 117, 97, 55, 108]⟩ : ByteArray) r217) (off := 0) hM .z Try.sizeOf5 hA rfl rfl hq251 rfl (by first | rfl | simp [Value.cells, Pl.len]) (one_val rfl) hi248 hj249 (getD_getD _ _ _) (by decide) (spl_all (by first | rfl | simp [Value.cells, Pl.len] | (simp only [Value.cells, Pl.len, List.length_cons, List.length_nil]; done))) ?_)
            clear hM hA; intro w253  hM hE  a hA
            refine LQ ?_
            refine TN ?_
            refine wp_seq ?_
            refine wp_region_lit ?_
            refine L1 (stv hA (by decide) (run_move (hA.ev rfl)) ?_)
            clear hA; intro a hA
            refine L1 (stv hA (by decide) (run_move (hA.ev rfl)) ?_)
            clear hA; intro a hA
            refine L1 (stv hA (by decide) (run_bytes2str Try.underlying22 Try.underlying5 Try.underlying9 (hA.ev rfl) (RowOk.row (hM.row (p := (Pl.int .u8)) .z)) (RowOk.len (hM.row (p := (Pl.int .u8)) .z))) ?_)
            clear hA; intro a hA
            obtain ⟨r254, H255, H245⟩ := Option.bind_eq_some_iff.1 H245
            refine L1 (st_call Try.call23 hA [(.string r191), (.string (ofBytes ((bytesOf r194.1).set (IntKind.i64.wrap ((IntKind.i64.wrap (((r191.size : Nat) : Int) + 1)) + r209)).toNat (sg (⟨#[113, 112, 122, 114, 121, 57, 120, 56, 103, 102, 50, 116, 118, 100, 119, 48, 115, 51, 106, 110, 53, 52, 107, 104, 99, 101, 54, 109, 117, 97, 55, 108]⟩ : ByteArray) r217))))] rfl (by decide) (address_Decode.calls _ _ _ _ _ _ (hM.front (Ms := [])) H255) ?_)
            clear hA; rintro _ w256 ⟨v257, rfl, hMc⟩ a hA
            have hE := hMc.below; have hM := hM.call (Ms := []) hMc
            clear hMc; simp only [List.cons_append, List.nil_append] at hM
            obtain ⟨A259, c260, rfl⟩ := RowOk.form (hM.row (p := (Pl.int .u8)) .z)
            refine L1 (stv hA (by decide) (run_move (hA.ev rfl)) ?_)
            clear hA; intro a hA
            refine L1 (stv hA (by decide) (run_ext (hA.ev rfl) rfl) ?_)
            clear hA; intro a hA
            refine L1 (stv hA (by decide) (run_ext (hA.ev rfl) rfl) ?_)
            clear hA; intro a hA
            refine L1 (stv hA (by decide) (run_assign (hA.ev rfl)) ?_)
            clear hA; intro a hA
            refine L1 (stv hA (by decide) (run_assign (hA.ev rfl)) ?_)
            clear hA; intro a hA
            refine LQ ?_
            refine TN ?_
            refine wp_seq ?_
            refine wp_region_lit ?_
            refine L1 (stv hA (by decide) (run_move (hA.ev rfl)) ?_)
            clear hA; intro a hA
            refine L1 (stv hA (by decide) (run_bin (hA.ev rfl) (hA.ev rfl) (bin_eql _ _ _ _)) ?_)
            clear hA; intro a hA
            refine LQ ?_
            refine TN ?_
            refine tcond (b := (r254.2 == 0)) hA rfl (fun hb261 => ?_) (fun hb261 => ?_)
            · replace H245 := ite_t hb261 H245
              refine wp_seq ?_
              refine wp_region_lit ?_
              refine L1 (stv hA (by decide) (run_assign (hA.ev rfl)) ?_)
              clear hA; intro a hA
              refine LQ ?_
              refine TN ?_
              refine wp_ret ?_
              obtain rfl := Option.some.inj H245
              dsimp only at H
              obtain rfl := Option.some.inj H
              refine TR ?_
              refine TR ?_
              exact ret_post1 (fn := Try.f8) hA rfl rfl ⟨_, rfl, rfl, (hM.sel [] rfl (by decide))⟩
            · replace H245 := ite_f hb261 H245
              refine wp_skip ?_
              exact ⟨Option.some.inj H245, (hM.sel [] rfl (by decide)), (((hA.nil.cons (hA.get 13 _ rfl)).cons (hA.get 10 _ rfl)).cons (hA.get 9 _ rfl))⟩
          · replace H245 := ite_f hb247 H245
            refine wp_skip ?_
            exact ⟨Option.some.inj H245, (hM.sel [] rfl (by decide)), (((hA.nil.cons (hA.get 13 _ rfl)).cons (hA.get 10 _ rfl)).cons (hA.get 9 _ rfl))⟩
        clear hM hA
        rintro a w262 ⟨rfl, hM, hA⟩
        try dsimp only at H
        refine TN ?_
        refine wp_seq ?_
        refine wp_region_lit ?_
        refine L1 (stv hA (by decide) (run_move (hA.ev rfl)) ?_)
        clear hA; intro a hA
        obtain ⟨hs265, H⟩ := ite_some H
        refine L1 (e_str2bytes Try.underlying9 Try.underlying22 Try.underlying5 hM hA rfl hs265 (by decide) ?_)
        clear hM hA; intro w266 g263 c264 hM hE  a hA
        refine L1 (stv hA (by decide) (run_assign (hA.ev rfl)) ?_)
        clear hA; intro a hA
        refine LQ ?_
        refine TN ?_
        refine wp_seq ?_
        refine wp_seq ?_
        obtain ⟨o287, H286, H⟩ := Option.bind_eq_some_iff.1 H
        refine cutC (fun a w => ∃ (t285 : Bool), t285 = o287 ∧ Mem F w0 w [.row 5 (Pl.int .u8).sz (.slice (some ⟨g263, 0, none⟩) r194.1.size c264) ((Pl.int .u8).flat (bytesOf r194.1))] ∧ Has 123 [(9, (.string r191)), (13, (.int .i64 (IntKind.i64.wrap ((IntKind.i64.wrap (((r191.size : Nat) : Int) + 1)) + r209)))), (18, (.slice (some ⟨g263, 0, none⟩) r194.1.size c264)), (97, (.bool t285))] a) ?_ ?_
        · refine draw (fun w' => Below w266.heap.size w266 w') [] rfl ?_
          intro w288 hw hS; replace hM := hM.ext hS; clear hw
          refine d_takef (i := 0) (L' := #[true, false, false, false, false, false, false, false, false, false, false, false, false, false, false, false, false]) rfl (by kernel_rfl) rfl (fun _ _ _ h => h) hA (by decide) (fun _ => hS) (fun a w' hA => run_move (hA.ev rfl)) ?_; clear hA; intro a hA
          refine d_takef (i := 1) (L' := #[true, true, false, false, false, false, false, false, false, false, false, false, false, false, false, false, false]) rfl (by kernel_rfl) rfl (fun _ _ _ h => h) hA (by decide) (fun _ => hS) (fun a w' hA => run_bin (hA.ev rfl) (hA.ev rfl) (bin_add _ _ _ _)) ?_; clear hA; intro a hA
          refine d_takef (i := 2) (L' := #[true, true, true, false, false, false, false, false, false, false, false, false, false, false, false, false, false]) rfl (by kernel_rfl) rfl (fun _ _ _ h => h) hA (by decide) (fun _ => hS) (fun a w' hA => run_move (hA.ev rfl)) ?_; clear hA; intro a hA
          refine d_takef (i := 3) (L' := #[true, true, true, true, false, false, false, false, false, false, false, false, false, false, false, false, false]) rfl (by kernel_rfl) rfl (fun _ _ _ h => h) hA (by decide) (fun _ => hS) (fun a w' hA => run_len_slice Try.underlying22 (hA.ev rfl)) ?_; clear hA; intro a hA
          refine d_takef (i := 4) (L' := #[true, true, true, true, true, false, false, false, false, false, false, false, false, false, false, false, false]) rfl (by kernel_rfl) rfl (fun _ _ _ h => h) hA (by decide) (fun _ => hS) (fun a w' hA => run_bin (hA.ev rfl) (hA.ev rfl) (bin_lss _ _ _ _)) ?_; clear hA; intro a hA
          refine d_takef (i := 5) (L' := #[true, true, true, true, true, true, false, false, false, false, false, false, false, false, false, false, false]) rfl (by kernel_rfl) rfl (fun _ _ _ h => h) hA (by decide) (fun _ => hS) (fun a w' hA => run_move (hA.ev rfl)) ?_; clear hA; intro a hA
          refine bsplit (b := (decide ((IntKind.i64.wrap ((IntKind.i64.wrap ((IntKind.i64.wrap (((r191.size : Nat) : Int) + 1)) + r209)) + 1)) < ((r194.1.size : Nat) : Int)))) (fun hb290 => ?_) (fun hb290 => ?_)
          · replace H286 := ite_t hb290 H286
            have hA := hA.re (t := 86) rfl (congrArg Value.bool hb290)
            refine d_takegf (i := 6) (L' := #[true, true, true, true, true, true, true, false, false, false, false, false, false, false, false, false, false]) rfl (by kernel_rfl) rfl (fun _ _ _ h => h) rfl hA (by decide) (by decide) rfl (fun _ => hS) (fun a w' hA => run_move (hA.ev rfl)) ?_; clear hA; intro a hA
            refine d_takegf (i := 7) (L' := #[true, true, true, true, true, true, true, true, false, false, false, false, false, false, false, false, false]) rfl (by kernel_rfl) rfl (fun _ _ _ h => h) rfl hA (by decide) (by decide) rfl (fun _ => hS) (fun a w' hA => run_move (hA.ev rfl)) ?_; clear hA; intro a hA
            obtain ⟨⟨hi291, hj292⟩, H286⟩ := ite_some H286
            obtain ⟨ad293, hq294, hat295⟩ := Row.elem' (p := (Pl.int .u8)) (RowOk.row (hM.row (p := (Pl.int .u8)) .z)) (RowOk.len (hM.row (p := (Pl.int .u8)) .z)) (0 : Int) (IntKind.i64.wrap ((IntKind.i64.wrap (((r191.size : Nat) : Int) + 1)) + r209)) hi291 hj292
            refine d_takegf (i := 8) (L' := #[true, true, true, true, true, true, true, true, true, false, false, false, false, false, false, false, false]) rfl (by kernel_rfl) rfl (fun _ _ _ h => h) rfl hA (by decide) (by decide) rfl (fun _ => hS) (fun a w' hA => run_idx Try.underlying22 Try.sizeOf5 (hA.ev rfl) hq294 (hA.ev rfl) hi291 hj292) ?_; clear hA; intro a hA
            refine rebase hS ?_; clear hS; intro hS
            refine d_takeg (i := 9) (L' := #[true, true, true, true, true, true, true, true, true, true, false, false, false, false, false, false, false]) rfl (by kernel_rfl) rfl (fun _ _ _ h => h) rfl hA (by decide) (by decide) rfl rfl hS (fun a w' hA hS' => run_ld (hA.ev rfl) (run_loadS Try.isAgg5 ((hat295).extB hS'))) ?_; clear hA; intro a hA
            refine d_takegf (i := 10) (L' := #[true, true, true, true, true, true, true, true, true, true, true, false, false, false, false, false, false]) rfl (by kernel_rfl) rfl (fun _ _ _ h => h) rfl hA (by decide) (by decide) rfl (fun _ => hS) (fun a w' hA => run_move (hA.ev rfl)) ?_; clear hA; intro a hA
            refine d_takegf (i := 11) (L' := #[true, true, true, true, true, true, true, true, true, true, true, true, false, false, false, false, false]) rfl (by kernel_rfl) rfl (fun _ _ _ h => h) rfl hA (by decide) (by decide) rfl (fun _ => hS) (fun a w' hA => run_move (hA.ev rfl)) ?_; clear hA; intro a hA
            refine d_takegf (i := 12) (L' := #[true, true, true, true, true, true, true, true, true, true, true, true, true, false, false, false, false]) rfl (by kernel_rfl) rfl (fun _ _ _ h => h) rfl hA (by decide) (by decide) rfl (fun _ => hS) (fun a w' hA => run_bin (hA.ev rfl) (hA.ev rfl) (bin_add _ _ _ _)) ?_; clear hA; intro a hA
            obtain ⟨⟨hi296, hj297⟩, H286⟩ := ite_some H286
            obtain ⟨ad298, hq299, hat300⟩ := Row.elem' (p := (Pl.int .u8)) (RowOk.row (hM.row (p := (Pl.int .u8)) .z)) (RowOk.len (hM.row (p := (Pl.int .u8)) .z)) (0 : Int) (IntKind.i64.wrap ((IntKind.i64.wrap ((IntKind.i64.wrap (((r191.size : Nat) : Int) + 1)) + r209)) + 1)) hi296 hj297
            refine d_takegf (i := 13) (L' := #[true, true, true, true, true, true, true, true, true, true, true, true, true, true, false, false, false]) rfl (by kernel_rfl) rfl (fun _ _ _ h => h) rfl hA (by decide) (by decide) rfl (fun _ => hS) (fun a w' hA => run_idx Try.underlying22 Try.sizeOf5 (hA.ev rfl) hq299 (hA.ev rfl) hi296 hj297) ?_; clear hA; intro a hA
            refine d_takeg (i := 14) (L' := #[true, true, true, true, true, true, true, true, true, true, true, true, true, true, true, false, false]) rfl (by kernel_rfl) rfl (fun _ _ _ h => h) rfl hA (by decide) (by decide) rfl rfl hS (fun a w' hA hS' => run_ld (hA.ev rfl) (run_loadS Try.isAgg5 ((hat300).extB hS'))) ?_; clear hA; intro a hA
            refine d_takegf (i := 15) (L' := #[true, true, true, true, true, true, true, true, true, true, true, true, true, true, true, true, false]) rfl (by kernel_rfl) rfl (fun _ _ _ h => h) rfl hA (by decide) (by decide) rfl (fun _ => hS) (fun a w' hA => run_bin (hA.ev rfl) (hA.ev rfl) (bin_neq _ _ _ _)) ?_; clear hA; intro a hA
            refine d_takef (i := 16) (L' := #[true, true, true, true, true, true, true, true, true, true, true, true, true, true, true, true, true]) rfl (by kernel_rfl) rfl (fun _ _ _ h => h) hA (by decide) (fun _ => hS) (fun a w' hA => run_pick (hA.ev rfl) (fun _ => hA.ev rfl) (fun h => Bool.noConfusion h)) ?_; clear hA; intro a hA
            refine d_done (by kernel_rfl) ?_
            exact ⟨(((bytesOf r194.1).getD (IntKind.i64.wrap ((IntKind.i64.wrap (((r191.size : Nat) : Int) + 1)) + r209)).toNat (0 : Int)) != ((bytesOf r194.1).getD (IntKind.i64.wrap ((IntKind.i64.wrap ((IntKind.i64.wrap (((r191.size : Nat) : Int) + 1)) + r209)) + 1)).toNat (0 : Int))), Option.some.inj H286, hM, ((((hA.nil.cons (hA.get 97 _ rfl)).cons (hA.get 18 _ rfl)).cons (hA.get 13 _ rfl)).cons (hA.get 9 _ rfl))⟩
          · replace H286 := ite_f hb290 H286
            have hA := hA.re (t := 86) rfl (congrArg Value.bool hb290)
            refine d_skip (i := 6) (L' := #[true, true, true, true, true, true, true, false, false, false, false, false, false, false, false, false, false]) rfl (by kernel_rfl) rfl (fun _ _ _ h => h) rfl hA (by decide) (by decide) rfl rfl (fun _ => hS) ?_; clear hA; intro a hA
            refine d_skip (i := 7) (L' := #[true, true, true, true, true, true, true, true, false, false, false, false, false, false, false, false, false]) rfl (by kernel_rfl) rfl (fun _ _ _ h => h) rfl hA (by decide) (by decide) rfl rfl (fun _ => hS) ?_; clear hA; intro a hA
            refine d_skip (i := 8) (L' := #[true, true, true, true, true, true, true, true, true, false, false, false, false, false, false, false, false]) rfl (by kernel_rfl) rfl (fun _ _ _ h => h) rfl hA (by decide) (by decide) rfl rfl (fun _ => hS) ?_; clear hA; intro a hA
            refine d_skip (i := 9) (L' := #[true, true, true, true, true, true, true, true, true, true, false, false, false, false, false, false, false]) rfl (by kernel_rfl) rfl (fun _ _ _ h => h) rfl hA (by decide) (by decide) rfl rfl (fun _ => hS) ?_; clear hA; intro a hA
            refine d_skip (i := 10) (L' := #[true, true, true, true, true, true, true, true, true, true, true, false, false, false, false, false, false]) rfl (by kernel_rfl) rfl (fun _ _ _ h => h) rfl hA (by decide) (by decide) rfl rfl (fun _ => hS) ?_; clear hA; intro a hA
            refine d_skip (i := 11) (L' := #[true, true, true, true, true, true, true, true, true, true, true, true, false, false, false, false, false]) rfl (by kernel_rfl) rfl (fun _ _ _ h => h) rfl hA (by decide) (by decide) rfl rfl (fun _ => hS) ?_; clear hA; intro a hA
            refine d_skip (i := 12) (L' := #[true, true, true, true, true, true, true, true, true, true, true, true, true, false, false, false, false]) rfl (by kernel_rfl) rfl (fun _ _ _ h => h) rfl hA (by decide) (by decide) rfl rfl (fun _ => hS) ?_; clear hA; intro a hA
            refine d_skip (i := 13) (L' := #[true, true, true, true, true, true, true, true, true, true, true, true, true, true, false, false, false]) rfl (by kernel_rfl) rfl (fun _ _ _ h => h) rfl hA (by decide) (by decide) rfl rfl (fun _ => hS) ?_; clear hA; intro a hA
            refine d_skip (i := 14) (L' := #[true, true, true, true, true, true, true, true, true, true, true, true, true, true, true, false, false]) rfl (by kernel_rfl) rfl (fun _ _ _ h => h) rfl hA (by decide) (by decide) rfl rfl (fun _ => hS) ?_; clear hA; intro a hA
            refine d_skip (i := 15) (L' := #[true, true, true, true, true, true, true, true, true, true, true, true, true, true, true, true, false]) rfl (by kernel_rfl) rfl (fun _ _ _ h => h) rfl hA (by decide) (by decide) rfl rfl (fun _ => hS) ?_; clear hA; intro a hA
            refine d_takef (i := 16) (L' := #[true, true, true, true, true, true, true, true, true, true, true, true, true, true, true, true, true]) rfl (by kernel_rfl) rfl (fun _ _ _ h => h) hA (by decide) (fun _ => hS) (fun a w' hA => run_pick (hA.ev rfl) (fun h => Bool.noConfusion h) (fun _ => hA.ev rfl)) ?_; clear hA; intro a hA
            refine d_done (by kernel_rfl) ?_
            exact ⟨false, Option.some.inj H286, hM, ((((hA.nil.cons (hA.get 97 _ rfl)).cons (hA.get 18 _ rfl)).cons (hA.get 13 _ rfl)).cons (hA.get 9 _ rfl))⟩
        clear hM hA
        rintro a w301 ⟨t285, rfl, hM, hA⟩
        try dsimp only at H
        refine TN ?_
        obtain ⟨o336, H335, H⟩ := Option.bind_eq_some_iff.1 H
        refine cutC (fun a w => (.go ()) = o336 ∧ Mem F w0 w [] ∧ Has 123 [] a) ?_ ?_
        · refine tcond (b := t285) hA rfl (fun hb337 => ?_) (fun hb337 => ?_)
          · replace H335 := ite_t hb337 H335
            refine wp_seq ?_
            refine draw (fun w' => Below w301.heap.size w301 w') [15, 17] rfl ?_
            intro w338 hw hS; replace hM := hM.ext hS; clear hw
            refine d_takef (i := 0) (L' := #[true, false, false, false, false, false, false, false, false, false, false, false, false, false, false, false, false, false]) rfl (by kernel_rfl) rfl (fun _ _ _ h => h) hA (by decide) (fun _ => hS) (fun a w' hA => run_move (hA.ev rfl)) ?_; clear hA; intro a hA
            refine d_takef (i := 1) (L' := #[true, true, false, false, false, false, false, false, false, false, false, false, false, false, false, false, false, false]) rfl (by kernel_rfl) rfl (fun _ _ _ h => h) hA (by decide) (fun _ => hS) (fun a w' hA => run_move (hA.ev rfl)) ?_; clear hA; intro a hA
            refine d_takef (i := 2) (L' := #[true, true, true, false, false, false, false, false, false, false, false, false, false, false, false, false, false, false]) rfl (by kernel_rfl) rfl (fun _ _ _ h => h) hA (by decide) (fun _ => hS) (fun a w' hA => run_move (hA.ev rfl)) ?_; clear hA; intro a hA
            refine d_takef (i := 3) (L' := #[true, true, true, true, false, false, false, false, false, false, false, false, false, false, false, false, false, false]) rfl (by kernel_rfl) rfl (fun _ _ _ h => h) hA (by decide) (fun _ => hS) (fun a w' hA => run_move (hA.ev rfl)) ?_; clear hA; intro a hA
            refine d_takef (i := 4) (L' := #[true, true, true, true, true, false, false, false, false, false, false, false, false, false, false, false, false, false]) rfl (by kernel_rfl) rfl (fun _ _ _ h => h) hA (by decide) (fun _ => hS) (fun a w' hA => run_bin (hA.ev rfl) (hA.ev rfl) (bin_add _ _ _ _)) ?_; clear hA; intro a hA
            refine d_takef (i := 5) (L' := #[true, true, true, true, true, true, false, false, false, false, false, false, false, false, false, false, false, false]) rfl (by kernel_rfl) rfl (fun _ _ _ h => h) hA (by decide) (fun _ => hS) (fun a w' hA => run_move (hA.ev rfl)) ?_; clear hA; intro a hA
            refine d_takef (i := 6) (L' := #[true, true, true, true, true, true, true, false, false, false, false, false, false, false, false, false, false, false]) rfl (by kernel_rfl) rfl (fun _ _ _ h => h) hA (by decide) (fun _ => hS) (fun a w' hA => run_move (hA.ev rfl)) ?_; clear hA; intro a hA
            refine d_takef (i := 7) (L' := #[true, true, true, true, true, true, true, true, false, false, false, false, false, false, false, false, false, false]) rfl (by kernel_rfl) rfl (fun _ _ _ h => h) hA (by decide) (fun _ => hS) (fun a w' hA => run_bin (hA.ev rfl) (hA.ev rfl) (bin_add _ _ _ _)) ?_; clear hA; intro a hA
            obtain ⟨⟨hi340, hj341⟩, H335⟩ := ite_some H335
            obtain ⟨ad342, hq343, hat344⟩ := Row.elem' (p := (Pl.int .u8)) (RowOk.row (hM.row (p := (Pl.int .u8)) .z)) (RowOk.len (hM.row (p := (Pl.int .u8)) .z)) (0 : Int) (IntKind.i64.wrap ((IntKind.i64.wrap ((IntKind.i64.wrap (((r191.size : Nat) : Int) + 1)) + r209)) + 1)) hi340 hj341
            refine d_takef (i := 8) (L' := #[true, true, true, true, true, true, true, true, true, false, false, false, false, false, false, false, false, false]) rfl (by kernel_rfl) rfl (fun _ _ _ h => h) hA (by decide) (fun _ => hS) (fun a w' hA => run_idx Try.underlying22 Try.sizeOf5 (hA.ev rfl) hq343 (hA.ev rfl) hi340 hj341) ?_; clear hA; intro a hA
            refine rebase hS ?_; clear hS; intro hS
            refine d_take (i := 9) (L' := #[true, true, true, true, true, true, true, true, true, true, false, false, false, false, false, false, false, false]) rfl (by kernel_rfl) rfl (fun _ _ _ h => h) hA (by decide) rfl hS (fun a w' hA hS' => run_ld (hA.ev rfl) (run_loadS Try.isAgg5 ((hat344).extB hS'))) ?_; clear hA; intro a hA
            refine d_takef (i := 10) (L' := #[true, true, true, true, true, true, true, true, true, true, true, false, false, false, false, false, false, false]) rfl (by kernel_rfl) rfl (fun _ _ _ h => h) hA (by decide) (fun _ => hS) (fun a w' hA => run_move (hA.ev rfl)) ?_; clear hA; intro a hA
            refine d_takef (i := 11) (L' := #[true, true, true, true, true, true, true, true, true, true, true, true, false, false, false, false, false, false]) rfl (by kernel_rfl) rfl (fun _ _ _ h => h) hA (by decide) (fun _ => hS) (fun a w' hA => run_move (hA.ev rfl)) ?_; clear hA; intro a hA
            obtain ⟨⟨hi345, hj346⟩, H335⟩ := ite_some H335
            obtain ⟨ad347, hq348, hat349⟩ := Row.elem' (p := (Pl.int .u8)) (RowOk.row (hM.row (p := (Pl.int .u8)) .z)) (RowOk.len (hM.row (p := (Pl.int .u8)) .z)) (0 : Int) (IntKind.i64.wrap ((IntKind.i64.wrap (((r191.size : Nat) : Int) + 1)) + r209)) hi345 hj346
            refine d_takef (i := 12) (L' := #[true, true, true, true, true, true, true, true, true, true, true, true, true, false, false, false, false, false]) rfl (by kernel_rfl) rfl (fun _ _ _ h => h) hA (by decide) (fun _ => hS) (fun a w' hA => run_idx Try.underlying22 Try.sizeOf5 (hA.ev rfl) hq348 (hA.ev rfl) hi345 hj346) ?_; clear hA; intro a hA
            refine d_take (i := 13) (L' := #[true, true, true, true, true, true, true, true, true, true, true, true, true, true, false, false, false, false]) rfl (by kernel_rfl) rfl (fun _ _ _ h => h) hA (by decide) rfl hS (fun a w' hA hS' => run_ld (hA.ev rfl) (run_loadS Try.isAgg5 ((hat349).extB hS'))) ?_; clear hA; intro a hA
            obtain ⟨⟨hi350, hj351⟩, H335⟩ := ite_some H335
            obtain ⟨ad352, hq353, hat354⟩ := Row.elem' (p := (Pl.int .u8)) (RowOk.row (hM.row (p := (Pl.int .u8)) .z)) (RowOk.len (hM.row (p := (Pl.int .u8)) .z)) (0 : Int) (IntKind.i64.wrap ((IntKind.i64.wrap (((r191.size : Nat) : Int) + 1)) + r209)) hi350 hj351
            refine d_takef (i := 14) (L' := #[true, true, true, true, true, true, true, true, true, true, true, true, true, true, true, false, false, false]) rfl (by kernel_rfl) rfl (fun _ _ _ h => h) hA (by decide) (fun _ => hS) (fun a w' hA => run_idx Try.underlying22 Try.sizeOf5 (hA.ev rfl) hq353 (hA.ev rfl) hi350 hj351) ?_; clear hA; intro a hA
            refine d_one (i := 15) (L' := #[true, true, true, true, true, true, true, true, true, true, true, true, true, true, true, true, false, false]) (by kernel_rfl) rfl rfl (e_setrow (x1 := ((bytesOf r194.1).getD (IntKind.i64.wrap ((IntKind.i64.wrap (((r191.size : Nat) : Int) + 1)) + r209)).toNat (0 : Int))) (y1 := ((bytesOf r194.1).getD (IntKind.i64.wrap ((IntKind.i64.wrap ((IntKind.i64.wrap (((r191.size : Nat) : Int) + 1)) + r209)) + 1)).toNat (0 : Int))) (off := 0) hM .z Try.sizeOf5 hA rfl rfl hq353 rfl (by first | rfl | simp [Value.cells, Pl.len]) (one_val rfl) hi350 hj351 (getD_getD _ _ _) (by decide) (spl_all (by first | rfl | simp [Value.cells, Pl.len] | (simp only [Value.cells, Pl.len, List.length_cons, List.length_nil]; done))) ?_)
            clear hM hA; intro w355  hM hE  a hA
            refine ⟨fun h => absurd h (by decide), ?_⟩
            obtain ⟨⟨hi356, hj357⟩, H335⟩ := ite_some H335
            obtain ⟨ad358, hq359, hat360⟩ := Row.elem' (p := (Pl.int .u8)) (RowOk.row (hM.row (p := (Pl.int .u8)) .z)) (RowOk.len (hM.row (p := (Pl.int .u8)) .z)) (0 : Int) (IntKind.i64.wrap ((IntKind.i64.wrap ((IntKind.i64.wrap (((r191.size : Nat) : Int) + 1)) + r209)) + 1)) hi356 hj357
            refine d_takef (i := 16) (L' := #[true, true, true, true, true, true, true, true, true, true, true, true, true, true, true, true, true, false]) rfl (by kernel_rfl) rfl (fun _ _ _ h => h) hA (by decide) (fun h => absurd h (by decide)) (fun a w' hA => run_idx Try.underlying22 Try.sizeOf5 (hA.ev rfl) hq359 (hA.ev rfl) hi356 hj357) ?_; clear hA; intro a hA
            refine d_one (i := 17) (L' := #[true, true, true, true, true, true, true, true, true, true, true, true, true, true, true, true, true, true]) (by kernel_rfl) rfl rfl (e_setrow (x1 := (((bytesOf r194.1).set (IntKind.i64.wrap ((IntKind.i64.wrap (((r191.size : Nat) : Int) + 1)) + r209)).toNat ((bytesOf r194.1).getD (IntKind.i64.wrap ((IntKind.i64.wrap ((IntKind.i64.wrap (((r191.size : Nat) : Int) + 1)) + r209)) + 1)).toNat (0 : Int))).getD (IntKind.i64.wrap ((IntKind.i64.wrap ((IntKind.i64.wrap (((r191.size : Nat) : Int) + 1)) + r209)) + 1)).toNat (0 : Int))) (y1 := ((bytesOf r194.1).getD (IntKind.i64.wrap ((IntKind.i64.wrap (((r191.size : Nat) : Int) + 1)) + r209)).toNat (0 : Int))) (off := 0) hM .z Try.sizeOf5 hA rfl rfl hq359 rfl (by first | rfl | simp [Value.cells, Pl.len]) (one_val rfl) hi356 hj357 (getD_getD _ _ _) (by decide) (spl_all (by first | rfl | simp [Value.cells, Pl.len] | (simp only [Value.cells, Pl.len, List.length_cons, List.length_nil]; done))) ?_)
            clear hM hA; intro w361  hM hE  a hA
            refine ⟨fun h => absurd h (by decide), ?_⟩
            refine d_done (by kernel_rfl) ?_
            refine TN ?_
            refine wp_seq ?_
            refine wp_region_lit ?_
            refine L1 (stv hA (by decide) (run_move (hA.ev rfl)) ?_)
            clear hA; intro a hA
            refine L1 (stv hA (by decide) (run_move (hA.ev rfl)) ?_)
            clear hA; intro a hA
            refine L1 (stv hA (by decide) (run_bytes2str Try.underlying22 Try.underlying5 Try.underlying9 (hA.ev rfl) (RowOk.row (hM.row (p := (Pl.int .u8)) .z)) (RowOk.len (hM.row (p := (Pl.int .u8)) .z))) ?_)
            clear hA; intro a hA
            obtain ⟨r362, H363, H335⟩ := Option.bind_eq_some_iff.1 H335
            refine L1 (st_call Try.call23 hA [(.string r191), (.string (ofBytes (((bytesOf r194.1).set (IntKind.i64.wrap ((IntKind.i64.wrap (((r191.size : Nat) : Int) + 1)) + r209)).toNat ((bytesOf r194.1).getD (IntKind.i64.wrap ((IntKind.i64.wrap ((IntKind.i64.wrap (((r191.size : Nat) : Int) + 1)) + r209)) + 1)).toNat (0 : Int))).set (IntKind.i64.wrap ((IntKind.i64.wrap ((IntKind.i64.wrap (((r191.size : Nat) : Int) + 1)) + r209)) + 1)).toNat ((bytesOf r194.1).getD (IntKind.i64.wrap ((IntKind.i64.wrap (((r191.size : Nat) : Int) + 1)) + r209)).toNat (0 : Int)))))] rfl (by decide) (address_Decode.calls _ _ _ _ _ _ (hM.front (Ms := [])) H363) ?_)
            clear hA; rintro _ w364 ⟨v365, rfl, hMc⟩ a hA
            have hE := hMc.below; have hM := hM.call (Ms := []) hMc
            clear hMc; simp only [List.cons_append, List.nil_append] at hM
            obtain ⟨A367, c368, rfl⟩ := RowOk.form (hM.row (p := (Pl.int .u8)) .z)
            refine L1 (stv hA (by decide) (run_move (hA.ev rfl)) ?_)
            clear hA; intro a hA
            refine L1 (stv hA (by decide) (run_ext (hA.ev rfl) rfl) ?_)
            clear hA; intro a hA
            refine L1 (stv hA (by decide) (run_ext (hA.ev rfl) rfl) ?_)
            clear hA; intro a hA
            refine L1 (stv hA (by decide) (run_assign (hA.ev rfl)) ?_)
            clear hA; intro a hA
            refine L1 (stv hA (by decide) (run_assign (hA.ev rfl)) ?_)
            clear hA; intro a hA
            refine LQ ?_
            refine TN ?_
            refine wp_seq ?_
            refine wp_region_lit ?_
            refine L1 (stv hA (by decide) (run_move (hA.ev rfl)) ?_)
            clear hA; intro a hA
            refine L1 (stv hA (by decide) (run_bin (hA.ev rfl) (hA.ev rfl) (bin_eql _ _ _ _)) ?_)
            clear hA; intro a hA
            refine LQ ?_
            refine TN ?_
            refine tcond (b := (r362.2 == 0)) hA rfl (fun hb369 => ?_) (fun hb369 => ?_)
            · replace H335 := ite_t hb369 H335
              refine wp_seq ?_
              refine wp_region_lit ?_
              refine L1 (stv hA (by decide) (run_assign (hA.ev rfl)) ?_)
              clear hA; intro a hA
              refine LQ ?_
              refine TN ?_
              refine wp_ret ?_
              obtain rfl := Option.some.inj H335
              dsimp only at H
              obtain rfl := Option.some.inj H
              refine TR ?_
              refine TR ?_
              exact ret_post1 (fn := Try.f8) hA rfl rfl ⟨_, rfl, rfl, (hM.sel [] rfl (by decide))⟩
            · replace H335 := ite_f hb369 H335
              refine wp_skip ?_
              exact ⟨Option.some.inj H335, (hM.sel [] rfl (by decide)), hA.nil⟩
          · replace H335 := ite_f hb337 H335
            refine wp_skip ?_
            exact ⟨Option.some.inj H335, (hM.sel [] rfl (by decide)), hA.nil⟩
        clear hM hA
        rintro a w370 ⟨rfl, hM, hA⟩
        try dsimp only at H
        refine TN ?_
        refine wp_seq ?_
        refine wp_region_lit ?_
        refine L1 (stv hA (by decide) (run_assign (hA.ev rfl)) ?_)
        clear hA; intro a hA
        refine LQ ?_
        refine TN ?_
        refine wp_ret ?_
        obtain rfl := Option.some.inj H
        exact ret_post1 (fn := Try.f8) hA rfl rfl ⟨_, rfl, rfl, hM⟩

def ref27_Convert.l1 (b_0 : (List Int)) (t991 : Int) : Nat → Int → Int → Option (Int)
  | 0, _, _ => none
  | k + 1, d1090, i1092 => (if (decide (i1092 < (IntKind.i64.wrap (t991 + 5)))) = true then (Option.bind (α := Int) (if (decide (i1092 < (IntKind.i64.wrap (8 * ((b_0.length : Nat) : Int))))) = true then (if 0 ≤ (IntKind.i64.wrap (i1092.tdiv 8)) ∧ (IntKind.i64.wrap (i1092.tdiv 8)) < ((b_0.length : Nat) : Int) then (if 0 ≤ (IntKind.u64.wrap (IntKind.i64.wrap (7 - (i1092.tmod 8)))) then (some (ior .u8 (ishl .u8 d1090 1) (iand .u8 (ishr .u8 (b_0.getD (IntKind.i64.wrap (i1092.tdiv 8)).toNat (0 : Int)) (IntKind.u64.wrap (IntKind.i64.wrap (7 - (i1092.tmod 8))))) 1))) else none) else none) else (some (ishl .u8 d1090 1))) (fun d1114 => (ref27_Convert.l1 b_0 t991 k d1114 (IntKind.i64.wrap (i1092 + 1))))) else (some d1090))
def ref27_Convert.l0 (b_0 : (List Int)) : Nat → (List Int) → Int → Option ((List Int))
  | 0, _, _ => none
  | k + 1, xs989, t991 => (if (decide (t991 < (IntKind.i64.wrap (8 * ((b_0.length : Nat) : Int))))) = true then (Option.bind (α := Int) (ref27_Convert.l1 b_0 t991 k 0 t991) (fun d1097 => (if (xs989.length + 1) * 1 ≤ 140737488355328 then (ref27_Convert.l0 b_0 k (xs989 ++ [d1097]) (IntKind.i64.wrap (t991 + 5))) else none))) else (some xs989))
def ref27_Convert.f (k : Nat) (b_0 : (List Int)) : Option (List Int) := (Option.bind (α := (List Int)) (ref27_Convert.l0 b_0 k ([] : List Int) 0) (fun xs997 => (some xs997)))
set_option maxRecDepth 100000 in
theorem ref27_Convert.calls (k : Nat) (b_0 : (List Int)) (F : List (Option Nat)) (v0 : Value) (r : (List Int)) (w0 : World) (h0 : RoV F (Pl.int .u8) w0 v0 b_0) (hM : Mem F w0 w0 []) (H : ref27_Convert.f k b_0 = some r) :
    Calls Try.prog 10 #[v0] w0 fun e w' => ∃ v, e = .returned v ∧ ∃ (ur_0 : Value), v = ur_0 ∧ Mem F w0 w' [.row 5 (Pl.int .u8).sz ur_0 ((Pl.int .u8).flat r)] := by
  unfold ref27_Convert.f at H
  obtain ⟨A0, c0, rfl, hr0, hc0⟩ := h0
  refine enterL (n := 46) [(.slice A0 b_0.length c0)] Try.func10 rfl rfl rfl ?_
  intro a hA
  refine wp_seq ?_
  refine wp_region_lit ?_
  refine L1 (stv hA (by decide) (run_assign (hA.ev rfl)) ?_)
  clear hA; intro a hA
  refine LQ ?_
  refine TN ?_
  refine wp_seq ?_
  refine wp_region_lit ?_
  refine L1 (stv hA (by decide) (run_assign (hA.ev rfl)) ?_)
  clear hA; intro a hA
  refine LQ ?_
  refine TN ?_
  refine wp_seq ?_
  refine wp_seq ?_
  refine wp_region_lit ?_
  refine L1 (stv hA (by decide) (run_assign (hA.ev rfl)) ?_)
  clear hA; intro a hA
  refine LQ ?_
  refine TN ?_
  obtain ⟨o999, H998, H⟩ := Option.bind_eq_some_iff.1 H
  refine cutC (fun a w => ∃ (xs997 : (List Int)) (v994 : Value), xs997 = o999 ∧ Mem F w0 w [.row 5 (Pl.int .u8).sz v994 ((Pl.int .u8).flat xs997)] ∧ Has 46 [(3, v994)] a) ?_ ?_
  · refine wp_block ?_
    have hM := hM.addnil 5 ((Pl.int .u8)).sz
    refine wp_loop_ghost (fun m a w => ∃ (xs989 : (List Int)) (t991 : Int) (v986 : Value), ref27_Convert.l0 b_0 m xs989 t991 = some o999 ∧ Mem F w0 w [.row 5 (Pl.int .u8).sz v986 ((Pl.int .u8).flat xs989)] ∧ Has 46 [(0, (.slice A0 b_0.length c0)), (3, v986), (4, (.int .i64 t991))] a) k ⟨([] : List Int), 0, (.slice none 0 0), H998, hM, (((hA.nil.cons (hA.get 4 _ rfl)).cons (hA.get 3 _ rfl)).cons (hA.get 0 _ rfl))⟩ ?_
    clear hM hA; rintro m1001 a w1002 ⟨xs989, t991, v986, H998, hM, hA⟩
    cases m1001 with
    | zero => exact absurd H998 (by simp [ref27_Convert.l0])
    | succ m1001 =>
    rw [ref27_Convert.l0] at H998
    obtain ⟨A987, c988, rfl⟩ := RowOk.form (hM.row (p := (Pl.int .u8)) .z)
    refine wp_seq ?_
    refine wp_seq ?_
    refine wp_region_lit ?_
    refine L1 (stv hA (by decide) (run_move (hA.ev rfl)) ?_)
    clear hA; intro a hA
    refine L1 (stv hA (by decide) (run_move (hA.ev rfl)) ?_)
    clear hA; intro a hA
    refine L1 (stv hA (by decide) (run_len_slice Try.underlying22 (hA.ev rfl)) ?_)
    clear hA; intro a hA
    refine L1 (stv hA (by decide) (run_bin (hA.ev rfl) (hA.ev rfl) (bin_mul _ _ _ _)) ?_)
    clear hA; intro a hA
    refine L1 (stv hA (by decide) (run_bin (hA.ev rfl) (hA.ev rfl) (bin_lss _ _ _ _)) ?_)
    clear hA; intro a hA
    refine LQ ?_
    refine TN ?_
    refine tcond (b := (decide (t991 < (IntKind.i64.wrap (8 * ((b_0.length : Nat) : Int)))))) hA rfl (fun hb1003 => ?_) (fun hb1003 => ?_)
    · replace H998 := ite_t hb1003 H998
      refine wp_skip ?_
      refine TN ?_
      refine wp_seq ?_
      refine wp_block ?_
      refine wp_seq ?_
      refine wp_region_lit ?_
      refine L1 (stv hA (by decide) (run_assign (hA.ev rfl)) ?_)
      clear hA; intro a hA
      refine LQ ?_
      refine TN ?_
      refine wp_seq ?_
      refine wp_seq ?_
      refine wp_region_lit ?_
      refine L1 (stv hA (by decide) (run_move (hA.ev rfl)) ?_)
      clear hA; intro a hA
      refine L1 (stv hA (by decide) (run_assign (hA.ev rfl)) ?_)
      clear hA; intro a hA
      refine LQ ?_
      refine TN ?_
      obtain ⟨o1099, H1098, H998⟩ := Option.bind_eq_some_iff.1 H998
      refine cutC (fun a w => ∃ (d1097 : Int), d1097 = o1099 ∧ Mem F w0 w [.row 5 (Pl.int .u8).sz (.slice A987 xs989.length c988) ((Pl.int .u8).flat xs989)] ∧ Has 46 [(0, (.slice A0 b_0.length c0)), (3, (.slice A987 xs989.length c988)), (4, (.int .i64 t991)), (5, (.int .u8 d1097))] a) ?_ ?_
      · refine wp_block ?_
        refine wp_loop_ghost (fun m a w => ∃ (d1090 : Int) (i1092 : Int), ref27_Convert.l1 b_0 t991 m d1090 i1092 = some o1099 ∧ Mem F w0 w [.row 5 (Pl.int .u8).sz (.slice A987 xs989.length c988) ((Pl.int .u8).flat xs989)] ∧ Has 46 [(0, (.slice A0 b_0.length c0)), (3, (.slice A987 xs989.length c988)), (4, (.int .i64 t991)), (5, (.int .u8 d1090)), (6, (.int .i64 i1092))] a) m1001 ⟨0, t991, H1098, hM, (((((hA.nil.cons (hA.get 6 _ rfl)).cons (hA.get 5 _ rfl)).cons (hA.get 4 _ rfl)).cons (hA.get 3 _ rfl)).cons (hA.get 0 _ rfl))⟩ ?_
        clear hM hA; rintro m1100 a w1101 ⟨d1090, i1092, H1098, hM, hA⟩
        cases m1100 with
        | zero => exact absurd H1098 (by simp [ref27_Convert.l1])
        | succ m1100 =>
        rw [ref27_Convert.l1] at H1098
        refine wp_seq ?_
        refine wp_seq ?_
        refine wp_region_lit ?_
        refine L1 (stv hA (by decide) (run_move (hA.ev rfl)) ?_)
        clear hA; intro a hA
        refine L1 (stv hA (by decide) (run_move (hA.ev rfl)) ?_)
        clear hA; intro a hA
        refine L1 (stv hA (by decide) (run_bin (hA.ev rfl) (hA.ev rfl) (bin_add _ _ _ _)) ?_)
        clear hA; intro a hA
        refine L1 (stv hA (by decide) (run_bin (hA.ev rfl) (hA.ev rfl) (bin_lss _ _ _ _)) ?_)
        clear hA; intro a hA
        refine LQ ?_
        refine TN ?_
        refine tcond (b := (decide (i1092 < (IntKind.i64.wrap (t991 + 5))))) hA rfl (fun hb1102 => ?_) (fun hb1102 => ?_)
        · replace H1098 := ite_t hb1102 H1098
          refine wp_skip ?_
          refine TN ?_
          refine wp_seq ?_
          refine wp_block ?_
          refine wp_seq ?_
          refine wp_region_lit ?_
          refine L1 (stv hA (by decide) (run_move (hA.ev rfl)) ?_)
          clear hA; intro a hA
          refine L1 (stv hA (by decide) (run_shl (hA.ev rfl) (hA.ev rfl) (by decide)) ?_)
          clear hA; intro a hA
          refine L1 (stv hA (by decide) (run_assign (hA.ev rfl)) ?_)
          clear hA; intro a hA
          refine LQ ?_
          refine TN ?_
          refine wp_seq ?_
          refine wp_region_lit ?_
          refine L1 (stv hA (by decide) (run_move (hA.ev rfl)) ?_)
          clear hA; intro a hA
          refine L1 (stv hA (by decide) (run_move (hA.ev rfl)) ?_)
          clear hA; intro a hA
          refine L1 (stv hA (by decide) (run_len_slice Try.underlying22 (hA.ev rfl)) ?_)
          clear hA; intro a hA
          refine L1 (stv hA (by decide) (run_bin (hA.ev rfl) (hA.ev rfl) (bin_mul _ _ _ _)) ?_)
          clear hA; intro a hA
          refine L1 (stv hA (by decide) (run_bin (hA.ev rfl) (hA.ev rfl) (bin_lss _ _ _ _)) ?_)
          clear hA; intro a hA
          refine LQ ?_
          refine TN ?_
          obtain ⟨o1117, H1116, H1098⟩ := Option.bind_eq_some_iff.1 H1098
          refine cutC (fun a w => ∃ (d1114 : Int), d1114 = o1117 ∧ Mem F w0 w [.row 5 (Pl.int .u8).sz (.slice A987 xs989.length c988) ((Pl.int .u8).flat xs989)] ∧ Has 46 [(0, (.slice A0 b_0.length c0)), (3, (.slice A987 xs989.length c988)), (4, (.int .i64 t991)), (5, (.int .u8 d1114)), (6, (.int .i64 i1092))] a) ?_ ?_
          · refine tcond (b := (decide (i1092 < (IntKind.i64.wrap (8 * ((b_0.length : Nat) : Int)))))) hA rfl (fun hb1118 => ?_) (fun hb1118 => ?_)
            · replace H1116 := ite_t hb1118 H1116
              refine wp_region_lit ?_
              refine L1 (stv hA (by decide) (run_move (hA.ev rfl)) ?_)
              clear hA; intro a hA
              refine L1 (stv hA (by decide) (run_move (hA.ev rfl)) ?_)
              clear hA; intro a hA
              refine L1 (stv hA (by decide) (run_move (hA.ev rfl)) ?_)
              clear hA; intro a hA
              refine L1 (stv hA (by decide) (run_bin (hA.ev rfl) (hA.ev rfl) (bin_quo _ _ _ _ (by decide))) ?_)
              clear hA; intro a hA
              obtain ⟨⟨hi1119, hj1120⟩, H1116⟩ := ite_some H1116
              obtain ⟨ad1121, hq1122, hat1123⟩ := Row.elem' (p := (Pl.int .u8)) (hM.ro hr0) (Eq.refl b_0.length) (0 : Int) (IntKind.i64.wrap (i1092.tdiv 8)) hi1119 hj1120
              refine L1 (stv hA (by decide) (run_idx Try.underlying22 Try.sizeOf5 (hA.ev rfl) hq1122 (hA.ev rfl) hi1119 hj1120) ?_)
              clear hA; intro a hA
              refine L1 (stv hA (by decide) (run_ld (hA.ev rfl) (run_loadS Try.isAgg5 hat1123)) ?_)
              clear hA; intro a hA
              refine L1 (stv hA (by decide) (run_move (hA.ev rfl)) ?_)
              clear hA; intro a hA
              refine L1 (stv hA (by decide) (run_bin (hA.ev rfl) (hA.ev rfl) (bin_rem _ _ _ _ (by decide))) ?_)
              clear hA; intro a hA
              refine L1 (stv hA (by decide) (run_bin (hA.ev rfl) (hA.ev rfl) (bin_sub _ _ _ _)) ?_)
              clear hA; intro a hA
              refine L1 (stv hA (by decide) (run_conv Try.underlying3 Try.underlying43 (hA.ev rfl)) ?_)
              clear hA; intro a hA
              obtain ⟨hs1124, H1116⟩ := ite_some H1116
              refine L1 (stv hA (by decide) (run_shr (hA.ev rfl) (hA.ev rfl) hs1124) ?_)
              clear hA; intro a hA
              refine L1 (stv hA (by decide) (run_bin (hA.ev rfl) (hA.ev rfl) (bin_and _ _ _ _)) ?_)
              clear hA; intro a hA
              refine L1 (stv hA (by decide) (run_bin (hA.ev rfl) (hA.ev rfl) (bin_or _ _ _ _)) ?_)
              clear hA; intro a hA
              refine L1 (stv hA (by decide) (run_assign (hA.ev rfl)) ?_)
              clear hA; intro a hA
              refine LQ ?_
              exact ⟨ior .u8 (ishl .u8 d1090 1) (iand .u8 (ishr .u8 (b_0.getD (IntKind.i64.wrap (i1092.tdiv 8)).toNat (0 : Int)) (IntKind.u64.wrap (IntKind.i64.wrap (7 - (i1092.tmod 8))))) 1), Option.some.inj H1116, hM, (((((hA.nil.cons (hA.get 6 _ rfl)).cons (hA.get 5 _ rfl)).cons (hA.get 4 _ rfl)).cons (hA.get 3 _ rfl)).cons (hA.get 0 _ rfl))⟩
            · replace H1116 := ite_f hb1118 H1116
              refine wp_skip ?_
              exact ⟨ishl .u8 d1090 1, Option.some.inj H1116, hM, (((((hA.nil.cons (hA.get 6 _ rfl)).cons (hA.get 5 _ rfl)).cons (hA.get 4 _ rfl)).cons (hA.get 3 _ rfl)).cons (hA.get 0 _ rfl))⟩
          clear hM hA
          rintro a w1125 ⟨d1114, rfl, hM, hA⟩
          try dsimp only at H1098
          refine BN ?_
          refine TN ?_
          refine wp_region_lit ?_
          refine L1 (stv hA (by decide) (run_move (hA.ev rfl)) ?_)
          clear hA; intro a hA
          refine L1 (stv hA (by decide) (run_bin (hA.ev rfl) (hA.ev rfl) (bin_add _ _ _ _)) ?_)
          clear hA; intro a hA
          refine L1 (stv hA (by decide) (run_assign (hA.ev rfl)) ?_)
          clear hA; intro a hA
          refine LQ ?_
          exact ⟨_, Nat.lt_succ_self m1100, d1114, IntKind.i64.wrap (i1092 + 1), H1098, hM, (((((hA.nil.cons (hA.get 6 _ rfl)).cons (hA.get 5 _ rfl)).cons (hA.get 4 _ rfl)).cons (hA.get 3 _ rfl)).cons (hA.get 0 _ rfl))⟩
        · replace H1098 := ite_f hb1102 H1098
          refine wp_exit ?_
          refine TX ?_
          refine TX ?_
          refine BX ?_
          exact ⟨d1090, Option.some.inj H1098, hM, ((((hA.nil.cons (hA.get 5 _ rfl)).cons (hA.get 4 _ rfl)).cons (hA.get 3 _ rfl)).cons (hA.get 0 _ rfl))⟩
      clear hM hA
      rintro a w1126 ⟨d1097, rfl, hM, hA⟩
      try dsimp only at H998
      refine TN ?_
      refine wp_region_lit ?_
      refine L1 (stv hA (by decide) (run_move (hA.ev rfl)) ?_)
      clear hA; intro a hA
      refine L1 (stv hA (by decide) (run_move (hA.ev rfl)) ?_)
      clear hA; intro a hA
      refine L1 (e_litN [d1097] [(.int .u8 d1097)] elt22 hM rfl (by decide) hA rfl rfl (List.cons_ne_nil _ _) (by decide) ?_)
      clear hM hA; intro w1128 g1127 hM hE  a hA
      obtain ⟨hl1132, H998⟩ := ite_some H998
      refine L1 (e_append elt22 hM (fun _ => (.s .z)) (Src.row Try.underlying22 (RowOk.row (hM.row (p := (Pl.int .u8)) .z)) (RowOk.len (hM.row (p := (Pl.int .u8)) .z))) hl1132 hA rfl rfl (by decide) ?_)
      clear hM hA; intro w1133 A1130 c1131 hM hE  a hA
      refine L1 (stv hA (by decide) (run_assign (hA.ev rfl)) ?_)
      clear hA; intro a hA
      refine LQ ?_
      refine BN ?_
      refine TN ?_
      refine wp_region_lit ?_
      refine L1 (stv hA (by decide) (run_move (hA.ev rfl)) ?_)
      clear hA; intro a hA
      refine L1 (stv hA (by decide) (run_bin (hA.ev rfl) (hA.ev rfl) (bin_add _ _ _ _)) ?_)
      clear hA; intro a hA
      refine L1 (stv hA (by decide) (run_assign (hA.ev rfl)) ?_)
      clear hA; intro a hA
      refine LQ ?_
      exact ⟨_, Nat.lt_succ_self m1001, (xs989 ++ [d1097]), IntKind.i64.wrap (t991 + 5), (.slice A1130 (xs989.length + 1) c1131), H998, (hM.sel [1] rfl (by decide)), (((hA.nil.cons (hA.get 4 _ rfl)).cons (hA.get 3 _ rfl)).cons (hA.get 0 _ rfl))⟩
    · replace H998 := ite_f hb1003 H998
      refine wp_exit ?_
      refine TX ?_
      refine TX ?_
      refine BX ?_
      exact ⟨xs989, (.slice A987 xs989.length c988), Option.some.inj H998, hM, (hA.nil.cons (hA.get 3 _ rfl))⟩
  clear hM hA
  rintro a w1134 ⟨xs997, v994, rfl, hM, hA⟩
  try dsimp only at H
  obtain ⟨A995, c996, rfl⟩ := RowOk.form (hM.row (p := (Pl.int .u8)) .z)
  refine TN ?_
  refine wp_seq ?_
  refine wp_region_lit ?_
  refine L1 (stv hA (by decide) (run_move (hA.ev rfl)) ?_)
  clear hA; intro a hA
  refine L1 (stv hA (by decide) (run_assign (hA.ev rfl)) ?_)
  clear hA; intro a hA
  refine LQ ?_
  refine TN ?_
  refine wp_ret ?_
  obtain rfl := Option.some.inj H
  exact ret_post1 (fn := Try.f10) hA rfl rfl ⟨_, rfl, (.slice A995 xs997.length c996), rfl, hM⟩

def ref27_Prefix.l0 (s_0 : ByteArray) : Nat → Int → Option (Out Bool (Unit))
  | 0, _ => none
  | k + 1, i168 => (if (decide (i168 < ((s_0.size : Nat) : Int))) = true then (Option.bind (α := Bool) (if 0 ≤ i168 ∧ i168 < ((s_0.size : Nat) : Int) then (if (decide ((sg s_0 i168) < 97)) = true then (some true) else (if 0 ≤ i168 ∧ i168 < ((s_0.size : Nat) : Int) then (some (decide ((sg s_0 i168) > 122))) else none)) else none) (fun t183 => (if t183 = true then (some (.ret false)) else (ref27_Prefix.l0 s_0 k (IntKind.i64.wrap (i168 + 1)))))) else (some (.go ())))
def ref27_Prefix.f (k : Nat) (s_0 : ByteArray) : Option Bool := (Option.bind (α := Out Bool (Unit)) (ref27_Prefix.l0 s_0 k 0) (fun o => match o with | .ret r => some r | .go _ => (Option.bind (α := Bool) (if (decide (((s_0.size : Nat) : Int) ≥ 1)) = true then (some (decide (((s_0.size : Nat) : Int) ≤ 10))) else (some false)) (fun t196 => (some t196)))))
set_option maxRecDepth 100000 in
theorem ref27_Prefix.calls (k : Nat) (s_0 : ByteArray) (F : List (Option Nat)) (r : Bool) (w0 : World) (hM : Mem F w0 w0 []) (H : ref27_Prefix.f k s_0 = some r) :
    Calls Try.prog 18 #[(.string s_0)] w0 fun e w' => ∃ v, e = .returned v ∧ v = (.bool r) ∧ Mem F w0 w' [] := by
  unfold ref27_Prefix.f at H
  refine enterL (n := 28) [(.string s_0)] Try.func18 rfl rfl rfl ?_
  intro a hA
  refine wp_seq ?_
  refine wp_region_lit ?_
  refine L1 (stv hA (by decide) (run_assign (hA.ev rfl)) ?_)
  clear hA; intro a hA
  refine LQ ?_
  refine TN ?_
  refine wp_seq ?_
  refine wp_seq ?_
  refine wp_region_lit ?_
  refine L1 (stv hA (by decide) (run_assign (hA.ev rfl)) ?_)
  clear hA; intro a hA
  refine LQ ?_
  refine TN ?_
  obtain ⟨o171, H170, H⟩ := Option.bind_eq_some_iff.1 H
  refine cutC (fun a w => (.go ()) = o171 ∧ Mem F w0 w [] ∧ Has 28 [(0, (.string s_0))] a) ?_ ?_
  · refine wp_block ?_
    refine wp_loop_ghost (fun m a w => ∃ (i168 : Int), ref27_Prefix.l0 s_0 m i168 = some o171 ∧ Mem F w0 w [] ∧ Has 28 [(0, (.string s_0)), (3, (.int .i64 i168))] a) k ⟨0, H170, hM, ((hA.nil.cons (hA.get 3 _ rfl)).cons (hA.get 0 _ rfl))⟩ ?_
    clear hM hA; rintro m172 a w173 ⟨i168, H170, hM, hA⟩
    cases m172 with
    | zero => exact absurd H170 (by simp [ref27_Prefix.l0])
    | succ m172 =>
    rw [ref27_Prefix.l0] at H170
    refine wp_seq ?_
    refine wp_seq ?_
    refine wp_region_lit ?_
    refine L1 (stv hA (by decide) (run_move (hA.ev rfl)) ?_)
    clear hA; intro a hA
    refine L1 (stv hA (by decide) (run_move (hA.ev rfl)) ?_)
    clear hA; intro a hA
    refine L1 (stv hA (by decide) (run_len_str Try.underlying9 (hA.ev rfl)) ?_)
    clear hA; intro a hA
    refine L1 (stv hA (by decide) (run_bin (hA.ev rfl) (hA.ev rfl) (bin_lss _ _ _ _)) ?_)
    clear hA; intro a hA
    refine LQ ?_
    refine TN ?_
    refine tcond (b := (decide (i168 < ((s_0.size : Nat) : Int)))) hA rfl (fun hb174 => ?_) (fun hb174 => ?_)
    · replace H170 := ite_t hb174 H170
      refine wp_skip ?_
      refine TN ?_
      refine wp_seq ?_
      refine wp_block ?_
      refine wp_seq ?_
      obtain ⟨o185, H184, H170⟩ := Option.bind_eq_some_iff.1 H170
      refine cutC (fun a w => ∃ (t183 : Bool), t183 = o185 ∧ Mem F w0 w [] ∧ Has 28 [(0, (.string s_0)), (3, (.int .i64 i168)), (19, (.bool t183))] a) ?_ ?_
      · refine wp_region_lit ?_
        refine L1 (stv hA (by decide) (run_move (hA.ev rfl)) ?_)
        clear hA; intro a hA
        refine L1 (stv hA (by decide) (run_move (hA.ev rfl)) ?_)
        clear hA; intro a hA
        obtain ⟨⟨hi186, hj187⟩, H184⟩ := ite_some H184
        refine L1 (stv hA (by decide) (run_index_str Try.underlying9 (hA.ev rfl) (hA.ev rfl) hi186 hj187) ?_)
        clear hA; intro a hA
        refine L1 (stv hA (by decide) (run_bin (hA.ev rfl) (hA.ev rfl) (bin_lss _ _ _ _)) ?_)
        clear hA; intro a hA
        refine L1 (stv hA (by decide) (run_move (hA.ev rfl)) ?_)
        clear hA; intro a hA
        refine bsplit (b := (decide ((sg s_0 i168) < 97))) (fun hb188 => ?_) (fun hb188 => ?_)
        · replace H184 := ite_t hb188 H184
          have hA := hA.re (t := 14) rfl (congrArg Value.bool hb188)
          refine L1 (gate_off rfl (by decide) rfl hA (by decide) rfl rfl ?_); clear hA; intro a hA
          refine L1 (gate_off rfl (by decide) rfl hA (by decide) rfl rfl ?_); clear hA; intro a hA
          refine L1 (gate_off rfl (by decide) rfl hA (by decide) rfl rfl ?_); clear hA; intro a hA
          refine L1 (gate_off rfl (by decide) rfl hA (by decide) rfl rfl ?_); clear hA; intro a hA
          refine L1 (stv hA (by decide) (run_pick (hA.ev rfl) (fun _ => hA.ev rfl) (fun h => Bool.noConfusion h)) ?_)
          clear hA; intro a hA
          refine LQ ?_
          exact ⟨true, Option.some.inj H184, hM, (((hA.nil.cons (hA.get 19 _ rfl)).cons (hA.get 3 _ rfl)).cons (hA.get 0 _ rfl))⟩
        · replace H184 := ite_f hb188 H184
          have hA := hA.re (t := 14) rfl (congrArg Value.bool hb188)
          refine L1 (gate_on rfl rfl hA (by decide) rfl (stv hA (by decide) (run_move (hA.ev rfl)) ?_))
          clear hA; intro a hA
          refine L1 (gate_on rfl rfl hA (by decide) rfl (stv hA (by decide) (run_move (hA.ev rfl)) ?_))
          clear hA; intro a hA
          obtain ⟨⟨hi189, hj190⟩, H184⟩ := ite_some H184
          refine L1 (gate_on rfl rfl hA (by decide) rfl (stv hA (by decide) (run_index_str Try.underlying9 (hA.ev rfl) (hA.ev rfl) hi189 hj190) ?_))
          clear hA; intro a hA
          refine L1 (gate_on rfl rfl hA (by decide) rfl (stv hA (by decide) (run_bin (hA.ev rfl) (hA.ev rfl) (bin_gtr _ _ _ _)) ?_))
          clear hA; intro a hA
          refine L1 (stv hA (by decide) (run_pick (hA.ev rfl) (fun h => Bool.noConfusion h) (fun _ => hA.ev rfl)) ?_)
          clear hA; intro a hA
          refine LQ ?_
          exact ⟨(decide ((sg s_0 i168) > 122)), Option.some.inj H184, hM, (((hA.nil.cons (hA.get 19 _ rfl)).cons (hA.get 3 _ rfl)).cons (hA.get 0 _ rfl))⟩
      clear hM hA
      rintro a w191 ⟨t183, rfl, hM, hA⟩
      try dsimp only at H170
      refine TN ?_
      refine tcond (b := t183) hA rfl (fun hb192 => ?_) (fun hb192 => ?_)
      · replace H170 := ite_t hb192 H170
        refine wp_seq ?_
        refine wp_region_lit ?_
        refine L1 (stv hA (by decide) (run_assign (hA.ev rfl)) ?_)
        clear hA; intro a hA
        refine LQ ?_
        refine TN ?_
        refine wp_ret ?_
        obtain rfl := Option.some.inj H170
        dsimp only at H
        obtain rfl := Option.some.inj H
        refine BR ?_
        refine TR ?_
        refine TR ?_
        refine BR ?_
        refine TR ?_
        refine TR ?_
        exact ret_post1 (fn := Try.f18) hA rfl rfl ⟨_, rfl, rfl, hM⟩
      · replace H170 := ite_f hb192 H170
        refine wp_skip ?_
        refine BN ?_
        refine TN ?_
        refine wp_region_lit ?_
        refine L1 (stv hA (by decide) (run_move (hA.ev rfl)) ?_)
        clear hA; intro a hA
        refine L1 (stv hA (by decide) (run_bin (hA.ev rfl) (hA.ev rfl) (bin_add _ _ _ _)) ?_)
        clear hA; intro a hA
        refine L1 (stv hA (by decide) (run_assign (hA.ev rfl)) ?_)
        clear hA; intro a hA
        refine LQ ?_
        exact ⟨_, Nat.lt_succ_self m172, IntKind.i64.wrap (i168 + 1), H170, hM, ((hA.nil.cons (hA.get 3 _ rfl)).cons (hA.get 0 _ rfl))⟩
    · replace H170 := ite_f hb174 H170
      refine wp_exit ?_
      refine TX ?_
      refine TX ?_
      refine BX ?_
      exact ⟨Option.some.inj H170, hM, (hA.nil.cons (hA.get 0 _ rfl))⟩
  clear hM hA
  rintro a w193 ⟨rfl, hM, hA⟩
  try dsimp only at H
  refine TN ?_
  refine wp_seq ?_
  obtain ⟨o198, H197, H⟩ := Option.bind_eq_some_iff.1 H
  refine cutC (fun a w => ∃ (t196 : Bool), t196 = o198 ∧ Mem F w0 w [] ∧ Has 28 [(2, (.bool t196))] a) ?_ ?_
  · refine wp_region_lit ?_
    refine L1 (stv hA (by decide) (run_move (hA.ev rfl)) ?_)
    clear hA; intro a hA
    refine L1 (stv hA (by decide) (run_len_str Try.underlying9 (hA.ev rfl)) ?_)
    clear hA; intro a hA
    refine L1 (stv hA (by decide) (run_bin (hA.ev rfl) (hA.ev rfl) (bin_geq _ _ _ _)) ?_)
    clear hA; intro a hA
    refine L1 (stv hA (by decide) (run_move (hA.ev rfl)) ?_)
    clear hA; intro a hA
    refine bsplit (b := (decide (((s_0.size : Nat) : Int) ≥ 1))) (fun hb199 => ?_) (fun hb199 => ?_)
    · replace H197 := ite_t hb199 H197
      have hA := hA.re (t := 23) rfl (congrArg Value.bool hb199)
      refine L1 (gate_on rfl rfl hA (by decide) rfl (stv hA (by decide) (run_move (hA.ev rfl)) ?_))
      clear hA; intro a hA
      refine L1 (gate_on rfl rfl hA (by decide) rfl (stv hA (by decide) (run_len_str Try.underlying9 (hA.ev rfl)) ?_))
      clear hA; intro a hA
      refine L1 (gate_on rfl rfl hA (by decide) rfl (stv hA (by decide) (run_bin (hA.ev rfl) (hA.ev rfl) (bin_leq _ _ _ _)) ?_))
      clear hA; intro a hA
      refine L1 (stv hA (by decide) (run_pick (hA.ev rfl) (fun _ => hA.ev rfl) (fun h => Bool.noConfusion h)) ?_)
      clear hA; intro a hA
      refine L1 (stv hA (by decide) (run_assign (hA.ev rfl)) ?_)
      clear hA; intro a hA
      refine LQ ?_
      exact ⟨(decide (((s_0.size : Nat) : Int) ≤ 10)), Option.some.inj H197, hM, (hA.nil.cons (hA.get 2 _ rfl))⟩
    · replace H197 := ite_f hb199 H197
      have hA := hA.re (t := 23) rfl (congrArg Value.bool hb199)
      refine L1 (gate_off rfl (by decide) rfl hA (by decide) rfl rfl ?_); clear hA; intro a hA
      refine L1 (gate_off rfl (by decide) rfl hA (by decide) rfl rfl ?_); clear hA; intro a hA
      refine L1 (gate_off rfl (by decide) rfl hA (by decide) rfl rfl ?_); clear hA; intro a hA
      refine L1 (stv hA (by decide) (run_pick (hA.ev rfl) (fun h => Bool.noConfusion h) (fun _ => hA.ev rfl)) ?_)
      clear hA; intro a hA
      refine L1 (stv hA (by decide) (run_assign (hA.ev rfl)) ?_)
      clear hA; intro a hA
      refine LQ ?_
      exact ⟨false, Option.some.inj H197, hM, (hA.nil.cons (hA.get 2 _ rfl))⟩
  clear hM hA
  rintro a w200 ⟨t196, rfl, hM, hA⟩
  try dsimp only at H
  refine TN ?_
  refine wp_ret ?_
  obtain rfl := Option.some.inj H
  exact ret_post1 (fn := Try.f18) hA rfl rfl ⟨_, rfl, rfl, hM⟩

def ref27_remainder.l1 (c848 : Int) : Nat → Int → Int → Option (Int)
  | 0, _, _ => none
  | k + 1, c937, t941 => (if (decide (t941 < 5)) = true then (if 0 ≤ (IntKind.u64.wrap t941) then (Option.bind (α := Int) (if ((iand .u32 (ishr .u32 (ishr .u32 c848 25) (IntKind.u64.wrap t941)) 1) == 1) = true then (if 0 ≤ t941 ∧ t941 < ((5 : Nat) : Int) then (some (ixor .u32 c937 (vg (((((((Vector.replicate 5 0 : Vector Int 5).setIfInBounds 0 996825010).setIfInBounds 1 642813549).setIfInBounds 2 513874426).setIfInBounds 3 1027748829).setIfInBounds 4 705979059)) t941))) else none) else (some c937)) (fun c959 => (ref27_remainder.l1 c848 k c959 (IntKind.i64.wrap (t941 + 1))))) else none) else (some c937))
def ref27_remainder.l0 (d_0 : (List Int)) : Nat → Int → Int → Option (Int)
  | 0, _, _ => none
  | k + 1, c848, i850 => (if (decide (i850 < ((d_0.length : Nat) : Int))) = true then (if 0 ≤ i850 ∧ i850 < ((d_0.length : Nat) : Int) then (Option.bind (α := Int) (ref27_remainder.l1 c848 k (ixor .u32 (ishl .u32 (iand .u32 c848 33554431) 5) (IntKind.u32.wrap (d_0.getD i850.toNat (0 : Int)))) 0) (fun c945 => (ref27_remainder.l0 d_0 k c945 (IntKind.i64.wrap (i850 + 1))))) else none) else (some c848))
def ref27_remainder.f (k : Nat) (d_0 : (List Int)) : Option Int := (Option.bind (α := Int) (ref27_remainder.l0 d_0 k 1 0) (fun c852 => (some c852)))
set_option maxRecDepth 100000 in
theorem ref27_remainder.calls (k : Nat) (d_0 : (List Int)) (F : List (Option Nat)) (v0 : Value) (r : Int) (w0 : World) (h0 : RoV F (Pl.int .u8) w0 v0 d_0) (hM : Mem F w0 w0 []) (H : ref27_remainder.f k d_0 = some r) :
    Calls Try.prog 26 #[v0] w0 fun e w' => ∃ v, e = .returned v ∧ v = (.int .u32 r) ∧ Mem F w0 w' [] := by
  unfold ref27_remainder.f at H
  obtain ⟨A0, c0, rfl, hr0, hc0⟩ := h0
  refine enterL (n := 42) [(.slice A0 d_0.length c0)] Try.func26 rfl rfl rfl ?_
  intro a hA
  refine wp_seq ?_
  refine wp_region_lit ?_
  refine L1 (stv hA (by decide) (run_assign (hA.ev rfl)) ?_)
  clear hA; intro a hA
  refine LQ ?_
  refine TN ?_
  refine wp_seq ?_
  refine wp_region_lit ?_
  refine L1 (stv hA (by decide) (run_build_arr [(0, (.int .u32 996825010)), (1, (.int .u32 642813549)), (2, (.int .u32 513874426)), (3, (.int .u32 1027748829)), (4, (.int .u32 705979059))] zero53 Try.underlying53 Try.sizeOf46 hA rfl (fill_step rfl rfl (enc_fit _ _ rfl) (arr_eq (vec_spl' _ _ _ (by decide))) (fill_step rfl rfl (enc_fit _ _ rfl) (arr_eq (vec_spl' _ _ _ (by decide))) (fill_step rfl rfl (enc_fit _ _ rfl) (arr_eq (vec_spl' _ _ _ (by decide))) (fill_step rfl rfl (enc_fit _ _ rfl) (arr_eq (vec_spl' _ _ _ (by decide))) (fill_step rfl rfl (enc_fit _ _ rfl) (arr_eq (vec_spl' _ _ _ (by decide))) (fill_nil))))))) ?_)
  clear hA; intro a hA
  refine L1 (e_alloc (cs := (pA5u32.enc (Vector.replicate 5 0 : Vector Int 5))) hM zero53 rfl hA (by decide) ?_)
  clear hM hA; intro w487 g486 hM hE  a hA
  refine L1 (e_store (g := g486) (off := 0) (cur := (pA5u32.enc (Vector.replicate 5 0 : Vector Int 5))) (cs' := (pA5u32.enc (((((((Vector.replicate 5 0 : Vector Int 5).setIfInBounds 0 996825010).setIfInBounds 1 642813549).setIfInBounds 2 513874426).setIfInBounds 3 1027748829).setIfInBounds 4 705979059)))) hM .z Try.sizeOf53 hA rfl (by simp [add_mk]) rfl (agg_size _ _) (agg_one _ _) (Nat.le_of_ble_eq_true (enc_fitL _ _ rfl)) (spl_all (by first | rfl | simp [Value.cells, Pl.len])) ?_)
  clear hM hA; intro w489  hM hE  a hA
  refine LQ ?_
  refine TN ?_
  refine wp_seq ?_
  refine wp_region_lit ?_
  refine L1 (stv hA (by decide) (run_assign (hA.ev rfl)) ?_)
  clear hA; intro a hA
  refine LQ ?_
  refine TN ?_
  refine wp_seq ?_
  refine wp_seq ?_
  refine wp_region_lit ?_
  refine L1 (stv hA (by decide) (run_assign (hA.ev rfl)) ?_)
  clear hA; intro a hA
  refine LQ ?_
  refine TN ?_
  obtain ⟨o854, H853, H⟩ := Option.bind_eq_some_iff.1 H
  refine cutC (fun a w => ∃ (c852 : Int), c852 = o854 ∧ Mem F w0 w [] ∧ Has 42 [(4, (.int .u32 c852))] a) ?_ ?_
  · refine wp_block ?_
    refine wp_loop_ghost (fun m a w => ∃ (c848 : Int) (i850 : Int), ref27_remainder.l0 d_0 m c848 i850 = some o854 ∧ Mem F w0 w [.box g486 53 (pA5u32.enc (((((((Vector.replicate 5 0 : Vector Int 5).setIfInBounds 0 996825010).setIfInBounds 1 642813549).setIfInBounds 2 513874426).setIfInBounds 3 1027748829).setIfInBounds 4 705979059)))] ∧ Has 42 [(0, (.slice A0 d_0.length c0)), (3, (.pointer (some (⟨g486, 0, none⟩)))), (4, (.int .u32 c848)), (5, (.int .i64 i850))] a) k ⟨1, 0, H853, hM, ((((hA.nil.cons (hA.get 5 _ rfl)).cons (hA.get 4 _ rfl)).cons (hA.get 3 _ rfl)).cons (hA.get 0 _ rfl))⟩ ?_
    clear hM hA; rintro m855 a w856 ⟨c848, i850, H853, hM, hA⟩
    cases m855 with
    | zero => exact absurd H853 (by simp [ref27_remainder.l0])
    | succ m855 =>
    rw [ref27_remainder.l0] at H853
    refine wp_seq ?_
    refine wp_seq ?_
    refine wp_region_lit ?_
    refine L1 (stv hA (by decide) (run_move (hA.ev rfl)) ?_)
    clear hA; intro a hA
    refine L1 (stv hA (by decide) (run_move (hA.ev rfl)) ?_)
    clear hA; intro a hA
    refine L1 (stv hA (by decide) (run_len_slice Try.underlying22 (hA.ev rfl)) ?_)
    clear hA; intro a hA
    refine L1 (stv hA (by decide) (run_bin (hA.ev rfl) (hA.ev rfl) (bin_lss _ _ _ _)) ?_)
    clear hA; intro a hA
    refine LQ ?_
    refine TN ?_
    refine tcond (b := (decide (i850 < ((d_0.length : Nat) : Int)))) hA rfl (fun hb857 => ?_) (fun hb857 => ?_)
    · replace H853 := ite_t hb857 H853
      refine wp_skip ?_
      refine TN ?_
      refine wp_seq ?_
      refine wp_block ?_
      refine wp_seq ?_
      refine wp_region_lit ?_
      refine L1 (stv hA (by decide) (run_move (hA.ev rfl)) ?_)
      clear hA; intro a hA
      refine L1 (stv hA (by decide) (run_shr (hA.ev rfl) (hA.ev rfl) (by decide)) ?_)
      clear hA; intro a hA
      refine L1 (stv hA (by decide) (run_assign (hA.ev rfl)) ?_)
      clear hA; intro a hA
      refine LQ ?_
      refine TN ?_
      refine wp_seq ?_
      refine wp_region_lit ?_
      refine L1 (stv hA (by decide) (run_move (hA.ev rfl)) ?_)
      clear hA; intro a hA
      refine L1 (stv hA (by decide) (run_bin (hA.ev rfl) (hA.ev rfl) (bin_and _ _ _ _)) ?_)
      clear hA; intro a hA
      refine L1 (stv hA (by decide) (run_shl (hA.ev rfl) (hA.ev rfl) (by decide)) ?_)
      clear hA; intro a hA
      refine L1 (stv hA (by decide) (run_move (hA.ev rfl)) ?_)
      clear hA; intro a hA
      refine L1 (stv hA (by decide) (run_move (hA.ev rfl)) ?_)
      clear hA; intro a hA
      obtain ⟨⟨hi858, hj859⟩, H853⟩ := ite_some H853
      obtain ⟨ad860, hq861, hat862⟩ := Row.elem' (p := (Pl.int .u8)) (hM.ro hr0) (Eq.refl d_0.length) (0 : Int) i850 hi858 hj859
      refine L1 (stv hA (by decide) (run_idx Try.underlying22 Try.sizeOf5 (hA.ev rfl) hq861 (hA.ev rfl) hi858 hj859) ?_)
      clear hA; intro a hA
      refine L1 (stv hA (by decide) (run_ld (hA.ev rfl) (run_loadS Try.isAgg5 hat862)) ?_)
      clear hA; intro a hA
      refine L1 (stv hA (by decide) (run_conv Try.underlying5 Try.underlying46 (hA.ev rfl)) ?_)
      clear hA; intro a hA
      refine L1 (stv hA (by decide) (run_bin (hA.ev rfl) (hA.ev rfl) (bin_xor _ _ _ _)) ?_)
      clear hA; intro a hA
      refine L1 (stv hA (by decide) (run_assign (hA.ev rfl)) ?_)
      clear hA; intro a hA
      refine LQ ?_
      refine TN ?_
      refine wp_seq ?_
      refine wp_region_lit ?_
      refine L1 (stv hA (by decide) (run_assign (hA.ev rfl)) ?_)
      clear hA; intro a hA
      refine LQ ?_
      refine TN ?_
      obtain ⟨o948, H947, H853⟩ := Option.bind_eq_some_iff.1 H853
      refine cutC (fun a w => ∃ (c945 : Int), c945 = o948 ∧ Mem F w0 w [.box g486 53 (pA5u32.enc (((((((Vector.replicate 5 0 : Vector Int 5).setIfInBounds 0 996825010).setIfInBounds 1 642813549).setIfInBounds 2 513874426).setIfInBounds 3 1027748829).setIfInBounds 4 705979059)))] ∧ Has 42 [(0, (.slice A0 d_0.length c0)), (3, (.pointer (some (⟨g486, 0, none⟩)))), (4, (.int .u32 c945)), (5, (.int .i64 i850))] a) ?_ ?_
      · refine wp_block ?_
        refine wp_loop_ghost (fun m a w => ∃ (c937 : Int) (t941 : Int), ref27_remainder.l1 c848 m c937 t941 = some o948 ∧ Mem F w0 w [.box g486 53 (pA5u32.enc (((((((Vector.replicate 5 0 : Vector Int 5).setIfInBounds 0 996825010).setIfInBounds 1 642813549).setIfInBounds 2 513874426).setIfInBounds 3 1027748829).setIfInBounds 4 705979059)))] ∧ Has 42 [(0, (.slice A0 d_0.length c0)), (3, (.pointer (some (⟨g486, 0, none⟩)))), (4, (.int .u32 c937)), (5, (.int .i64 i850)), (6, (.int .u32 (ishr .u32 c848 25))), (7, (.int .i64 t941))] a) m855 ⟨ixor .u32 (ishl .u32 (iand .u32 c848 33554431) 5) (IntKind.u32.wrap (d_0.getD i850.toNat (0 : Int))), 0, H947, hM, ((((((hA.nil.cons (hA.get 7 _ rfl)).cons (hA.get 6 _ rfl)).cons (hA.get 5 _ rfl)).cons (hA.get 4 _ rfl)).cons (hA.get 3 _ rfl)).cons (hA.get 0 _ rfl))⟩ ?_
        clear hM hA; rintro m949 a w950 ⟨c937, t941, H947, hM, hA⟩
        cases m949 with
        | zero => exact absurd H947 (by simp [ref27_remainder.l1])
        | succ m949 =>
        rw [ref27_remainder.l1] at H947
        refine wp_seq ?_
        refine wp_seq ?_
        refine wp_region_lit ?_
        refine L1 (stv hA (by decide) (run_move (hA.ev rfl)) ?_)
        clear hA; intro a hA
        refine L1 (stv hA (by decide) (run_bin (hA.ev rfl) (hA.ev rfl) (bin_lss _ _ _ _)) ?_)
        clear hA; intro a hA
        refine LQ ?_
        refine TN ?_
        refine tcond (b := (decide (t941 < 5))) hA rfl (fun hb951 => ?_) (fun hb951 => ?_)
        · replace H947 := ite_t hb951 H947
          refine wp_skip ?_
          refine TN ?_
          refine wp_seq ?_
          refine wp_block ?_
          refine wp_seq ?_
          refine wp_region_lit ?_
          refine L1 (stv hA (by decide) (run_move (hA.ev rfl)) ?_)
          clear hA; intro a hA
          refine L1 (stv hA (by decide) (run_move (hA.ev rfl)) ?_)
          clear hA; intro a hA
          refine L1 (stv hA (by decide) (run_conv Try.underlying3 Try.underlying43 (hA.ev rfl)) ?_)
          clear hA; intro a hA
          obtain ⟨hs952, H947⟩ := ite_some H947
          refine L1 (stv hA (by decide) (run_shr (hA.ev rfl) (hA.ev rfl) hs952) ?_)
          clear hA; intro a hA
          refine L1 (stv hA (by decide) (run_bin (hA.ev rfl) (hA.ev rfl) (bin_and _ _ _ _)) ?_)
          clear hA; intro a hA
          refine L1 (stv hA (by decide) (run_bin (hA.ev rfl) (hA.ev rfl) (bin_eql _ _ _ _)) ?_)
          clear hA; intro a hA
          refine LQ ?_
          refine TN ?_
          obtain ⟨o964, H963, H947⟩ := Option.bind_eq_some_iff.1 H947
          refine cutC (fun a w => ∃ (c959 : Int), c959 = o964 ∧ Mem F w0 w [.box g486 53 (pA5u32.enc (((((((Vector.replicate 5 0 : Vector Int 5).setIfInBounds 0 996825010).setIfInBounds 1 642813549).setIfInBounds 2 513874426).setIfInBounds 3 1027748829).setIfInBounds 4 705979059)))] ∧ Has 42 [(0, (.slice A0 d_0.length c0)), (3, (.pointer (some (⟨g486, 0, none⟩)))), (4, (.int .u32 c959)), (5, (.int .i64 i850)), (6, (.int .u32 (ishr .u32 c848 25))), (7, (.int .i64 t941))] a) ?_ ?_
          · refine tcond (b := ((iand .u32 (ishr .u32 (ishr .u32 c848 25) (IntKind.u64.wrap t941)) 1) == 1)) hA rfl (fun hb965 => ?_) (fun hb965 => ?_)
            · replace H963 := ite_t hb965 H963
              refine wp_region_lit ?_
              refine L1 (stv hA (by decide) (run_move (hA.ev rfl)) ?_)
              clear hA; intro a hA
              refine L1 (stv hA (by decide) (run_move (hA.ev rfl)) ?_)
              clear hA; intro a hA
              obtain ⟨⟨hi966, hj967⟩, H963⟩ := ite_some H963
              refine L1 (stv hA (by decide) (run_idxarr Try.underlying53 Try.sizeOf46 (hA.ev rfl) (hA.ev rfl) hi966 hj967) ?_)
              clear hA; intro a hA
              refine L1 (stv hA (by decide) (run_ld (hA.ev rfl) (run_loadS Try.isAgg46 (vec_at (hM.box .z) hi966 hj967))) ?_)
              clear hA; intro a hA
              refine L1 (stv hA (by decide) (run_bin (hA.ev rfl) (hA.ev rfl) (bin_xor _ _ _ _)) ?_)
              clear hA; intro a hA
              refine L1 (stv hA (by decide) (run_assign (hA.ev rfl)) ?_)
              clear hA; intro a hA
              refine LQ ?_
              exact ⟨ixor .u32 c937 (vg (((((((Vector.replicate 5 0 : Vector Int 5).setIfInBounds 0 996825010).setIfInBounds 1 642813549).setIfInBounds 2 513874426).setIfInBounds 3 1027748829).setIfInBounds 4 705979059)) t941), Option.some.inj H963, hM, ((((((hA.nil.cons (hA.get 7 _ rfl)).cons (hA.get 6 _ rfl)).cons (hA.get 5 _ rfl)).cons (hA.get 4 _ rfl)).cons (hA.get 3 _ rfl)).cons (hA.get 0 _ rfl))⟩
            · replace H963 := ite_f hb965 H963
              refine wp_skip ?_
              exact ⟨c937, Option.some.inj H963, hM, ((((((hA.nil.cons (hA.get 7 _ rfl)).cons (hA.get 6 _ rfl)).cons (hA.get 5 _ rfl)).cons (hA.get 4 _ rfl)).cons (hA.get 3 _ rfl)).cons (hA.get 0 _ rfl))⟩
          clear hM hA
          rintro a w968 ⟨c959, rfl, hM, hA⟩
          try dsimp only at H947
          refine BN ?_
          refine TN ?_
          refine wp_region_lit ?_
          refine L1 (stv hA (by decide) (run_move (hA.ev rfl)) ?_)
          clear hA; intro a hA
          refine L1 (stv hA (by decide) (run_bin (hA.ev rfl) (hA.ev rfl) (bin_add _ _ _ _)) ?_)
          clear hA; intro a hA
          refine L1 (stv hA (by decide) (run_assign (hA.ev rfl)) ?_)
          clear hA; intro a hA
          refine LQ ?_
          exact ⟨_, Nat.lt_succ_self m949, c959, IntKind.i64.wrap (t941 + 1), H947, hM, ((((((hA.nil.cons (hA.get 7 _ rfl)).cons (hA.get 6 _ rfl)).cons (hA.get 5 _ rfl)).cons (hA.get 4 _ rfl)).cons (hA.get 3 _ rfl)).cons (hA.get 0 _ rfl))⟩
        · replace H947 := ite_f hb951 H947
          refine wp_exit ?_
          refine TX ?_
          refine TX ?_
          refine BX ?_
          exact ⟨c937, Option.some.inj H947, hM, ((((hA.nil.cons (hA.get 5 _ rfl)).cons (hA.get 4 _ rfl)).cons (hA.get 3 _ rfl)).cons (hA.get 0 _ rfl))⟩
      clear hM hA
      rintro a w969 ⟨c945, rfl, hM, hA⟩
      try dsimp only at H853
      refine BN ?_
      refine TN ?_
      refine wp_region_lit ?_
      refine L1 (stv hA (by decide) (run_move (hA.ev rfl)) ?_)
      clear hA; intro a hA
      refine L1 (stv hA (by decide) (run_bin (hA.ev rfl) (hA.ev rfl) (bin_add _ _ _ _)) ?_)
      clear hA; intro a hA
      refine L1 (stv hA (by decide) (run_assign (hA.ev rfl)) ?_)
      clear hA; intro a hA
      refine LQ ?_
      exact ⟨_, Nat.lt_succ_self m855, c945, IntKind.i64.wrap (i850 + 1), H853, hM, ((((hA.nil.cons (hA.get 5 _ rfl)).cons (hA.get 4 _ rfl)).cons (hA.get 3 _ rfl)).cons (hA.get 0 _ rfl))⟩
    · replace H853 := ite_f hb857 H853
      refine wp_exit ?_
      refine TX ?_
      refine TX ?_
      refine BX ?_
      exact ⟨c848, Option.some.inj H853, (hM.sel [] rfl (by decide)), (hA.nil.cons (hA.get 4 _ rfl))⟩
  clear hM hA
  rintro a w970 ⟨c852, rfl, hM, hA⟩
  try dsimp only at H
  refine TN ?_
  refine wp_seq ?_
  refine wp_region_lit ?_
  refine L1 (stv hA (by decide) (run_move (hA.ev rfl)) ?_)
  clear hA; intro a hA
  refine L1 (stv hA (by decide) (run_assign (hA.ev rfl)) ?_)
  clear hA; intro a hA
  refine LQ ?_
  refine TN ?_
  refine wp_ret ?_
  obtain rfl := Option.some.inj H
  exact ret_post1 (fn := Try.f26) hA rfl rfl ⟨_, rfl, rfl, hM⟩

def ref27_Checksum.l0 (prefix_0 : ByteArray) : Nat → (List Int) → Int → Option ((List Int))
  | 0, _, _ => none
  | k + 1, xs424, i426 => (if (decide (i426 < ((prefix_0.size : Nat) : Int))) = true then (if 0 ≤ i426 ∧ i426 < ((prefix_0.size : Nat) : Int) then (if (xs424.length + 1) * 1 ≤ 140737488355328 then (ref27_Checksum.l0 prefix_0 k (xs424 ++ [ishr .u8 (sg prefix_0 i426) 5]) (IntKind.i64.wrap (i426 + 1))) else none) else none) else (some xs424))
def ref27_Checksum.l1 (prefix_0 : ByteArray) : Nat → (List Int) → Int → Option ((List Int))
  | 0, _, _ => none
  | k + 1, xs521, i523 => (if (decide (i523 < ((prefix_0.size : Nat) : Int))) = true then (if 0 ≤ i523 ∧ i523 < ((prefix_0.size : Nat) : Int) then (if (xs521.length + 1) * 1 ≤ 140737488355328 then (ref27_Checksum.l1 prefix_0 k (xs521 ++ [iand .u8 (sg prefix_0 i523) 31]) (IntKind.i64.wrap (i523 + 1))) else none) else none) else (some xs521))
def ref27_Checksum.l2 (d_1 : (List Int)) : Nat → (List Int) → Int → Option ((List Int))
  | 0, _, _ => none
  | k + 1, xs613, i615 => (if (decide (i615 < ((d_1.length : Nat) : Int))) = true then (if 0 ≤ i615 ∧ i615 < ((d_1.length : Nat) : Int) then (if (xs613.length + 1) * 1 ≤ 140737488355328 then (ref27_Checksum.l2 d_1 k (xs613 ++ [iand .u8 (d_1.getD i615.toNat (0 : Int)) 31]) (IntKind.i64.wrap (i615 + 1))) else none) else none) else (some xs613))
def ref27_Checksum.l3 (r647 : Int) : Nat → (Vector Int 6) → Int → Option ((Vector Int 6))
  | 0, _, _ => none
  | k + 1, x690, i692 => (if (decide (i692 < 6)) = true then (if 0 ≤ (IntKind.u64.wrap (IntKind.i64.wrap (25 - (IntKind.i64.wrap (5 * i692))))) then (if 0 ≤ i692 ∧ i692 < ((6 : Nat) : Int) then (Option.bind (some (vs x690 i692 (IntKind.u8.wrap (iand .u32 (ishr .u32 (ixor .u32 r647 1) (IntKind.u64.wrap (IntKind.i64.wrap (25 - (IntKind.i64.wrap (5 * i692)))))) 31)))) fun x705 => (ref27_Checksum.l3 r647 k x705 (IntKind.i64.wrap (i692 + 1)))) else none) else none) else (some x690))
def ref27_Checksum.f (k : Nat) (prefix_0 : ByteArray) (d_1 : (List Int)) : Option (Vector Int 6) := (Option.bind (α := (List Int)) (ref27_Checksum.l0 prefix_0 k ([] : List Int) 0) (fun xs435 => (if (xs435.length + 1) * 1 ≤ 140737488355328 then (Option.bind (α := (List Int)) (ref27_Checksum.l1 prefix_0 k (xs435 ++ [(0 : Int)]) 0) (fun xs530 => (Option.bind (α := (List Int)) (ref27_Checksum.l2 d_1 k xs530 0) (fun xs621 => (if (xs621.length + 6) * 1 ≤ 140737488355328 then ((ref27_remainder.f k (xs621 ++ [(0 : Int), (0 : Int), (0 : Int), (0 : Int), (0 : Int), (0 : Int)])).bind fun r647 => (Option.bind (α := (Vector Int 6)) (ref27_Checksum.l3 r647 k (Vector.replicate 6 0 : Vector Int 6) 0) (fun x695 => (some x695)))) else none))))) else none)))
set_option maxRecDepth 100000 in
theorem ref27_Checksum.calls (k : Nat) (prefix_0 : ByteArray) (d_1 : (List Int)) (F : List (Option Nat)) (v1 : Value) (r : (Vector Int 6)) (w0 : World) (h1 : RoV F (Pl.int .u8) w0 v1 d_1) (hM : Mem F w0 w0 []) (H : ref27_Checksum.f k prefix_0 d_1 = some r) :
    Calls Try.prog 20 #[(.string prefix_0), v1] w0 fun e w' => ∃ v, e = .returned v ∧ v = (.agg (pA6u8.enc r).toArray) ∧ Mem F w0 w' [] := by
  unfold ref27_Checksum.f at H
  obtain ⟨A1, c1, rfl, hr1, hc1⟩ := h1
  refine enterL (n := 75) [(.string prefix_0), (.slice A1 d_1.length c1)] Try.func20 rfl rfl rfl ?_
  intro a hA
  refine wp_seq ?_
  refine wp_region_lit ?_
  refine L1 (e_alloc (cs := (pA6u8.enc (Vector.replicate 6 0 : Vector Int 6))) hM zero34 rfl hA (by decide) ?_)
  clear hM hA; intro w356 g355 hM hE  a hA
  refine LQ ?_
  refine TN ?_
  refine wp_seq ?_
  refine wp_region_lit ?_
  refine L1 (stv hA (by decide) (run_assign (hA.ev rfl)) ?_)
  clear hA; intro a hA
  refine LQ ?_
  refine TN ?_
  refine wp_seq ?_
  refine wp_seq ?_
  refine wp_region_lit ?_
  refine L1 (stv hA (by decide) (run_assign (hA.ev rfl)) ?_)
  clear hA; intro a hA
  refine LQ ?_
  refine TN ?_
  obtain ⟨o437, H436, H⟩ := Option.bind_eq_some_iff.1 H
  refine cutC (fun a w => ∃ (xs435 : (List Int)) (v432 : Value), xs435 = o437 ∧ Mem F w0 w [.box g355 34 (pA6u8.enc (Vector.replicate 6 0 : Vector Int 6)), .row 5 (Pl.int .u8).sz v432 ((Pl.int .u8).flat xs435)] ∧ Has 75 [(0, (.string prefix_0)), (1, (.slice A1 d_1.length c1)), (4, (.pointer (some (⟨g355, 0, none⟩)))), (5, v432)] a) ?_ ?_
  · refine wp_block ?_
    have hM := hM.addnil 5 ((Pl.int .u8)).sz
    refine wp_loop_ghost (fun m a w => ∃ (xs424 : (List Int)) (i426 : Int) (v421 : Value), ref27_Checksum.l0 prefix_0 m xs424 i426 = some o437 ∧ Mem F w0 w [.box g355 34 (pA6u8.enc (Vector.replicate 6 0 : Vector Int 6)), .row 5 (Pl.int .u8).sz v421 ((Pl.int .u8).flat xs424)] ∧ Has 75 [(0, (.string prefix_0)), (1, (.slice A1 d_1.length c1)), (4, (.pointer (some (⟨g355, 0, none⟩)))), (5, v421), (6, (.int .i64 i426))] a) k ⟨([] : List Int), 0, (.slice none 0 0), H436, (hM.sel [1, 0] rfl (by decide)), (((((hA.nil.cons (hA.get 6 _ rfl)).cons (hA.get 5 _ rfl)).cons (hA.get 4 _ rfl)).cons (hA.get 1 _ rfl)).cons (hA.get 0 _ rfl))⟩ ?_
    clear hM hA; rintro m439 a w440 ⟨xs424, i426, v421, H436, hM, hA⟩
    cases m439 with
    | zero => exact absurd H436 (by simp [ref27_Checksum.l0])
    | succ m439 =>
    rw [ref27_Checksum.l0] at H436
    obtain ⟨A422, c423, rfl⟩ := RowOk.form (hM.row (p := (Pl.int .u8)) (.s .z))
    refine wp_seq ?_
    refine wp_seq ?_
    refine wp_region_lit ?_
    refine L1 (stv hA (by decide) (run_move (hA.ev rfl)) ?_)
    clear hA; intro a hA
    refine L1 (stv hA (by decide) (run_move (hA.ev rfl)) ?_)
    clear hA; intro a hA
    refine L1 (stv hA (by decide) (run_len_str Try.underlying9 (hA.ev rfl)) ?_)
    clear hA; intro a hA
    refine L1 (stv hA (by decide) (run_bin (hA.ev rfl) (hA.ev rfl) (bin_lss _ _ _ _)) ?_)
    clear hA; intro a hA
    refine LQ ?_
    refine TN ?_
    refine tcond (b := (decide (i426 < ((prefix_0.size : Nat) : Int)))) hA rfl (fun hb441 => ?_) (fun hb441 => ?_)
    · replace H436 := ite_t hb441 H436
      refine wp_skip ?_
      refine TN ?_
      refine wp_seq ?_
      refine wp_block ?_
      refine wp_region_lit ?_
      refine L1 (stv hA (by decide) (run_move (hA.ev rfl)) ?_)
      clear hA; intro a hA
      refine L1 (stv hA (by decide) (run_move (hA.ev rfl)) ?_)
      clear hA; intro a hA
      refine L1 (stv hA (by decide) (run_move (hA.ev rfl)) ?_)
      clear hA; intro a hA
      obtain ⟨⟨hi442, hj443⟩, H436⟩ := ite_some H436
      refine L1 (stv hA (by decide) (run_index_str Try.underlying9 (hA.ev rfl) (hA.ev rfl) hi442 hj443) ?_)
      clear hA; intro a hA
      refine L1 (stv hA (by decide) (run_shr (hA.ev rfl) (hA.ev rfl) (by decide)) ?_)
      clear hA; intro a hA
      refine L1 (e_litN [ishr .u8 (sg prefix_0 i426) 5] [(.int .u8 (ishr .u8 (sg prefix_0 i426) 5))] elt22 hM rfl (by decide) hA rfl rfl (List.cons_ne_nil _ _) (by decide) ?_)
      clear hM hA; intro w445 g444 hM hE  a hA
      obtain ⟨hl449, H436⟩ := ite_some H436
      refine L1 (e_append elt22 hM (fun _ => (.s (.s .z))) (Src.row Try.underlying22 (RowOk.row (hM.row (p := (Pl.int .u8)) .z)) (RowOk.len (hM.row (p := (Pl.int .u8)) .z))) hl449 hA rfl rfl (by decide) ?_)
      clear hM hA; intro w450 A447 c448 hM hE  a hA
      refine L1 (stv hA (by decide) (run_assign (hA.ev rfl)) ?_)
      clear hA; intro a hA
      refine LQ ?_
      refine BN ?_
      refine TN ?_
      refine wp_region_lit ?_
      refine L1 (stv hA (by decide) (run_move (hA.ev rfl)) ?_)
      clear hA; intro a hA
      refine L1 (stv hA (by decide) (run_bin (hA.ev rfl) (hA.ev rfl) (bin_add _ _ _ _)) ?_)
      clear hA; intro a hA
      refine L1 (stv hA (by decide) (run_assign (hA.ev rfl)) ?_)
      clear hA; intro a hA
      refine LQ ?_
      exact ⟨_, Nat.lt_succ_self m439, (xs424 ++ [ishr .u8 (sg prefix_0 i426) 5]), IntKind.i64.wrap (i426 + 1), (.slice A447 (xs424.length + 1) c448), H436, (hM.sel [1, 2] rfl (by decide)), (((((hA.nil.cons (hA.get 6 _ rfl)).cons (hA.get 5 _ rfl)).cons (hA.get 4 _ rfl)).cons (hA.get 1 _ rfl)).cons (hA.get 0 _ rfl))⟩
    · replace H436 := ite_f hb441 H436
      refine wp_exit ?_
      refine TX ?_
      refine TX ?_
      refine BX ?_
      exact ⟨xs424, (.slice A422 xs424.length c423), Option.some.inj H436, hM, ((((hA.nil.cons (hA.get 5 _ rfl)).cons (hA.get 4 _ rfl)).cons (hA.get 1 _ rfl)).cons (hA.get 0 _ rfl))⟩
  clear hM hA
  rintro a w451 ⟨xs435, v432, rfl, hM, hA⟩
  try dsimp only at H
  obtain ⟨A433, c434, rfl⟩ := RowOk.form (hM.row (p := (Pl.int .u8)) (.s .z))
  refine TN ?_
  refine wp_seq ?_
  refine wp_region_lit ?_
  refine L1 (stv hA (by decide) (run_move (hA.ev rfl)) ?_)
  clear hA; intro a hA
  refine L1 (e_litN [(0 : Int)] [(.int .u8 0)] elt22 hM rfl (by decide) hA rfl rfl (List.cons_ne_nil _ _) (by decide) ?_)
  clear hM hA; intro w453 g452 hM hE  a hA
  obtain ⟨hl457, H⟩ := ite_some H
  refine L1 (e_append elt22 hM (fun _ => (.s (.s .z))) (Src.row Try.underlying22 (RowOk.row (hM.row (p := (Pl.int .u8)) .z)) (RowOk.len (hM.row (p := (Pl.int .u8)) .z))) hl457 hA rfl rfl (by decide) ?_)
  clear hM hA; intro w458 A455 c456 hM hE  a hA
  refine L1 (stv hA (by decide) (run_assign (hA.ev rfl)) ?_)
  clear hA; intro a hA
  refine LQ ?_
  refine TN ?_
  refine wp_seq ?_
  refine wp_seq ?_
  refine wp_region_lit ?_
  refine L1 (stv hA (by decide) (run_assign (hA.ev rfl)) ?_)
  clear hA; intro a hA
  refine LQ ?_
  refine TN ?_
  obtain ⟨o532, H531, H⟩ := Option.bind_eq_some_iff.1 H
  refine cutC (fun a w => ∃ (xs530 : (List Int)) (v527 : Value), xs530 = o532 ∧ Mem F w0 w [.box g355 34 (pA6u8.enc (Vector.replicate 6 0 : Vector Int 6)), .row 5 (Pl.int .u8).sz v527 ((Pl.int .u8).flat xs530)] ∧ Has 75 [(1, (.slice A1 d_1.length c1)), (4, (.pointer (some (⟨g355, 0, none⟩)))), (5, v527)] a) ?_ ?_
  · refine wp_block ?_
    refine wp_loop_ghost (fun m a w => ∃ (xs521 : (List Int)) (i523 : Int) (v518 : Value), ref27_Checksum.l1 prefix_0 m xs521 i523 = some o532 ∧ Mem F w0 w [.box g355 34 (pA6u8.enc (Vector.replicate 6 0 : Vector Int 6)), .row 5 (Pl.int .u8).sz v518 ((Pl.int .u8).flat xs521)] ∧ Has 75 [(0, (.string prefix_0)), (1, (.slice A1 d_1.length c1)), (4, (.pointer (some (⟨g355, 0, none⟩)))), (5, v518), (7, (.int .i64 i523))] a) k ⟨(xs435 ++ [(0 : Int)]), 0, (.slice A455 (xs435.length + 1) c456), H531, (hM.sel [1, 2] rfl (by decide)), (((((hA.nil.cons (hA.get 7 _ rfl)).cons (hA.get 5 _ rfl)).cons (hA.get 4 _ rfl)).cons (hA.get 1 _ rfl)).cons (hA.get 0 _ rfl))⟩ ?_
    clear hM hA; rintro m533 a w534 ⟨xs521, i523, v518, H531, hM, hA⟩
    cases m533 with
    | zero => exact absurd H531 (by simp [ref27_Checksum.l1])
    | succ m533 =>
    rw [ref27_Checksum.l1] at H531
    obtain ⟨A519, c520, rfl⟩ := RowOk.form (hM.row (p := (Pl.int .u8)) (.s .z))
    refine wp_seq ?_
    refine wp_seq ?_
    refine wp_region_lit ?_
    refine L1 (stv hA (by decide) (run_move (hA.ev rfl)) ?_)
    clear hA; intro a hA
    refine L1 (stv hA (by decide) (run_move (hA.ev rfl)) ?_)
    clear hA; intro a hA
    refine L1 (stv hA (by decide) (run_len_str Try.underlying9 (hA.ev rfl)) ?_)
    clear hA; intro a hA
    refine L1 (stv hA (by decide) (run_bin (hA.ev rfl) (hA.ev rfl) (bin_lss _ _ _ _)) ?_)
    clear hA; intro a hA
    refine LQ ?_
    refine TN ?_
    refine tcond (b := (decide (i523 < ((prefix_0.size : Nat) : Int)))) hA rfl (fun hb535 => ?_) (fun hb535 => ?_)
    · replace H531 := ite_t hb535 H531
      refine wp_skip ?_
      refine TN ?_
      refine wp_seq ?_
      refine wp_block ?_
      refine wp_region_lit ?_
      refine L1 (stv hA (by decide) (run_move (hA.ev rfl)) ?_)
      clear hA; intro a hA
      refine L1 (stv hA (by decide) (run_move (hA.ev rfl)) ?_)
      clear hA; intro a hA
      refine L1 (stv hA (by decide) (run_move (hA.ev rfl)) ?_)
      clear hA; intro a hA
      obtain ⟨⟨hi536, hj537⟩, H531⟩ := ite_some H531
      refine L1 (stv hA (by decide) (run_index_str Try.underlying9 (hA.ev rfl) (hA.ev rfl) hi536 hj537) ?_)
      clear hA; intro a hA
      refine L1 (stv hA (by decide) (run_bin (hA.ev rfl) (hA.ev rfl) (bin_and _ _ _ _)) ?_)
      clear hA; intro a hA
      refine L1 (e_litN [iand .u8 (sg prefix_0 i523) 31] [(.int .u8 (iand .u8 (sg prefix_0 i523) 31))] elt22 hM rfl (by decide) hA rfl rfl (List.cons_ne_nil _ _) (by decide) ?_)
      clear hM hA; intro w539 g538 hM hE  a hA
      obtain ⟨hl543, H531⟩ := ite_some H531
      refine L1 (e_append elt22 hM (fun _ => (.s (.s .z))) (Src.row Try.underlying22 (RowOk.row (hM.row (p := (Pl.int .u8)) .z)) (RowOk.len (hM.row (p := (Pl.int .u8)) .z))) hl543 hA rfl rfl (by decide) ?_)
      clear hM hA; intro w544 A541 c542 hM hE  a hA
      refine L1 (stv hA (by decide) (run_assign (hA.ev rfl)) ?_)
      clear hA; intro a hA
      refine LQ ?_
      refine BN ?_
      refine TN ?_
      refine wp_region_lit ?_
      refine L1 (stv hA (by decide) (run_move (hA.ev rfl)) ?_)
      clear hA; intro a hA
      refine L1 (stv hA (by decide) (run_bin (hA.ev rfl) (hA.ev rfl) (bin_add _ _ _ _)) ?_)
      clear hA; intro a hA
      refine L1 (stv hA (by decide) (run_assign (hA.ev rfl)) ?_)
      clear hA; intro a hA
      refine LQ ?_
      exact ⟨_, Nat.lt_succ_self m533, (xs521 ++ [iand .u8 (sg prefix_0 i523) 31]), IntKind.i64.wrap (i523 + 1), (.slice A541 (xs521.length + 1) c542), H531, (hM.sel [1, 2] rfl (by decide)), (((((hA.nil.cons (hA.get 7 _ rfl)).cons (hA.get 5 _ rfl)).cons (hA.get 4 _ rfl)).cons (hA.get 1 _ rfl)).cons (hA.get 0 _ rfl))⟩
    · replace H531 := ite_f hb535 H531
      refine wp_exit ?_
      refine TX ?_
      refine TX ?_
      refine BX ?_
      exact ⟨xs521, (.slice A519 xs521.length c520), Option.some.inj H531, hM, (((hA.nil.cons (hA.get 5 _ rfl)).cons (hA.get 4 _ rfl)).cons (hA.get 1 _ rfl))⟩
  clear hM hA
  rintro a w545 ⟨xs530, v527, rfl, hM, hA⟩
  try dsimp only at H
  obtain ⟨A528, c529, rfl⟩ := RowOk.form (hM.row (p := (Pl.int .u8)) (.s .z))
  refine TN ?_
  refine wp_seq ?_
  refine wp_seq ?_
  refine wp_region_lit ?_
  refine L1 (stv hA (by decide) (run_assign (hA.ev rfl)) ?_)
  clear hA; intro a hA
  refine LQ ?_
  refine TN ?_
  obtain ⟨o623, H622, H⟩ := Option.bind_eq_some_iff.1 H
  refine cutC (fun a w => ∃ (xs621 : (List Int)) (v618 : Value), xs621 = o623 ∧ Mem F w0 w [.box g355 34 (pA6u8.enc (Vector.replicate 6 0 : Vector Int 6)), .row 5 (Pl.int .u8).sz v618 ((Pl.int .u8).flat xs621)] ∧ Has 75 [(4, (.pointer (some (⟨g355, 0, none⟩)))), (5, v618)] a) ?_ ?_
  · refine wp_block ?_
    refine wp_loop_ghost (fun m a w => ∃ (xs613 : (List Int)) (i615 : Int) (v610 : Value), ref27_Checksum.l2 d_1 m xs613 i615 = some o623 ∧ Mem F w0 w [.box g355 34 (pA6u8.enc (Vector.replicate 6 0 : Vector Int 6)), .row 5 (Pl.int .u8).sz v610 ((Pl.int .u8).flat xs613)] ∧ Has 75 [(1, (.slice A1 d_1.length c1)), (4, (.pointer (some (⟨g355, 0, none⟩)))), (5, v610), (8, (.int .i64 i615))] a) k ⟨xs530, 0, (.slice A528 xs530.length c529), H622, hM, ((((hA.nil.cons (hA.get 8 _ rfl)).cons (hA.get 5 _ rfl)).cons (hA.get 4 _ rfl)).cons (hA.get 1 _ rfl))⟩ ?_
    clear hM hA; rintro m624 a w625 ⟨xs613, i615, v610, H622, hM, hA⟩
    cases m624 with
    | zero => exact absurd H622 (by simp [ref27_Checksum.l2])
    | succ m624 =>
    rw [ref27_Checksum.l2] at H622
    obtain ⟨A611, c612, rfl⟩ := RowOk.form (hM.row (p := (Pl.int .u8)) (.s .z))
    refine wp_seq ?_
    refine wp_seq ?_
    refine wp_region_lit ?_
    refine L1 (stv hA (by decide) (run_move (hA.ev rfl)) ?_)
    clear hA; intro a hA
    refine L1 (stv hA (by decide) (run_move (hA.ev rfl)) ?_)
    clear hA; intro a hA
    refine L1 (stv hA (by decide) (run_len_slice Try.underlying22 (hA.ev rfl)) ?_)
    clear hA; intro a hA
    refine L1 (stv hA (by decide) (run_bin (hA.ev rfl) (hA.ev rfl) (bin_lss _ _ _ _)) ?_)
    clear hA; intro a hA
    refine LQ ?_
    refine TN ?_
    refine tcond (b := (decide (i615 < ((d_1.length : Nat) : Int)))) hA rfl (fun hb626 => ?_) (fun hb626 => ?_)
    · replace H622 := ite_t hb626 H622
      refine wp_skip ?_
      refine TN ?_
      refine wp_seq ?_
      refine wp_block ?_
      refine wp_region_lit ?_
      refine L1 (stv hA (by decide) (run_move (hA.ev rfl)) ?_)
      clear hA; intro a hA
      refine L1 (stv hA (by decide) (run_move (hA.ev rfl)) ?_)
      clear hA; intro a hA
      refine L1 (stv hA (by decide) (run_move (hA.ev rfl)) ?_)
      clear hA; intro a hA
      obtain ⟨⟨hi627, hj628⟩, H622⟩ := ite_some H622
      obtain ⟨ad629, hq630, hat631⟩ := Row.elem' (p := (Pl.int .u8)) (hM.ro hr1) (Eq.refl d_1.length) (0 : Int) i615 hi627 hj628
      refine L1 (stv hA (by decide) (run_idx Try.underlying22 Try.sizeOf5 (hA.ev rfl) hq630 (hA.ev rfl) hi627 hj628) ?_)
      clear hA; intro a hA
      refine L1 (stv hA (by decide) (run_ld (hA.ev rfl) (run_loadS Try.isAgg5 hat631)) ?_)
      clear hA; intro a hA
      refine L1 (stv hA (by decide) (run_bin (hA.ev rfl) (hA.ev rfl) (bin_and _ _ _ _)) ?_)
      clear hA; intro a hA
      refine L1 (e_litN [iand .u8 (d_1.getD i615.toNat (0 : Int)) 31] [(.int .u8 (iand .u8 (d_1.getD i615.toNat (0 : Int)) 31))] elt22 hM rfl (by decide) hA rfl rfl (List.cons_ne_nil _ _) (by decide) ?_)
      clear hM hA; intro w633 g632 hM hE  a hA
      obtain ⟨hl637, H622⟩ := ite_some H622
      refine L1 (e_append elt22 hM (fun _ => (.s (.s .z))) (Src.row Try.underlying22 (RowOk.row (hM.row (p := (Pl.int .u8)) .z)) (RowOk.len (hM.row (p := (Pl.int .u8)) .z))) hl637 hA rfl rfl (by decide) ?_)
      clear hM hA; intro w638 A635 c636 hM hE  a hA
      refine L1 (stv hA (by decide) (run_assign (hA.ev rfl)) ?_)
      clear hA; intro a hA
      refine LQ ?_
      refine BN ?_
      refine TN ?_
      refine wp_region_lit ?_
      refine L1 (stv hA (by decide) (run_move (hA.ev rfl)) ?_)
      clear hA; intro a hA
      refine L1 (stv hA (by decide) (run_bin (hA.ev rfl) (hA.ev rfl) (bin_add _ _ _ _)) ?_)
      clear hA; intro a hA
      refine L1 (stv hA (by decide) (run_assign (hA.ev rfl)) ?_)
      clear hA; intro a hA
      refine LQ ?_
      exact ⟨_, Nat.lt_succ_self m624, (xs613 ++ [iand .u8 (d_1.getD i615.toNat (0 : Int)) 31]), IntKind.i64.wrap (i615 + 1), (.slice A635 (xs613.length + 1) c636), H622, (hM.sel [1, 2] rfl (by decide)), ((((hA.nil.cons (hA.get 8 _ rfl)).cons (hA.get 5 _ rfl)).cons (hA.get 4 _ rfl)).cons (hA.get 1 _ rfl))⟩
    · replace H622 := ite_f hb626 H622
      refine wp_exit ?_
      refine TX ?_
      refine TX ?_
      refine BX ?_
      exact ⟨xs613, (.slice A611 xs613.length c612), Option.some.inj H622, hM, ((hA.nil.cons (hA.get 5 _ rfl)).cons (hA.get 4 _ rfl))⟩
  clear hM hA
  rintro a w639 ⟨xs621, v618, rfl, hM, hA⟩
  try dsimp only at H
  obtain ⟨A619, c620, rfl⟩ := RowOk.form (hM.row (p := (Pl.int .u8)) (.s .z))
  refine TN ?_
  refine wp_seq ?_
  refine wp_region_lit ?_
  refine L1 (stv hA (by decide) (run_move (hA.ev rfl)) ?_)
  clear hA; intro a hA
  refine L1 (e_litN [(0 : Int), (0 : Int), (0 : Int), (0 : Int), (0 : Int), (0 : Int)] [(.int .u8 0), (.int .u8 0), (.int .u8 0), (.int .u8 0), (.int .u8 0), (.int .u8 0)] elt22 hM rfl (by decide) hA rfl rfl (List.cons_ne_nil _ _) (by decide) ?_)
  clear hM hA; intro w641 g640 hM hE  a hA
  obtain ⟨hl645, H⟩ := ite_some H
  refine L1 (e_append elt22 hM (fun _ => (.s (.s .z))) (Src.row Try.underlying22 (RowOk.row (hM.row (p := (Pl.int .u8)) .z)) (RowOk.len (hM.row (p := (Pl.int .u8)) .z))) hl645 hA rfl rfl (by decide) ?_)
  clear hM hA; intro w646 A643 c644 hM hE  a hA
  obtain ⟨r647, H648, H⟩ := Option.bind_eq_some_iff.1 H
  refine L1 (st_call Try.call26 hA [(.slice A643 (xs621.length + 6) c644)] rfl (by decide) (ref27_remainder.calls _ _ _ _ _ _ ((RoV.mk (hM.rowC (p := (Pl.int .u8)) (Ms := []) (.s (.s .z))) (RowOk.len (hM.row (p := (Pl.int .u8)) (.s (.s .z)))) (RowOk.cap (hM.row (p := (Pl.int .u8)) (.s (.s .z)))))) (hM.front (Ms := [])) H648) ?_)
  clear hA; rintro _ w649 ⟨rfl, hMc⟩ a hA
  have hE := hMc.below; have hM := hM.call (Ms := []) hMc
  clear hMc; simp only [List.cons_append, List.nil_append] at hM
  refine L1 (stv hA (by decide) (run_bin (hA.ev rfl) (hA.ev rfl) (bin_xor _ _ _ _)) ?_)
  clear hA; intro a hA
  refine L1 (stv hA (by decide) (run_assign (hA.ev rfl)) ?_)
  clear hA; intro a hA
  refine LQ ?_
  refine TN ?_
  refine wp_seq ?_
  refine wp_region_lit ?_
  refine L1 (e_alloc (cs := (pA6u8.enc (Vector.replicate 6 0 : Vector Int 6))) hM zero34 rfl hA (by decide) ?_)
  clear hM hA; intro w651 g650 hM hE  a hA
  refine LQ ?_
  refine TN ?_
  refine wp_seq ?_
  refine wp_seq ?_
  refine wp_region_lit ?_
  refine L1 (stv hA (by decide) (run_assign (hA.ev rfl)) ?_)
  clear hA; intro a hA
  refine LQ ?_
  refine TN ?_
  obtain ⟨o697, H696, H⟩ := Option.bind_eq_some_iff.1 H
  refine cutC (fun a w => ∃ (x695 : (Vector Int 6)), x695 = o697 ∧ Mem F w0 w [.box g355 34 (pA6u8.enc (Vector.replicate 6 0 : Vector Int 6)), .box g650 34 (pA6u8.enc x695)] ∧ Has 75 [(4, (.pointer (some (⟨g355, 0, none⟩)))), (10, (.pointer (some (⟨g650, 0, none⟩))))] a) ?_ ?_
  · refine wp_block ?_
    refine wp_loop_ghost (fun m a w => ∃ (x690 : (Vector Int 6)) (i692 : Int), ref27_Checksum.l3 r647 m x690 i692 = some o697 ∧ Mem F w0 w [.box g355 34 (pA6u8.enc (Vector.replicate 6 0 : Vector Int 6)), .box g650 34 (pA6u8.enc x690)] ∧ Has 75 [(4, (.pointer (some (⟨g355, 0, none⟩)))), (9, (.int .u32 (ixor .u32 r647 1))), (10, (.pointer (some (⟨g650, 0, none⟩)))), (11, (.int .i64 i692))] a) k ⟨(Vector.replicate 6 0 : Vector Int 6), 0, H696, (hM.sel [2, 0] rfl (by decide)), ((((hA.nil.cons (hA.get 11 _ rfl)).cons (hA.get 10 _ rfl)).cons (hA.get 9 _ rfl)).cons (hA.get 4 _ rfl))⟩ ?_
    clear hM hA; rintro m698 a w699 ⟨x690, i692, H696, hM, hA⟩
    cases m698 with
    | zero => exact absurd H696 (by simp [ref27_Checksum.l3])
    | succ m698 =>
    rw [ref27_Checksum.l3] at H696
    refine wp_seq ?_
    refine wp_seq ?_
    refine wp_region_lit ?_
    refine L1 (stv hA (by decide) (run_move (hA.ev rfl)) ?_)
    clear hA; intro a hA
    refine L1 (stv hA (by decide) (run_bin (hA.ev rfl) (hA.ev rfl) (bin_lss _ _ _ _)) ?_)
    clear hA; intro a hA
    refine LQ ?_
    refine TN ?_
    refine tcond (b := (decide (i692 < 6))) hA rfl (fun hb700 => ?_) (fun hb700 => ?_)
    · replace H696 := ite_t hb700 H696
      refine wp_skip ?_
      refine TN ?_
      refine wp_seq ?_
      refine wp_block ?_
      refine wp_region_lit ?_
      refine L1 (stv hA (by decide) (run_move (hA.ev rfl)) ?_)
      clear hA; intro a hA
      refine L1 (stv hA (by decide) (run_move (hA.ev rfl)) ?_)
      clear hA; intro a hA
      refine L1 (stv hA (by decide) (run_move (hA.ev rfl)) ?_)
      clear hA; intro a hA
      refine L1 (stv hA (by decide) (run_bin (hA.ev rfl) (hA.ev rfl) (bin_mul _ _ _ _)) ?_)
      clear hA; intro a hA
      refine L1 (stv hA (by decide) (run_bin (hA.ev rfl) (hA.ev rfl) (bin_sub _ _ _ _)) ?_)
      clear hA; intro a hA
      refine L1 (stv hA (by decide) (run_conv Try.underlying3 Try.underlying43 (hA.ev rfl)) ?_)
      clear hA; intro a hA
      obtain ⟨hs701, H696⟩ := ite_some H696
      refine L1 (stv hA (by decide) (run_shr (hA.ev rfl) (hA.ev rfl) hs701) ?_)
      clear hA; intro a hA
      refine L1 (stv hA (by decide) (run_bin (hA.ev rfl) (hA.ev rfl) (bin_and _ _ _ _)) ?_)
      clear hA; intro a hA
      refine L1 (stv hA (by decide) (run_conv Try.underlying46 Try.underlying5 (hA.ev rfl)) ?_)
      clear hA; intro a hA
      obtain ⟨⟨hi702, hj703⟩, H696⟩ := ite_some H696
      refine L1 (stv hA (by decide) (run_idxarr Try.underlying34 Try.sizeOf5 (hA.ev rfl) (hA.ev rfl) hi702 hj703) ?_)
      clear hA; intro a hA
      refine L1 (e_store (g := g650) (off := (i692.toNat * 1)) (cur := (pA6u8.enc x690)) (cs' := (pA6u8.enc (vs x690 i692 (IntKind.u8.wrap (iand .u32 (ishr .u32 (ixor .u32 r647 1) (IntKind.u64.wrap (IntKind.i64.wrap (25 - (IntKind.i64.wrap (5 * i692)))))) 31))))) hM (.s .z) Try.sizeOf5 hA rfl (by simp [add_mk]) rfl (by first | rfl | simp [Value.cells, Pl.len]) (one_val rfl) (by have hh1 := hj703; have hh0 := hi702; rw [Pl.len]; show _ ≤ 6; omega) (vec_spl _ _ hi702 hj703) ?_)
      clear hM hA; intro w704  hM hE  a hA
      obtain ⟨x705, hx706, H696⟩ := Option.bind_eq_some_iff.1 H696
      rw [Option.some.inj hx706] at hM
      refine LQ ?_
      refine BN ?_
      refine TN ?_
      refine wp_region_lit ?_
      refine L1 (stv hA (by decide) (run_move (hA.ev rfl)) ?_)
      clear hA; intro a hA
      refine L1 (stv hA (by decide) (run_bin (hA.ev rfl) (hA.ev rfl) (bin_add _ _ _ _)) ?_)
      clear hA; intro a hA
      refine L1 (stv hA (by decide) (run_assign (hA.ev rfl)) ?_)
      clear hA; intro a hA
      refine LQ ?_
      exact ⟨_, Nat.lt_succ_self m698, x705, IntKind.i64.wrap (i692 + 1), H696, hM, ((((hA.nil.cons (hA.get 11 _ rfl)).cons (hA.get 10 _ rfl)).cons (hA.get 9 _ rfl)).cons (hA.get 4 _ rfl))⟩
    · replace H696 := ite_f hb700 H696
      refine wp_exit ?_
      refine TX ?_
      refine TX ?_
      refine BX ?_
      exact ⟨x690, Option.some.inj H696, hM, ((hA.nil.cons (hA.get 10 _ rfl)).cons (hA.get 4 _ rfl))⟩
  clear hM hA
  rintro a w707 ⟨x695, rfl, hM, hA⟩
  try dsimp only at H
  refine TN ?_
  refine wp_seq ?_
  refine wp_region_lit ?_
  refine L1 (stv hA (by decide) (run_ld (hA.ev rfl) (run_loadP Try.isAgg34 Try.sizeOf34 (hM.box (.s .z)))) ?_)
  clear hA; intro a hA
  refine L1 (e_store (g := g355) (off := 0) (cur := (pA6u8.enc (Vector.replicate 6 0 : Vector Int 6))) (cs' := (pA6u8.enc x695)) hM .z Try.sizeOf34 hA rfl (by simp [add_mk]) rfl (agg_size _ _) (agg_one _ _) (Nat.le_of_ble_eq_true (enc_fitL _ _ rfl)) (spl_all (by first | rfl | simp [Value.cells, Pl.len])) ?_)
  clear hM hA; intro w708  hM hE  a hA
  refine LQ ?_
  refine TN ?_
  refine wp_ret ?_
  obtain rfl := Option.some.inj H
  exact ret_cell (fn := Try.f20) hA rfl rfl (run_loadP Try.isAgg34 Try.sizeOf34 (hM.box .z)) ⟨_, rfl, rfl, (hM.sel [] rfl (by decide))⟩

def ref27_Encode.l0 (r123 : (List Int)) (r130 : (Vector Int 6)) : Nat → ByteArray → Int → Option (ByteArray)
  | 0, _, _ => none
  | k + 1, t208, i210 => (if (decide (i210 < (((r123.length + 6) : Nat) : Int))) = true then (if 0 ≤ i210 ∧ i210 < (((r123.length + 6) : Nat) : Int) then (if 0 ≤ i210 ∧ i210 < (((r123.length + 6) : Nat) : Int) then (if 0 ≤ ((r123 ++ r130.toList).getD i210.toNat (0 : Int)) ∧ ((r123 ++ r130.toList).getD i210.toNat (0 : Int)) ≤ (IntKind.u8.wrap (((r123 ++ r130.toList).getD i210.toNat (0 : Int)) + 1)) ∧ (IntKind.u8.wrap (((r123 ++ r130.toList).getD i210.toNat (0 : Int)) + 1)) ≤ (((⟨#[113, 112, 122, 114, 121, 57, 120, 56, 103, 102, 50, 116, 118, 100, 119, 48, 115, 51, 106, 110, 53, 52, 107, 104, 99, 101, 54, 109, 117, 97, 55, 108]⟩ : ByteArray).size : Nat) : Int) then (if t208.size + ((⟨#[113, 112, 122, 114, 121, 57, 120, 56, 103, 102, 50, 116, 118, 100, 119, 48, 115, 51, 106, 110, 53, 52, 107, 104, 99, 101, 54, 109, 117, 97, 55, 108]⟩ : ByteArray).extract ((r123 ++ r130.toList).getD i210.toNat (0 : Int)).toNat (IntKind.u8.wrap (((r123 ++ r130.toList).getD i210.toNat (0 : Int)) + 1)).toNat).size ≤ 140737488355328 then (ref27_Encode.l0 r123 r130 k (t208 ++ ((⟨#[113, 112, 122, 114, 121, 57, 120, 56, 103, 102, 50, 116, 118, 100, 119, 48, 115, 51, 106, 110, 53, 52, 107, 104, 99, 101, 54, 109, 117, 97, 55, 108]⟩ : ByteArray).extract ((r123 ++ r130.toList).getD i210.toNat (0 : Int)).toNat (IntKind.u8.wrap (((r123 ++ r130.toList).getD i210.toNat (0 : Int)) + 1)).toNat)) (IntKind.i64.wrap (i210 + 1))) else none) else none) else none) else none) else (some t208))
def ref27_Encode.f (k : Nat) (prefix_0 : ByteArray) (b_1 : (List Int)) : Option (ByteArray × Int) := ((ref27_Prefix.f k prefix_0).bind fun r118 => (if (!r118) = true then (some ((⟨#[]⟩ : ByteArray), 270)) else (if (decide (((b_1.length : Nat) : Int) > 100)) = true then (some ((⟨#[]⟩ : ByteArray), 4)) else ((ref27_Convert.f k b_1).bind fun r123 => ((ref27_Checksum.f k prefix_0 r123).bind fun r130 => (if (r123.length + 6) * 1 ≤ 140737488355328 then (if prefix_0.size + (⟨#[49]⟩ : ByteArray).size ≤ 140737488355328 then (Option.bind (α := ByteArray) (ref27_Encode.l0 r123 r130 k (prefix_0 ++ (⟨#[49]⟩ : ByteArray)) 0) (fun t212 => (some (t212, 0)))) else none) else none))))))
set_option maxRecDepth 100000 in
theorem ref27_Encode.calls (k : Nat) (prefix_0 : ByteArray) (b_1 : (List Int)) (F : List (Option Nat)) (v1 : Value) (r : (ByteArray × Int)) (w0 : World) (h1 : RoV F (Pl.int .u8) w0 v1 b_1) (hM : Mem F w0 w0 []) (H : ref27_Encode.f k prefix_0 b_1 = some r) :
    Calls Try.prog 22 #[(.string prefix_0), v1] w0 fun e w' => ∃ v, e = .returned v ∧ v = (.tuple #[(.string r.1), (.int .i64 r.2)]) ∧ Mem F w0 w' [] := by
  unfold ref27_Encode.f at H
  obtain ⟨A1, c1, rfl, hr1, hc1⟩ := h1
  refine enterL (n := 45) [(.string prefix_0), (.slice A1 b_1.length c1)] Try.func22 rfl rfl rfl ?_
  intro a hA
  refine wp_seq ?_
  refine wp_region_lit ?_
  refine L1 (stv hA (by decide) (run_assign (hA.ev rfl)) ?_)
  clear hA; intro a hA
  refine L1 (stv hA (by decide) (run_assign (hA.ev rfl)) ?_)
  clear hA; intro a hA
  refine LQ ?_
  refine TN ?_
  refine wp_seq ?_
  refine wp_seq ?_
  refine wp_region_lit ?_
  refine L1 (stv hA (by decide) (run_move (hA.ev rfl)) ?_)
  clear hA; intro a hA
  obtain ⟨r118, H119, H⟩ := Option.bind_eq_some_iff.1 H
  refine L1 (st_call Try.call18 hA [(.string prefix_0)] rfl (by decide) (ref27_Prefix.calls _ _ _ _ _ (hM.front (Ms := [])) H119) ?_)
  clear hA; rintro _ w120 ⟨rfl, hMc⟩ a hA
  have hE := hMc.below; have hM := hM.call (Ms := []) hMc
  clear hMc; simp only [List.cons_append, List.nil_append] at hM
  refine L1 (stv hA (by decide) (run_not (hA.ev rfl)) ?_)
  clear hA; intro a hA
  refine LQ ?_
  refine TN ?_
  refine tcond (b := (!r118)) hA rfl (fun hb121 => ?_) (fun hb121 => ?_)
  · replace H := ite_t hb121 H
    refine wp_seq ?_
    refine wp_region_lit ?_
    refine L1 (stv hA (by decide) (run_assign (hA.ev rfl)) ?_)
    clear hA; intro a hA
    refine L1 (stv hA (by decide) (run_assign (hA.ev rfl)) ?_)
    clear hA; intro a hA
    refine LQ ?_
    refine TN ?_
    refine wp_ret ?_
    obtain rfl := Option.some.inj H
    refine TR ?_
    exact ret_post2 (fn := Try.f22) hA rfl rfl rfl ⟨_, rfl, rfl, hM⟩
  · replace H := ite_f hb121 H
    refine wp_skip ?_
    refine TN ?_
    refine wp_seq ?_
    refine wp_seq ?_
    refine wp_region_lit ?_
    refine L1 (stv hA (by decide) (run_move (hA.ev rfl)) ?_)
    clear hA; intro a hA
    refine L1 (stv hA (by decide) (run_len_slice Try.underlying22 (hA.ev rfl)) ?_)
    clear hA; intro a hA
    refine L1 (stv hA (by decide) (run_bin (hA.ev rfl) (hA.ev rfl) (bin_gtr _ _ _ _)) ?_)
    clear hA; intro a hA
    refine LQ ?_
    refine TN ?_
    refine tcond (b := (decide (((b_1.length : Nat) : Int) > 100))) hA rfl (fun hb122 => ?_) (fun hb122 => ?_)
    · replace H := ite_t hb122 H
      refine wp_seq ?_
      refine wp_region_lit ?_
      refine L1 (stv hA (by decide) (run_assign (hA.ev rfl)) ?_)
      clear hA; intro a hA
      refine L1 (stv hA (by decide) (run_assign (hA.ev rfl)) ?_)
      clear hA; intro a hA
      refine LQ ?_
      refine TN ?_
      refine wp_ret ?_
      obtain rfl := Option.some.inj H
      refine TR ?_
      exact ret_post2 (fn := Try.f22) hA rfl rfl rfl ⟨_, rfl, rfl, hM⟩
    · replace H := ite_f hb122 H
      refine wp_skip ?_
      refine TN ?_
      refine wp_seq ?_
      refine wp_region_lit ?_
      refine L1 (stv hA (by decide) (run_move (hA.ev rfl)) ?_)
      clear hA; intro a hA
      obtain ⟨r123, H124, H⟩ := Option.bind_eq_some_iff.1 H
      refine L1 (st_call Try.call10 hA [(.slice A1 b_1.length c1)] rfl (by decide) (ref27_Convert.calls _ _ _ _ _ _ ((RoV.mk (hM.roC (Ms := []) hr1) (Eq.refl b_1.length) hc1)) (hM.front (Ms := [])) H124) ?_)
      clear hA; rintro _ w125 ⟨v126, rfl, hMc⟩ a hA
      have hE := hMc.below; have hM := hM.call (Ms := []) hMc
      clear hMc; simp only [List.cons_append, List.nil_append] at hM
      obtain ⟨A128, c129, rfl⟩ := RowOk.form (hM.row (p := (Pl.int .u8)) .z)
      refine L1 (stv hA (by decide) (run_assign (hA.ev rfl)) ?_)
      clear hA; intro a hA
      refine LQ ?_
      refine TN ?_
      refine wp_seq ?_
      refine wp_region_lit ?_
      refine L1 (stv hA (by decide) (run_move (hA.ev rfl)) ?_)
      clear hA; intro a hA
      refine L1 (stv hA (by decide) (run_move (hA.ev rfl)) ?_)
      clear hA; intro a hA
      obtain ⟨r130, H131, H⟩ := Option.bind_eq_some_iff.1 H
      refine L1 (st_call Try.call20 hA [(.string prefix_0), (.slice A128 r123.length c129)] rfl (by decide) (ref27_Checksum.calls _ _ _ _ _ _ _ ((RoV.mk (hM.rowC (p := (Pl.int .u8)) (Ms := []) .z) (RowOk.len (hM.row (p := (Pl.int .u8)) .z)) (RowOk.cap (hM.row (p := (Pl.int .u8)) .z)))) (hM.front (Ms := [])) H131) ?_)
      clear hA; rintro _ w132 ⟨rfl, hMc⟩ a hA
      have hE := hMc.below; have hM := hM.call (Ms := []) hMc
      clear hMc; simp only [List.cons_append, List.nil_append] at hM
      refine L1 (e_alloc (cs := (pA6u8.enc (Vector.replicate 6 0 : Vector Int 6))) hM zero34 rfl hA (by decide) ?_)
      clear hM hA; intro w134 g133 hM hE  a hA
      refine L1 (e_store (g := g133) (off := 0) (cur := (pA6u8.enc (Vector.replicate 6 0 : Vector Int 6))) (cs' := (pA6u8.enc r130)) hM .z Try.sizeOf34 hA rfl (by simp [add_mk]) rfl (agg_size _ _) (agg_one _ _) (Nat.le_of_ble_eq_true (enc_fitL _ _ rfl)) (spl_all (by first | rfl | simp [Value.cells, Pl.len])) ?_)
      clear hM hA; intro w136  hM hE  a hA
      refine LQ ?_
      refine TN ?_
      refine wp_seq ?_
      refine wp_region_lit ?_
      refine L1 (stv hA (by decide) (run_move (hA.ev rfl)) ?_)
      clear hA; intro a hA
      refine L1 (stv hA (by decide) (run_arr0 Try.underlying34 Try.sizeOf5 6 (fun z hz => by cases hz) (fun _ => rfl) (fun z hz => by cases hz) (fun _ => rfl) (hA.ev rfl) (by decide)) ?_)
      clear hA; intro a hA
      obtain ⟨hl139, H⟩ := ite_some H
      refine L1 (e_append elt22 hM (fun _ => (.s .z)) (Src.row Try.underlying22 (Row.arr (hM.box .z)) (vlen r130)) hl139 hA rfl rfl (by decide) ?_)
      clear hM hA; intro w140 A137 c138 hM hE  a hA
      refine L1 (stv hA (by decide) (run_assign (hA.ev rfl)) ?_)
      clear hA; intro a hA
      refine LQ ?_
      refine TN ?_
      refine wp_seq ?_
      refine wp_region_lit ?_
      refine L1 (stv hA (by decide) (run_move (hA.ev rfl)) ?_)
      clear hA; intro a hA
      obtain ⟨hs141, H⟩ := ite_some H
      refine L1 (stv hA (by decide) (run_catstr (hA.ev rfl) (hA.ev rfl) hs141) ?_)
      clear hA; intro a hA
      refine L1 (stv hA (by decide) (run_assign (hA.ev rfl)) ?_)
      clear hA; intro a hA
      refine LQ ?_
      refine TN ?_
      refine wp_seq ?_
      refine wp_seq ?_
      refine wp_region_lit ?_
      refine L1 (stv hA (by decide) (run_assign (hA.ev rfl)) ?_)
      clear hA; intro a hA
      refine LQ ?_
      refine TN ?_
      obtain ⟨o214, H213, H⟩ := Option.bind_eq_some_iff.1 H
      refine cutC (fun a w => ∃ (t212 : ByteArray), t212 = o214 ∧ Mem F w0 w [] ∧ Has 45 [(8, (.string t212))] a) ?_ ?_
      · refine wp_block ?_
        refine wp_loop_ghost (fun m a w => ∃ (t208 : ByteArray) (i210 : Int), ref27_Encode.l0 r123 r130 m t208 i210 = some o214 ∧ Mem F w0 w [.row 5 (Pl.int .u8).sz (.slice A137 (r123.length + 6) c138) ((Pl.int .u8).flat (r123 ++ r130.toList))] ∧ Has 45 [(6, (.slice A137 (r123.length + 6) c138)), (8, (.string t208)), (9, (.int .i64 i210))] a) k ⟨(prefix_0 ++ (⟨#[49]⟩ : ByteArray)), 0, H213, (hM.sel [1] rfl (by decide)), (((hA.nil.cons (hA.get 9 _ rfl)).cons (hA.get 8 _ rfl)).cons (hA.get 6 _ rfl))⟩ ?_
        clear hM hA; rintro m215 a w216 ⟨t208, i210, H213, hM, hA⟩
        cases m215 with
        | zero => exact absurd H213 (by simp [ref27_Encode.l0])
        | succ m215 =>
        rw [ref27_Encode.l0] at H213
        refine wp_seq ?_
        refine wp_seq ?_
        refine wp_region_lit ?_
        refine L1 (stv hA (by decide) (run_move (hA.ev rfl)) ?_)
        clear hA; intro a hA
        refine L1 (stv hA (by decide) (run_move (hA.ev rfl)) ?_)
        clear hA; intro a hA
        refine L1 (stv hA (by decide) (run_len_slice Try.underlying22 (hA.ev rfl)) ?_)
        clear hA; intro a hA
        refine L1 (stv hA (by decide) (run_bin (hA.ev rfl) (hA.ev rfl) (bin_lss _ _ _ _)) ?_)
        clear hA; intro a hA
        refine LQ ?_
        refine TN ?_
        refine tcond (b := (decide (i210 < (((r123.length + 6) : Nat) : Int)))) hA rfl (fun hb217 => ?_) (fun hb217 => ?_)
        · replace H213 := ite_t hb217 H213
          refine wp_skip ?_
          refine TN ?_
          refine wp_seq ?_
          refine wp_block ?_
          refine draw (fun w' => Below w216.heap.size w216 w') [] rfl ?_
          intro w218 hw hS; replace hM := hM.ext hS; clear hw
          refine d_takef (i := 0) (L' := #[true, false, false, false, false, false, false, false, false, false, false, false, false]) rfl (by kernel_rfl) rfl (fun _ _ _ h => h) hA (by decide) (fun _ => hS) (fun a w' hA => run_move (hA.ev rfl)) ?_; clear hA; intro a hA
          refine d_takef (i := 1) (L' := #[true, true, false, false, false, false, false, false, false, false, false, false, false]) rfl (by kernel_rfl) rfl (fun _ _ _ h => h) hA (by decide) (fun _ => hS) (fun a w' hA => run_move (hA.ev rfl)) ?_; clear hA; intro a hA
          refine d_takef (i := 2) (L' := #[true, true, true, false, false, false, false, false, false, false, false, false, false]) rfl (by kernel_rfl) rfl (fun _ _ _ h => h) hA (by decide) (fun _ => hS) (fun a w' hA => run_move (hA.ev rfl)) ?_; clear hA; intro a hA
          obtain ⟨⟨hi220, hj221⟩, H213⟩ := ite_some H213
          obtain ⟨ad222, hq223, hat224⟩ := Row.elem' (p := (Pl.int .u8)) (RowOk.row (hM.row (p := (Pl.int .u8)) .z)) (RowOk.len (hM.row (p := (Pl.int .u8)) .z)) (0 : Int) i210 hi220 hj221
          refine d_takef (i := 3) (L' := #[true, true, true, true, false, false, false, false, false, false, false, false, false]) rfl (by kernel_rfl) rfl (fun _ _ _ h => h) hA (by decide) (fun _ => hS) (fun a w' hA => run_idx Try.underlying22 Try.sizeOf5 (hA.ev rfl) hq223 (hA.ev rfl) hi220 hj221) ?_; clear hA; intro a hA
          refine rebase hS ?_; clear hS; intro hS
          refine d_take (i := 4) (L' := #[true, true, true, true, true, false, false, false, false, false, false, false, false]) rfl (by kernel_rfl) rfl (fun _ _ _ h => h) hA (by decide) rfl hS (fun a w' hA hS' => run_ld (hA.ev rfl) (run_loadS Try.isAgg5 ((hat224).extB hS'))) ?_; clear hA; intro a hA
          refine d_takef (i := 5) (L' := #[true, true, true, true, true, true, false, false, false, false, false, false, false]) rfl (by kernel_rfl) rfl (fun _ _ _ h => h) hA (by decide) (fun _ => hS) (fun a w' hA => run_move (hA.ev rfl)) ?_; clear hA; intro a hA
          refine d_takef (i := 6) (L' := #[true, true, true, true, true, true, true, false, false, false, false, false, false]) rfl (by kernel_rfl) rfl (fun _ _ _ h => h) hA (by decide) (fun _ => hS) (fun a w' hA => run_move (hA.ev rfl)) ?_; clear hA; intro a hA
          obtain ⟨⟨hi225, hj226⟩, H213⟩ := ite_some H213
          obtain ⟨ad227, hq228, hat229⟩ := Row.elem' (p := (Pl.int .u8)) (RowOk.row (hM.row (p := (Pl.int .u8)) .z)) (RowOk.len (hM.row (p := (Pl.int .u8)) .z)) (0 : Int) i210 hi225 hj226
          refine d_takef (i := 7) (L' := #[true, true, true, true, true, true, true, true, false, false, false, false, false]) rfl (by kernel_rfl) rfl (fun _ _ _ h => h) hA (by decide) (fun _ => hS) (fun a w' hA => run_idx Try.underlying22 Try.sizeOf5 (hA.ev rfl) hq228 (hA.ev rfl) hi225 hj226) ?_; clear hA; intro a hA
          refine d_take (i := 8) (L' := #[true, true, true, true, true, true, true, true, true, false, false, false, false]) rfl (by kernel_rfl) rfl (fun _ _ _ h => h) hA (by decide) rfl hS (fun a w' hA hS' => run_ld (hA.ev rfl) (run_loadS Try.isAgg5 ((hat229).extB hS'))) ?_; clear hA; intro a hA
          refine d_takef (i := 9) (L' := #[true, true, true, true, true, true, true, true, true, true, false, false, false]) rfl (by kernel_rfl) rfl (fun _ _ _ h => h) hA (by decide) (fun _ => hS) (fun a w' hA => run_bin (hA.ev rfl) (hA.ev rfl) (bin_add _ _ _ _)) ?_; clear hA; intro a hA
          obtain ⟨⟨hi230, hk231, hj232⟩, H213⟩ := ite_some H213
          refine d_takef (i := 10) (L' := #[true, true, true, true, true, true, true, true, true, true, true, false, false]) rfl (by kernel_rfl) rfl (fun _ _ _ h => h) hA (by decide) (fun _ => hS) (fun a w' hA => run_strlohi Try.underlying9 hi230 hk231 hj232 (hA.ev rfl) (hA.ev rfl) (hA.ev rfl)) ?_; clear hA; intro a hA
          obtain ⟨hs233, H213⟩ := ite_some H213
          refine d_takef (i := 11) (L' := #[true, true, true, true, true, true, true, true, true, true, true, true, false]) rfl (by kernel_rfl) rfl (fun _ _ _ h => h) hA (by decide) (fun _ => hS) (fun a w' hA => run_catstr (hA.ev rfl) (hA.ev rfl) hs233) ?_; clear hA; intro a hA
          refine d_takef (i := 12) (L' := #[true, true, true, true, true, true, true, true, true, true, true, true, true]) rfl (by kernel_rfl) rfl (fun _ _ _ h => h) hA (by decide) (fun _ => hS) (fun a w' hA => run_assign (hA.ev rfl)) ?_; clear hA; intro a hA
          refine d_done (by kernel_rfl) ?_
          refine BN ?_
          refine TN ?_
          refine wp_region_lit ?_
          refine L1 (stv hA (by decide) (run_move (hA.ev rfl)) ?_)
          clear hA; intro a hA
          refine L1 (stv hA (by decide) (run_bin (hA.ev rfl) (hA.ev rfl) (bin_add _ _ _ _)) ?_)
          clear hA; intro a hA
          refine L1 (stv hA (by decide) (run_assign (hA.ev rfl)) ?_)
          clear hA; intro a hA
          refine LQ ?_
          exact ⟨_, Nat.lt_succ_self m215, (t208 ++ ((⟨#[113, 112, 122, 114, 121, 57, 120, 56, 103, 102, 50, 116, 118, 100, 119, 48, 115, 51, 106, 110, 53, 52, 107, 104, 99, 101, 54, 109, 117, 97, 55, 108]⟩ : ByteArray).extract ((r123 ++ r130.toList).getD i210.toNat (0 : Int)).toNat (IntKind.u8.wrap (((r123 ++ r130.toList).getD i210.toNat (0 : Int)) + 1)).toNat)), IntKind.i64.wrap (i210 + 1), H213, hM, (((hA.nil.cons (hA.get 9 _ rfl)).cons (hA.get 8 _ rfl)).cons (hA.get 6 _ rfl))⟩
        · replace H213 := ite_f hb217 H213
          refine wp_exit ?_
          refine TX ?_
          refine TX ?_
          refine BX ?_
          exact ⟨t208, Option.some.inj H213, (hM.sel [] rfl (by decide)), (hA.nil.cons (hA.get 8 _ rfl))⟩
      clear hM hA
      rintro a w234 ⟨t212, rfl, hM, hA⟩
      try dsimp only at H
      refine TN ?_
      refine wp_seq ?_
      refine wp_region_lit ?_
      refine L1 (stv hA (by decide) (run_move (hA.ev rfl)) ?_)
      clear hA; intro a hA
      refine L1 (stv hA (by decide) (run_assign (hA.ev rfl)) ?_)
      clear hA; intro a hA
      refine L1 (stv hA (by decide) (run_assign (hA.ev rfl)) ?_)
      clear hA; intro a hA
      refine LQ ?_
      refine TN ?_
      refine wp_ret ?_
      obtain rfl := Option.some.inj H
      exact ret_post2 (fn := Try.f22) hA rfl rfl rfl ⟨_, rfl, rfl, hM⟩

end Go.Proofs.Ytmopbcfjnnchgaa.G
