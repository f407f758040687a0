/- The functions that a law of this seat reaches: what each comes to, as a plain function, and that its code comes to it. Conditions: the plain function gives a value (enough fuel, no panic). -/
import Derived.Test.YtnhgfdinnbadeaaFRelayEndsx1
set_option linter.unusedVariables false
set_option linter.unusedSimpArgs false
namespace Go.Proofs.Ytnhgfdinnbadeaa.G
open Go Go.RowKit Go.Proofs
def law40_RelayEnds.l1 (xs13472 : (List (Vector Int 32))) (r13660 : (Relay × (List (Vector Int 32)))) : Nat → Int → Bool → (List Int) → (List Stem) → (List (Vector Int 32)) → (List (Vector Int 32)) → Int → Option (Out Bool (Int × Bool × (List Int) × (List Stem) × (List (Vector Int 32)) × (List (Vector Int 32))))
  | 0, _, _, _, _, _, _, _ => none
  | k + 1, x14206, x14207, xs14212, xs14217, xs14222, xs14229, x14231 => (if (decide (x14231 < ((r13660.2.length : Nat) : Int))) = true then (if 0 ≤ x14231 ∧ x14231 < ((r13660.2.length : Nat) : Int) then (Option.bind (α := Bool) ((law40_has.f k xs14229 (r13660.2.getD x14231.toNat (Vector.replicate 32 0 : Vector Int 32))).bind fun r14287 => (if r14287 = true then (some true) else ((law40_has.f k xs13472 (r13660.2.getD x14231.toNat (Vector.replicate 32 0 : Vector Int 32))).bind fun r14291 => (some (!r14291))))) (fun x14284 => (if x14284 = true then (some (.ret false)) else ((relay_Fluff.f k (Relay.mk x14206 x14207 xs14212 xs14217 xs14222) (r13660.2.getD x14231.toNat (Vector.replicate 32 0 : Vector Int 32))).bind fun r14296 => (if (r14296.2 != 0) = true then (some (.ret false)) else (Option.bind (α := (List (Vector Int 32))) (if (xs14229.length + 1) * 32 ≤ 140737488355328 then (some (xs14229 ++ [(r13660.2.getD x14231.toNat (Vector.replicate 32 0 : Vector Int 32))])) else none) (fun xs14367 => (law40_RelayEnds.l1 xs13472 r13660 k r14296.1.Epoch r14296.1.Diffuse r14296.1.Routes r14296.1.Stems r14296.1.Fluffed xs14367 (IntKind.i64.wrap (x14231 + 1)))))))))) else none) else (some (.go (x14206, x14207, xs14212, xs14217, xs14222, xs14229))))
def law40_RelayEnds.l0 (o_1 : (List Int)) : Nat → Int → Bool → (List Int) → (List Stem) → (List (Vector Int 32)) → Int → (List (Vector Int 32)) → (List (Vector Int 32)) → Int → Option (Out Bool (Int × Bool × (List Int) × (List Stem) × (List (Vector Int 32)) × (List (Vector Int 32)) × (List (Vector Int 32)) × Int))
  | 0, _, _, _, _, _, _, _, _, _ => none
  | k + 1, x13448, x13449, xs13454, xs13459, xs13464, x13466, xs13472, xs13478, t13480 => ((mill_Deck_Left.f k (lightclientmill_Deck.mk o_1 x13466)).bind fun r13521 => (if r13521.1 = true then ((mill_Deck_Next.f k (lightclientmill_Deck.mk o_1 r13521.2.At_) 5).bind fun r13525 => ((mill_Deck_Next.f k (lightclientmill_Deck.mk o_1 r13525.2.At_) 30).bind fun r13528 => ((mill_Deck_Next.f k (lightclientmill_Deck.mk o_1 r13528.2.At_) 4).bind fun r13535 => (if (r13535.1 == 0) = true then ((relay_Fluff.f k (Relay.mk x13448 x13449 xs13454 xs13459 xs13464) (((Vector.replicate 32 0 : Vector Int 32).setIfInBounds 0 (IntKind.u8.wrap r13528.1)))).bind fun r13539 => (if (r13539.2 == 0) = true then (Option.bind (α := (List (Vector Int 32))) (if (xs13478.length + 1) * 32 ≤ 140737488355328 then (some (xs13478 ++ [(((Vector.replicate 32 0 : Vector Int 32).setIfInBounds 0 (IntKind.u8.wrap r13528.1)))])) else none) (fun xs13610 => (law40_RelayEnds.l0 o_1 k r13539.1.Epoch r13539.1.Diffuse r13539.1.Routes r13539.1.Stems r13539.1.Fluffed r13535.2.At_ xs13472 xs13610 (IntKind.u32.wrap (t13480 + (IntKind.u32.wrap r13525.1)))))) else (law40_RelayEnds.l0 o_1 k x13448 x13449 xs13454 xs13459 xs13464 r13535.2.At_ xs13472 xs13478 (IntKind.u32.wrap (t13480 + (IntKind.u32.wrap r13525.1)))))) else (if (r13535.1 == 1) = true then ((relay_Due.f k (Relay.mk x13448 x13449 xs13454 xs13459 xs13464) (IntKind.u32.wrap (t13480 + (IntKind.u32.wrap r13525.1)))).bind fun r13660 => (Option.bind (α := Out Bool (Int × Bool × (List Int) × (List Stem) × (List (Vector Int 32)) × (List (Vector Int 32)))) (law40_RelayEnds.l1 xs13472 r13660 k r13660.1.Epoch r13660.1.Diffuse r13660.1.Routes r13660.1.Stems r13660.1.Fluffed xs13478 0) (fun o => match o with | .ret r => some (.ret r) | .go (x14233, x14234, xs14239, xs14244, xs14249, xs14256) => (law40_RelayEnds.l0 o_1 k x14233 x14234 xs14239 xs14244 xs14249 r13535.2.At_ xs13472 xs14256 (IntKind.u32.wrap (t13480 + (IntKind.u32.wrap r13525.1))))))) else (Option.bind (α := Int × Int × Bool × (List Int) × (List Stem) × (List (Vector Int 32)) × Int × Int) ((mill_Deck_Next.f k (lightclientmill_Deck.mk o_1 r13535.2.At_) 9).bind fun r14861 => ((relay_Hear.f k (Relay.mk x13448 x13449 xs13454 xs13459 xs13464) (IntKind.i64.wrap (r14861.1 - 1)) (((Vector.replicate 32 0 : Vector Int 32).setIfInBounds 0 (IntKind.u8.wrap r13528.1))) (IntKind.u32.wrap (t13480 + (IntKind.u32.wrap r13525.1))) 10).bind fun r14864 => (some (r14861.2.At_, r14864.1.Epoch, r14864.1.Diffuse, r14864.1.Routes, r14864.1.Stems, r14864.1.Fluffed, r14864.2.1, r14864.2.2)))) (fun st => match st with | (x14832, x14839, x14840, xs14845, xs14850, xs14855, x14856, x14857) => (Option.bind (α := Bool) (if (x14857 == 0) = true then (some (decide (x14856 ≥ 0))) else (some false)) (fun x15281 => (if x15281 = true then (Option.bind (α := (List (Vector Int 32))) (if (xs13472.length + 1) * 32 ≤ 140737488355328 then (some (xs13472 ++ [(((Vector.replicate 32 0 : Vector Int 32).setIfInBounds 0 (IntKind.u8.wrap r13528.1)))])) else none) (fun xs15337 => (law40_RelayEnds.l0 o_1 k x14839 x14840 xs14845 xs14850 xs14855 x14832 xs15337 xs13478 (IntKind.u32.wrap (t13480 + (IntKind.u32.wrap r13525.1)))))) else (law40_RelayEnds.l0 o_1 k x13448 x13449 xs13454 xs13459 xs13464 x14832 xs13472 xs13478 (IntKind.u32.wrap (t13480 + (IntKind.u32.wrap r13525.1)))))))))))))) else (some (.go (x13448, x13449, xs13454, xs13459, xs13464, xs13472, xs13478, t13480)))))
def law40_RelayEnds.l2 (xs13504 : (List (Vector Int 32))) (xs13510 : (List (Vector Int 32))) (r15388 : (Relay × (List (Vector Int 32)))) : Nat → Int → Option (Out Bool (Unit))
  | 0, _ => none
  | k + 1, x15463 => (if (decide (x15463 < ((xs13504.length : Nat) : Int))) = true then (if 0 ≤ x15463 ∧ x15463 < ((xs13504.length : Nat) : Int) then ((law40_has.f k (xs13510 ++ r15388.2) (xs13504.getD x15463.toNat (Vector.replicate 32 0 : Vector Int 32))).bind fun r15478 => (if (!r15478) = true then (some (.ret false)) else (law40_RelayEnds.l2 xs13504 xs13510 r15388 k (IntKind.i64.wrap (x15463 + 1))))) else none) else (some (.go ())))
def law40_RelayEnds.f (k : Nat) (C_0 : (List Int)) (o_1 : (List Int)) : Option Bool := ((law40_sane.f k ).bind fun r7742 => (if (!r7742) = true then (some false) else ((mill_Few.f k o_1).bind fun r7746 => (if (!r7746) = true then (some true) else ((mill_New.f k o_1).bind fun r7757 => (Option.bind (α := Out Bool (Int × Bool × (List Int) × (List Stem) × (List (Vector Int 32)) × (List (Vector Int 32)) × (List (Vector Int 32)) × Int)) (law40_RelayEnds.l0 o_1 k 0 false [(4 : Int), (7 : Int)] ([] : List Stem) ([] : List (Vector Int 32)) r7757.At_ ([] : List (Vector Int 32)) ([] : List (Vector Int 32)) 0) (fun o => match o with | .ret r => some r | .go (x13482, x13483, xs13488, xs13493, xs13498, xs13504, xs13510, t13512) => ((relay_Due.f k (Relay.mk x13482 x13483 xs13488 xs13493 xs13498) (IntKind.u32.wrap (t13512 + 10))).bind fun r15388 => (if (xs13510.length + r15388.2.length) * 32 ≤ 140737488355328 then (Option.bind (α := Out Bool (Unit)) (law40_RelayEnds.l2 xs13504 xs13510 r15388 k 0) (fun o => match o with | .ret r => some r | .go _ => (some (((r15388.1.Stems.length : Nat) : Int) == 0)))) else none)))))))))
set_option maxHeartbeats 2000000 in
set_option maxRecDepth 100000 in
theorem law40_RelayEnds.calls (k : Nat) (C_0 : (List Int)) (o_1 : (List Int)) (F : List (Option Nat)) (v0 : Value) (v1 : Value) (r : Bool) (w0 : World) (h0 : RoV F (Pl.int .i64) w0 v0 C_0) (h1 : RoV F (Pl.int .i64) w0 v1 o_1) (hM : Mem F w0 w0 []) (H : law40_RelayEnds.f k C_0 o_1 = some r) :
    Calls Try.prog 6 #[v0, v1] w0 fun e w' => ∃ v, e = .returned v ∧ v = (.bool r) ∧ Mem F w0 w' [] := by
  unfold law40_RelayEnds.f at H
  obtain ⟨A0, c0, rfl, hr0, hc0⟩ := h0
  obtain ⟨A1, c1, rfl, hr1, hc1⟩ := h1
  refine enterL (n := 148) [(.slice A0 C_0.length c0), (.slice A1 o_1.length c1)] Try.func6 rfl rfl rfl ?_
  intro a hA
  refine wp_seq ?_
  refine wp_region_lit ?_
  refine L1 (stv hA (by decide) (run_assign (hA.ev rfl)) ?_)
  clear hA; intro a hA
  refine LQ ?_
  refine TN ?_
  refine wp_seq ?_
  refine wp_seq ?_
  refine wp_region_lit ?_
  obtain ⟨r7742, H7743, H⟩ := Option.bind_eq_some_iff.1 H
  refine L1 (st_call Try.call7 hA [] rfl (by decide) (law40_sane.calls _ _ _ _ (hM.front (Ms := [])) H7743) ?_)
  clear hA; rintro _ w7744 ⟨rfl, hMc⟩ a hA
  have hE := hMc.below; have hM := hM.call (Ms := []) hMc
  clear hMc; simp only [List.cons_append, List.nil_append] at hM
  refine L1 (stv hA (by decide) (run_not (hA.ev rfl)) ?_)
  clear hA; intro a hA
  refine LQ ?_
  refine TN ?_
  refine tcond (b := (!r7742)) hA rfl (fun hb7745 => ?_) (fun hb7745 => ?_)
  · replace H := ite_t hb7745 H
    refine wp_seq ?_
    refine wp_region_lit ?_
    refine L1 (stv hA (by decide) (run_assign (hA.ev rfl)) ?_)
    clear hA; intro a hA
    refine LQ ?_
    refine TN ?_
    refine wp_ret ?_
    obtain rfl := Option.some.inj H
    refine TR ?_
    exact ret_post1 (fn := Try.f6) hA rfl rfl ⟨_, rfl, rfl, hM⟩
  · replace H := ite_f hb7745 H
    refine wp_skip ?_
    refine TN ?_
    refine wp_seq ?_
    refine wp_seq ?_
    refine wp_region_lit ?_
    refine L1 (stv hA (by decide) (run_move (hA.ev rfl)) ?_)
    clear hA; intro a hA
    obtain ⟨r7746, H7747, H⟩ := Option.bind_eq_some_iff.1 H
    refine L1 (st_call Try.call21 hA [(.slice A1 o_1.length c1)] rfl (by decide) (mill_Few.calls _ _ _ _ _ _ ((RoV.mk (hM.roC (Ms := []) hr1) (Eq.refl o_1.length) hc1)) (hM.front (Ms := [])) H7747) ?_)
    clear hA; rintro _ w7748 ⟨rfl, hMc⟩ a hA
    have hE := hMc.below; have hM := hM.call (Ms := []) hMc
    clear hMc; simp only [List.cons_append, List.nil_append] at hM
    refine L1 (stv hA (by decide) (run_not (hA.ev rfl)) ?_)
    clear hA; intro a hA
    refine LQ ?_
    refine TN ?_
    refine tcond (b := (!r7746)) hA rfl (fun hb7749 => ?_) (fun hb7749 => ?_)
    · replace H := ite_t hb7749 H
      refine wp_seq ?_
      refine wp_region_lit ?_
      refine L1 (stv hA (by decide) (run_assign (hA.ev rfl)) ?_)
      clear hA; intro a hA
      refine LQ ?_
      refine TN ?_
      refine wp_ret ?_
      obtain rfl := Option.some.inj H
      refine TR ?_
      exact ret_post1 (fn := Try.f6) hA rfl rfl ⟨_, rfl, rfl, hM⟩
    · replace H := ite_f hb7749 H
      refine wp_skip ?_
      refine TN ?_
      refine wp_seq ?_
      refine wp_region_lit ?_
      refine L1 (e_litN [(4 : Int), (7 : Int)] [(.int .i64 4), (.int .i64 7)] elt22 hM rfl (by decide) hA rfl rfl (List.cons_ne_nil _ _) (by decide) ?_)
      clear hM hA; intro w7751 g7750 hM hE  a hA
      refine L1 (stv hA (by decide) (run_build (cells := #[(.int .u32 0), (.bool false), (.slice (some ⟨g7750, 0, none⟩) 2 2), (.slice none 0 0), (.slice none 0 0)]) [(2, (.slice (some ⟨g7750, 0, none⟩) 2 2))] zero39 Try.underlying39 (ss := [1, 1, 1, 1, 1]) ⟨Try.sizeOf35, Try.sizeOf4, Try.sizeOf22, Try.sizeOf36, Try.sizeOf37, trivial⟩ hA rfl (by rfl)) ?_)
      clear hA; intro a hA
      refine L1 (e_alloc (cs := [(.int .u32 0), (.bool false), (.slice none 0 0), (.slice none 0 0), (.slice none 0 0)]) hM zero39 rfl hA (by decide) ?_)
      clear hM hA; intro w7754 g7753 hM hE  a hA
      refine L1 (e_store (g := g7753) (off := 0) (cur := [(.int .u32 0), (.bool false), (.slice none 0 0), (.slice none 0 0), (.slice none 0 0)]) (cs' := [(.int .u32 0), (.bool false), (.slice (some ⟨g7750, 0, none⟩) 2 2), (.slice none 0 0), (.slice none 0 0)]) hM .z Try.sizeOf39 hA rfl (by simp [add_mk]) rfl (by first | rfl | simp [Value.cells, Pl.len]) (by simp [Value.cells, Value.oneCell']) (by first | exact Nat.le_of_ble_eq_true rfl | (simp [Pl.len]; done)) (spl_all (by first | rfl | simp [Value.cells, Pl.len])) ?_)
      clear hM hA; intro w7756  hM hE  a hA
      refine LQ ?_
      refine TN ?_
      refine wp_seq ?_
      refine wp_region_lit ?_
      refine L1 (stv hA (by decide) (run_move (hA.ev rfl)) ?_)
      clear hA; intro a hA
      obtain ⟨r7757, H7758, H⟩ := Option.bind_eq_some_iff.1 H
      refine L1 (st_call Try.call13 hA [(.slice A1 o_1.length c1)] rfl (by decide) (mill_New.calls _ _ _ _ _ _ ((RoV.mk (hM.roC (Ms := []) hr1) (Eq.refl o_1.length) hc1)) (hM.front (Ms := [])) H7758) ?_)
      clear hA; rintro _ w7759 ⟨g7760, rfl, hMc⟩ a hA
      have hE := hMc.below; have hM := hM.call (Ms := []) hMc
      clear hMc; simp only [List.cons_append, List.nil_append] at hM
      refine L1 (stv hA (by decide) (run_assign (hA.ev rfl)) ?_)
      clear hA; intro a hA
      refine LQ ?_
      refine TN ?_
      refine wp_seq ?_
      refine wp_region_lit ?_
      refine L1 (stv hA (by decide) (run_assign (hA.ev rfl)) ?_)
      clear hA; intro a hA
      refine L1 (stv hA (by decide) (run_assign (hA.ev rfl)) ?_)
      clear hA; intro a hA
      refine LQ ?_
      refine TN ?_
      refine wp_seq ?_
      refine wp_region_lit ?_
      refine L1 (stv hA (by decide) (run_assign (hA.ev rfl)) ?_)
      clear hA; intro a hA
      refine LQ ?_
      refine TN ?_
      refine wp_seq ?_
      obtain ⟨o13514, H13513, H⟩ := Option.bind_eq_some_iff.1 H
      refine cutC (fun a w => ∃ (x13482 : Int) (x13483 : Bool) (xs13488 : (List Int)) (xs13493 : (List Stem)) (xs13498 : (List (Vector Int 32))) (xs13504 : (List (Vector Int 32))) (xs13510 : (List (Vector Int 32))) (t13512 : Int) (v13485 : Value) (v13490 : Value) (v13495 : Value) (v13501 : Value) (v13507 : Value), (.go (x13482, x13483, xs13488, xs13493, xs13498, xs13504, xs13510, t13512)) = o13514 ∧ Mem F w0 w [.box g7753 39 [(.int .u32 x13482), (.bool x13483), v13485, v13490, v13495], .row 3 (Pl.int .i64).sz v13485 ((Pl.int .i64).flat xs13488), .row 61 pStem.sz v13490 (pStem.flat xs13493), .row 34 pHash.sz v13495 (pHash.flat xs13498), .row 34 pHash.sz v13501 (pHash.flat xs13504), .row 34 pHash.sz v13507 (pHash.flat xs13510)] ∧ Has 148 [(5, (.pointer (some (⟨g7753, 0, none⟩)))), (7, v13501), (8, v13507), (9, (.int .u32 t13512))] a) ?_ ?_
      · refine wp_block ?_
        have hM := hM.addnil 61 (pStem).sz
        have hM := hM.addnil 34 (pHash).sz
        have hM := hM.addnil 34 (pHash).sz
        have hM := hM.addnil 34 (pHash).sz
        refine wp_loop_ghost (fun m a w => ∃ (x13448 : Int) (x13449 : Bool) (xs13454 : (List Int)) (xs13459 : (List Stem)) (xs13464 : (List (Vector Int 32))) (x13466 : Int) (xs13472 : (List (Vector Int 32))) (xs13478 : (List (Vector Int 32))) (t13480 : Int) (v13451 : Value) (v13456 : Value) (v13461 : Value) (v13469 : Value) (v13475 : Value), law40_RelayEnds.l0 o_1 m x13448 x13449 xs13454 xs13459 xs13464 x13466 xs13472 xs13478 t13480 = some o13514 ∧ Mem F w0 w [.box g7753 39 [(.int .u32 x13448), (.bool x13449), v13451, v13456, v13461], .row 3 (Pl.int .i64).sz v13451 ((Pl.int .i64).flat xs13454), .row 61 pStem.sz v13456 (pStem.flat xs13459), .row 34 pHash.sz v13461 (pHash.flat xs13464), .box g7760 63 [(.slice A1 o_1.length c1), (.int .i64 x13466)], .row 34 pHash.sz v13469 (pHash.flat xs13472), .row 34 pHash.sz v13475 (pHash.flat xs13478)] ∧ Has 148 [(5, (.pointer (some (⟨g7753, 0, none⟩)))), (6, (.pointer (some (⟨g7760, 0, none⟩)))), (7, v13469), (8, v13475), (9, (.int .u32 t13480))] a) k ⟨0, false, [(4 : Int), (7 : Int)], ([] : List Stem), ([] : List (Vector Int 32)), r7757.At_, ([] : List (Vector Int 32)), ([] : List (Vector Int 32)), 0, (.slice (some ⟨g7750, 0, none⟩) 2 2), (.slice none 0 0), (.slice none 0 0), (.slice none 0 0), (.slice none 0 0), H13513, (hM.sel [5, 6, 3, 2, 4, 1, 0] rfl (by decide)), (((((hA.nil.cons (hA.get 9 _ rfl)).cons (hA.get 8 _ rfl)).cons (hA.get 7 _ rfl)).cons (hA.get 6 _ rfl)).cons (hA.get 5 _ rfl))⟩ ?_
        clear hM hA; rintro m13519 a w13520 ⟨x13448, x13449, xs13454, xs13459, xs13464, x13466, xs13472, xs13478, t13480, v13451, v13456, v13461, v13469, v13475, H13513, hM, hA⟩
        cases m13519 with
        | zero => exact absurd H13513 (by simp [law40_RelayEnds.l0])
        | succ m13519 =>
        rw [law40_RelayEnds.l0] at H13513
        obtain ⟨A13452, c13453, rfl⟩ := RowOk.form (hM.row (p := (Pl.int .i64)) (.s .z))
        obtain ⟨A13457, c13458, rfl⟩ := RowOk.form (hM.row (p := pStem) (.s (.s .z)))
        obtain ⟨A13462, c13463, rfl⟩ := RowOk.form (hM.row (p := pHash) (.s (.s (.s .z))))
        obtain ⟨A13470, c13471, rfl⟩ := RowOk.form (hM.row (p := pHash) (.s (.s (.s (.s (.s .z))))))
        obtain ⟨A13476, c13477, rfl⟩ := RowOk.form (hM.row (p := pHash) (.s (.s (.s (.s (.s (.s .z)))))))
        refine wp_seq ?_
        refine wp_seq ?_
        refine wp_region_lit ?_
        refine L1 (stv hA (by decide) (run_move (hA.ev rfl)) ?_)
        clear hA; intro a hA
        have hM := hM.sel [4, 0, 1, 2, 3, 5, 6] rfl (by decide)
        obtain ⟨r13521, H13522, H13513⟩ := Option.bind_eq_some_iff.1 H13513
        refine L1 (st_call Try.call22 hA [(.pointer (some (⟨g7760, 0, none⟩)))] rfl (by decide) (mill_Deck_Left.calls _ (lightclientmill_Deck.mk o_1 x13466) _ _ _ _ _ ((RoV.mk (hM.roC (Ms := [_]) hr1) (Eq.refl o_1.length) hc1)) (hM.front (Ms := [_])) H13522) ?_)
        clear hA; rintro _ w13523 ⟨rfl, hMc⟩ a hA
        have hM := hM.call (Ms := [_]) hMc
        clear hMc; simp only [List.cons_append, List.nil_append] at hM
        refine LQ ?_
        refine TN ?_
        refine tcond (b := r13521.1) hA rfl (fun hb13524 => ?_) (fun hb13524 => ?_)
        · replace H13513 := ite_t hb13524 H13513
          refine wp_skip ?_
          refine TN ?_
          refine wp_block ?_
          refine wp_seq ?_
          refine wp_region_lit ?_
          refine L1 (stv hA (by decide) (run_move (hA.ev rfl)) ?_)
          clear hA; intro a hA
          refine L1 (stv hA (by decide) (run_move (hA.ev rfl)) ?_)
          clear hA; intro a hA
          obtain ⟨r13525, H13526, H13513⟩ := Option.bind_eq_some_iff.1 H13513
          refine L1 (st_call Try.call23 hA [(.pointer (some (⟨g7760, 0, none⟩))), (.int .i64 5)] rfl (by decide) (mill_Deck_Next.calls _ (lightclientmill_Deck.mk o_1 r13521.2.At_) _ _ _ _ _ _ ((RoV.mk (hM.roC (Ms := [_]) hr1) (Eq.refl o_1.length) hc1)) (hM.front (Ms := [_])) H13526) ?_)
          clear hA; rintro _ w13527 ⟨rfl, hMc⟩ a hA
          have hM := hM.call (Ms := [_]) hMc
          clear hMc; simp only [List.cons_append, List.nil_append] at hM
          refine L1 (stv hA (by decide) (run_conv Try.underlying3 Try.underlying35 (hA.ev rfl)) ?_)
          clear hA; intro a hA
          refine L1 (stv hA (by decide) (run_bin (hA.ev rfl) (hA.ev rfl) (bin_add _ _ _ _)) ?_)
          clear hA; intro a hA
          refine L1 (stv hA (by decide) (run_assign (hA.ev rfl)) ?_)
          clear hA; intro a hA
          refine LQ ?_
          refine TN ?_
          refine wp_seq ?_
          refine wp_region_lit ?_
          refine L1 (stv hA (by decide) (run_move (hA.ev rfl)) ?_)
          clear hA; intro a hA
          obtain ⟨r13528, H13529, H13513⟩ := Option.bind_eq_some_iff.1 H13513
          refine L1 (st_call Try.call23 hA [(.pointer (some (⟨g7760, 0, none⟩))), (.int .i64 30)] rfl (by decide) (mill_Deck_Next.calls _ (lightclientmill_Deck.mk o_1 r13525.2.At_) _ _ _ _ _ _ ((RoV.mk (hM.roC (Ms := [_]) hr1) (Eq.refl o_1.length) hc1)) (hM.front (Ms := [_])) H13529) ?_)
          clear hA; rintro _ w13530 ⟨rfl, hMc⟩ a hA
          have hM := hM.call (Ms := [_]) hMc
          clear hMc; simp only [List.cons_append, List.nil_append] at hM
          refine L1 (stv hA (by decide) (run_conv Try.underlying3 Try.underlying5 (hA.ev rfl)) ?_)
          clear hA; intro a hA
          refine L1 (stv hA (by decide) (run_build_arr [(0, (.int .u8 (IntKind.u8.wrap r13528.1)))] zero34 Try.underlying34 Try.sizeOf5 hA rfl (fill_step rfl rfl (enc_fit _ _ rfl) (arr_eq (vec_spl' _ _ _ (by decide))) (fill_nil))) ?_)
          clear hA; intro a hA
          refine L1 (e_alloc (cs := (pHash.enc (Vector.replicate 32 0 : Vector Int 32))) hM zero34 rfl hA (by decide) ?_)
          clear hM hA; intro w13532 g13531 hM hE  a hA
          refine L1 (e_store (g := g13531) (off := 0) (cur := (pHash.enc (Vector.replicate 32 0 : Vector Int 32))) (cs' := (pHash.enc (((Vector.replicate 32 0 : Vector Int 32).setIfInBounds 0 (IntKind.u8.wrap r13528.1))))) hM .z Try.sizeOf34 hA rfl (by simp [add_mk]) rfl (agg_size _ _) (agg_one _ _) (Nat.le_of_ble_eq_true (enc_fitL _ _ rfl)) (spl_all (by first | rfl | simp [Value.cells, Pl.len])) ?_)
          clear hM hA; intro w13534  hM hE  a hA
          refine LQ ?_
          refine TN ?_
          refine wp_seq ?_
          refine wp_region_lit ?_
          refine L1 (stv hA (by decide) (run_move (hA.ev rfl)) ?_)
          clear hA; intro a hA
          have hM := hM.sel [1, 0, 2, 3, 4, 5, 6, 7] rfl (by decide)
          obtain ⟨r13535, H13536, H13513⟩ := Option.bind_eq_some_iff.1 H13513
          refine L1 (st_call Try.call23 hA [(.pointer (some (⟨g7760, 0, none⟩))), (.int .i64 4)] rfl (by decide) (mill_Deck_Next.calls _ (lightclientmill_Deck.mk o_1 r13528.2.At_) _ _ _ _ _ _ ((RoV.mk (hM.roC (Ms := [_]) hr1) (Eq.refl o_1.length) hc1)) (hM.front (Ms := [_])) H13536) ?_)
          clear hA; rintro _ w13537 ⟨rfl, hMc⟩ a hA
          have hM := hM.call (Ms := [_]) hMc
          clear hMc; simp only [List.cons_append, List.nil_append] at hM
          refine LQ ?_
          refine TN ?_
          refine wp_block ?_
          refine wp_seq ?_
          refine wp_region_lit ?_
          refine L1 (stv hA (by decide) (run_bin (hA.ev rfl) (hA.ev rfl) (bin_eql _ _ _ _)) ?_)
          clear hA; intro a hA
          refine L1 (stv hA (by decide) (run_assign (hA.ev rfl)) ?_)
          clear hA; intro a hA
          refine LQ ?_
          refine TN ?_
          refine tcond (b := (r13535.1 == 0)) hA rfl (fun hb13538 => ?_) (fun hb13538 => ?_)
          · replace H13513 := ite_t hb13538 H13513
            refine wp_seq ?_
            refine wp_region_lit ?_
            refine L1 (stv hA (by decide) (run_ld (hA.ev rfl) (run_loadW Try.isAgg39 Try.sizeOf39 (by simp [Pl.len]; try rfl) (hM.box (.s (.s .z))))) ?_)
            clear hA; intro a hA
            refine L1 (stv hA (by decide) (run_ld (hA.ev rfl) (run_loadP Try.isAgg34 Try.sizeOf34 (hM.box (.s .z)))) ?_)
            clear hA; intro a hA
            obtain ⟨r13539, H13540, H13513⟩ := Option.bind_eq_some_iff.1 H13513
            refine L1 (st_call Try.call15 hA [(.agg #[(.int .u32 x13448), (.bool x13449), (.slice A13452 xs13454.length c13453), (.slice A13457 xs13459.length c13458), (.slice A13462 xs13464.length c13463)]), (.agg (pHash.enc (((Vector.replicate 32 0 : Vector Int 32).setIfInBounds 0 (IntKind.u8.wrap r13528.1)))).toArray)] rfl (by decide) (relay_Fluff.calls _ (Relay.mk x13448 x13449 xs13454 xs13459 xs13464) _ _ _ _ _ _ _ ((hM.roV (p := (Pl.int .i64)) (Ms := []) (.s (.s (.s .z))))) ((hM.roV (p := pStem) (Ms := []) (.s (.s (.s (.s .z)))))) ((hM.roV (p := pHash) (Ms := []) (.s (.s (.s (.s (.s .z))))))) (hM.front (Ms := [])) H13540) ?_)
            clear hA; rintro _ w13541 ⟨v13542, v13543, v13544, rfl, hMc⟩ a hA
            have hE := hMc.below; have hM := hM.call (Ms := []) hMc
            clear hMc; simp only [List.cons_append, List.nil_append] at hM
            obtain ⟨A13546, c13547, rfl⟩ := RowOk.form (hM.row (p := (Pl.int .i64)) .z)
            obtain ⟨A13549, c13550, rfl⟩ := RowOk.form (hM.row (p := pStem) (.s .z))
            obtain ⟨A13552, c13553, rfl⟩ := RowOk.form (hM.row (p := pHash) (.s (.s .z)))
            refine L1 (stv hA (by decide) (run_move (hA.ev rfl)) ?_)
            clear hA; intro a hA
            refine L1 (stv hA (by decide) (run_ext (hA.ev rfl) rfl) ?_)
            clear hA; intro a hA
            refine L1 (stv hA (by decide) (run_ext (hA.ev rfl) rfl) ?_)
            clear hA; intro a hA
            refine L1 (e_alloc (cs := [(.int .u32 0), (.bool false), (.slice none 0 0), (.slice none 0 0), (.slice none 0 0)]) hM zero39 rfl hA (by decide) ?_)
            clear hM hA; intro w13555 g13554 hM hE  a hA
            refine L1 (e_store (g := g13554) (off := 0) (cur := [(.int .u32 0), (.bool false), (.slice none 0 0), (.slice none 0 0), (.slice none 0 0)]) (cs' := [(.int .u32 r13539.1.Epoch), (.bool r13539.1.Diffuse), (.slice A13546 r13539.1.Routes.length c13547), (.slice A13549 r13539.1.Stems.length c13550), (.slice A13552 r13539.1.Fluffed.length c13553)]) hM .z Try.sizeOf39 hA rfl (by simp [add_mk]) rfl (by first | rfl | simp [Value.cells, Pl.len]) (by simp [Value.cells, Value.oneCell']) (by first | exact Nat.le_of_ble_eq_true rfl | (simp [Pl.len]; done)) (spl_all (by first | rfl | simp [Value.cells, Pl.len])) ?_)
            clear hM hA; intro w13557  hM hE  a hA
            refine L1 (stv hA (by decide) (run_assign (hA.ev rfl)) ?_)
            clear hA; intro a hA
            refine LQ ?_
            refine TN ?_
            refine wp_seq ?_
            refine wp_region_lit ?_
            refine L1 (stv hA (by decide) (run_move (hA.ev rfl)) ?_)
            clear hA; intro a hA
            refine L1 (stv hA (by decide) (run_bin (hA.ev rfl) (hA.ev rfl) (bin_eql _ _ _ _)) ?_)
            clear hA; intro a hA
            refine LQ ?_
            refine TN ?_
            refine tcond (b := (r13539.2 == 0)) hA rfl (fun hb13558 => ?_) (fun hb13558 => ?_)
            · replace H13513 := ite_t hb13558 H13513
              obtain ⟨o13613, H13612, H13513⟩ := Option.bind_eq_some_iff.1 H13513
              refine cutC (fun a w => ∃ (xs13610 : (List (Vector Int 32))) (v13607 : Value), xs13610 = o13613 ∧ Mem F w0 w [.box g7753 39 [(.int .u32 r13539.1.Epoch), (.bool r13539.1.Diffuse), (.slice A13546 r13539.1.Routes.length c13547), (.slice A13549 r13539.1.Stems.length c13550), (.slice A13552 r13539.1.Fluffed.length c13553)], .row 3 (Pl.int .i64).sz (.slice A13546 r13539.1.Routes.length c13547) ((Pl.int .i64).flat r13539.1.Routes), .row 61 pStem.sz (.slice A13549 r13539.1.Stems.length c13550) (pStem.flat r13539.1.Stems), .row 34 pHash.sz (.slice A13552 r13539.1.Fluffed.length c13553) (pHash.flat r13539.1.Fluffed), .box g7760 63 [(.slice A1 o_1.length c1), (.int .i64 r13535.2.At_)], .row 34 pHash.sz (.slice A13470 xs13472.length c13471) (pHash.flat xs13472), .row 34 pHash.sz v13607 (pHash.flat xs13610)] ∧ Has 148 [(5, (.pointer (some (⟨g7753, 0, none⟩)))), (6, (.pointer (some (⟨g7760, 0, none⟩)))), (7, (.slice A13470 xs13472.length c13471)), (8, v13607), (9, (.int .u32 (IntKind.u32.wrap (t13480 + (IntKind.u32.wrap r13525.1)))))] a) ?_ ?_
              · obtain ⟨hl13621, H13612⟩ := ite_some H13612
                refine draw (fun w' => Below w13557.heap.size w13557 w') [4, 5] rfl ?_
                intro w13625 hw hS; replace hM := hM.ext hS; clear hw
                refine d_takef (i := 1) (L' := #[fF,tT,fF,fF,fF,fF,fF]) rfl (by kernel_rfl) rfl (fun _ _ _ h => h) hA (by decide) (fun _ => hS) (fun a w' hA => run_move (hA.ev rfl)) ?_; clear hA; intro a hA
                refine d_many (is := [0, 2]) (by kernel_rfl) (by decide) ⟨?_, ?_, trivial⟩
                · refine d_op (i := 0) (L' := #[tT,tT,fF,fF,fF,fF,fF]) rfl rfl (stv hA (by decide) (run_ld (hA.ev rfl) (run_loadW Try.isAgg39 Try.sizeOf39 (by simp [Pl.len]; try rfl) (hM.box .z))) ?_)
                  clear hA; intro a hA
                  refine ⟨fun _ => hS, ?_⟩
                  refine d_one (i := 2) (L' := #[tT,tT,tT,fF,fF,fF,fF]) (by kernel_rfl) rfl rfl (stv hA (by decide) (run_ld (hA.ev rfl) (run_loadP Try.isAgg34 Try.sizeOf34 (hM.box (.s (.s (.s (.s (.s .z)))))))) ?_)
                  clear hA; intro a hA
                  refine ⟨fun _ => hS, ?_⟩
                  refine d_one (i := 3) (L' := #[tT,tT,tT,tT,fF,fF,fF]) (by kernel_rfl) rfl rfl (e_litNL [(((Vector.replicate 32 0 : Vector Int 32).setIfInBounds 0 (IntKind.u8.wrap r13528.1)))] [(.agg (pHash.enc (((Vector.replicate 32 0 : Vector Int 32).setIfInBounds 0 (IntKind.u8.wrap r13528.1)))).toArray)] elt37 hM rfl (by decide) hA rfl rfl (List.cons_ne_nil _ _) (by decide) ?_)
                  clear hM hA; intro w13627 g13626 hM hE hlo13628 a hA
                  have hlw13629 : ∀ k, Value.ownBlock (.slice (some ⟨g13626, 0, none⟩) 1 1) = some k → w13557.heap.size ≤ k := fun k hk => by cases hk; exact Nat.le_trans hS.size hlo13628
                  replace hS := hS.trans (hE.mono hS.size)
                  refine ⟨fun _ => hS, ?_⟩
                  refine d_one (i := 4) (L' := #[tT,tT,tT,tT,tT,fF,fF]) (by kernel_rfl) rfl rfl (e_appendL elt37 hM (fun _ => (.s (.s (.s (.s (.s (.s (.s (.s (.s (.s (.s (.s .z))))))))))))) (Src.row Try.underlying37 (RowOk.row (hM.row (p := pHash) .z)) (RowOk.len (hM.row (p := pHash) .z))) hl13621 hA rfl rfl (by decide) ?_)
                  clear hM hA; intro w13632 A13630 c13631 hM hE hlo13633 a hA
                  refine ⟨fun h => absurd h (by decide), ?_⟩
                  refine d_one (i := 5) (L' := #[tT,tT,tT,tT,tT,tT,fF]) (by kernel_rfl) rfl rfl (e_store (g := g7753) (off := 0) (cur := [(.int .u32 x13448), (.bool x13449), (.slice A13452 xs13454.length c13453), (.slice A13457 xs13459.length c13458), (.slice A13462 xs13464.length c13463)]) (cs' := [(.int .u32 r13539.1.Epoch), (.bool r13539.1.Diffuse), (.slice A13546 r13539.1.Routes.length c13547), (.slice A13549 r13539.1.Stems.length c13550), (.slice A13552 r13539.1.Fluffed.length c13553)]) hM (.s (.s (.s (.s (.s (.s (.s .z))))))) Try.sizeOf39 hA rfl (by simp [add_mk]) rfl (by first | rfl | simp [Value.cells, Pl.len]) (by simp [Value.cells, Value.oneCell']) (by first | exact Nat.le_of_ble_eq_true rfl | (simp [Pl.len]; done)) (spl_all (by first | rfl | simp [Value.cells, Pl.len])) ?_)
                  clear hM hA; intro w13634  hM hE  a hA
                  refine ⟨fun h => absurd h (by decide), ?_⟩
                  refine d_takef (i := 6) (L' := #[tT,tT,tT,tT,tT,tT,tT]) rfl (by kernel_rfl) rfl (fun _ _ _ h => h) hA (by decide) (fun h => absurd h (by decide)) (fun a w' hA => run_assign (hA.ev rfl)) ?_; clear hA; intro a hA
                  refine d_done (by kernel_rfl) ?_
                  exact ⟨(xs13478 ++ [(((Vector.replicate 32 0 : Vector Int 32).setIfInBounds 0 (IntKind.u8.wrap r13528.1)))]), (.slice A13630 (xs13478.length + 1) c13631), Option.some.inj H13612, (hM.sel [7, 2, 3, 4, 5, 11, 12] rfl (by decide)), (((((hA.nil.cons (hA.get 9 _ rfl)).cons (hA.get 8 _ rfl)).cons (hA.get 7 _ rfl)).cons (hA.get 6 _ rfl)).cons (hA.get 5 _ rfl))⟩
                · refine d_op (i := 2) (L' := #[fF,tT,tT,fF,fF,fF,fF]) rfl rfl (stv hA (by decide) (run_ld (hA.ev rfl) (run_loadP Try.isAgg34 Try.sizeOf34 (hM.box (.s (.s (.s (.s (.s .z)))))))) ?_)
                  clear hA; intro a hA
                  refine ⟨fun _ => hS, ?_⟩
                  refine d_many (is := [0, 3]) (by kernel_rfl) (by decide) ⟨?_, ?_, trivial⟩
                  · refine d_op (i := 0) (L' := #[tT,tT,tT,fF,fF,fF,fF]) rfl rfl (stv hA (by decide) (run_ld (hA.ev rfl) (run_loadW Try.isAgg39 Try.sizeOf39 (by simp [Pl.len]; try rfl) (hM.box .z))) ?_)
                    clear hA; intro a hA
                    refine ⟨fun _ => hS, ?_⟩
                    refine d_one (i := 3) (L' := #[tT,tT,tT,tT,fF,fF,fF]) (by kernel_rfl) rfl rfl (e_litNL [(((Vector.replicate 32 0 : Vector Int 32).setIfInBounds 0 (IntKind.u8.wrap r13528.1)))] [(.agg (pHash.enc (((Vector.replicate 32 0 : Vector Int 32).setIfInBounds 0 (IntKind.u8.wrap r13528.1)))).toArray)] elt37 hM rfl (by decide) hA rfl rfl (List.cons_ne_nil _ _) (by decide) ?_)
                    clear hM hA; intro w13636 g13635 hM hE hlo13637 a hA
                    have hlw13638 : ∀ k, Value.ownBlock (.slice (some ⟨g13635, 0, none⟩) 1 1) = some k → w13557.heap.size ≤ k := fun k hk => by cases hk; exact Nat.le_trans hS.size hlo13637
                    replace hS := hS.trans (hE.mono hS.size)
                    refine ⟨fun _ => hS, ?_⟩
                    refine d_one (i := 4) (L' := #[tT,tT,tT,tT,tT,fF,fF]) (by kernel_rfl) rfl rfl (e_appendL elt37 hM (fun _ => (.s (.s (.s (.s (.s (.s (.s (.s (.s (.s (.s (.s .z))))))))))))) (Src.row Try.underlying37 (RowOk.row (hM.row (p := pHash) .z)) (RowOk.len (hM.row (p := pHash) .z))) hl13621 hA rfl rfl (by decide) ?_)
                    clear hM hA; intro w13641 A13639 c13640 hM hE hlo13642 a hA
                    refine ⟨fun h => absurd h (by decide), ?_⟩
                    refine d_one (i := 5) (L' := #[tT,tT,tT,tT,tT,tT,fF]) (by kernel_rfl) rfl rfl (e_store (g := g7753) (off := 0) (cur := [(.int .u32 x13448), (.bool x13449), (.slice A13452 xs13454.length c13453), (.slice A13457 xs13459.length c13458), (.slice A13462 xs13464.length c13463)]) (cs' := [(.int .u32 r13539.1.Epoch), (.bool r13539.1.Diffuse), (.slice A13546 r13539.1.Routes.length c13547), (.slice A13549 r13539.1.Stems.length c13550), (.slice A13552 r13539.1.Fluffed.length c13553)]) hM (.s (.s (.s (.s (.s (.s (.s .z))))))) Try.sizeOf39 hA rfl (by simp [add_mk]) rfl (by first | rfl | simp [Value.cells, Pl.len]) (by simp [Value.cells, Value.oneCell']) (by first | exact Nat.le_of_ble_eq_true rfl | (simp [Pl.len]; done)) (spl_all (by first | rfl | simp [Value.cells, Pl.len])) ?_)
                    clear hM hA; intro w13643  hM hE  a hA
                    refine ⟨fun h => absurd h (by decide), ?_⟩
                    refine d_takef (i := 6) (L' := #[tT,tT,tT,tT,tT,tT,tT]) rfl (by kernel_rfl) rfl (fun _ _ _ h => h) hA (by decide) (fun h => absurd h (by decide)) (fun a w' hA => run_assign (hA.ev rfl)) ?_; clear hA; intro a hA
                    refine d_done (by kernel_rfl) ?_
                    exact ⟨(xs13478 ++ [(((Vector.replicate 32 0 : Vector Int 32).setIfInBounds 0 (IntKind.u8.wrap r13528.1)))]), (.slice A13639 (xs13478.length + 1) c13640), Option.some.inj H13612, (hM.sel [7, 2, 3, 4, 5, 11, 12] rfl (by decide)), (((((hA.nil.cons (hA.get 9 _ rfl)).cons (hA.get 8 _ rfl)).cons (hA.get 7 _ rfl)).cons (hA.get 6 _ rfl)).cons (hA.get 5 _ rfl))⟩
                  · refine d_op (i := 3) (L' := #[fF,tT,tT,tT,fF,fF,fF]) rfl rfl (e_litNL [(((Vector.replicate 32 0 : Vector Int 32).setIfInBounds 0 (IntKind.u8.wrap r13528.1)))] [(.agg (pHash.enc (((Vector.replicate 32 0 : Vector Int 32).setIfInBounds 0 (IntKind.u8.wrap r13528.1)))).toArray)] elt37 hM rfl (by decide) hA rfl rfl (List.cons_ne_nil _ _) (by decide) ?_)
                    clear hM hA; intro w13645 g13644 hM hE hlo13646 a hA
                    have hlw13647 : ∀ k, Value.ownBlock (.slice (some ⟨g13644, 0, none⟩) 1 1) = some k → w13557.heap.size ≤ k := fun k hk => by cases hk; exact Nat.le_trans hS.size hlo13646
                    replace hS := hS.trans (hE.mono hS.size)
                    refine ⟨fun _ => hS, ?_⟩
                    refine d_many (is := [0, 4]) (by kernel_rfl) (by decide) ⟨?_, ?_, trivial⟩
                    · refine d_op (i := 0) (L' := #[tT,tT,tT,tT,fF,fF,fF]) rfl rfl (stv hA (by decide) (run_ld (hA.ev rfl) (run_loadW Try.isAgg39 Try.sizeOf39 (by simp [Pl.len]; try rfl) (hM.box (.s .z)))) ?_)
                      clear hA; intro a hA
                      refine ⟨fun _ => hS, ?_⟩
                      refine d_one (i := 4) (L' := #[tT,tT,tT,tT,tT,fF,fF]) (by kernel_rfl) rfl rfl (e_appendL elt37 hM (fun _ => (.s (.s (.s (.s (.s (.s (.s (.s (.s (.s (.s (.s .z))))))))))))) (Src.row Try.underlying37 (RowOk.row (hM.row (p := pHash) .z)) (RowOk.len (hM.row (p := pHash) .z))) hl13621 hA rfl rfl (by decide) ?_)
                      clear hM hA; intro w13650 A13648 c13649 hM hE hlo13651 a hA
                      refine ⟨fun h => absurd h (by decide), ?_⟩
                      refine d_one (i := 5) (L' := #[tT,tT,tT,tT,tT,tT,fF]) (by kernel_rfl) rfl rfl (e_store (g := g7753) (off := 0) (cur := [(.int .u32 x13448), (.bool x13449), (.slice A13452 xs13454.length c13453), (.slice A13457 xs13459.length c13458), (.slice A13462 xs13464.length c13463)]) (cs' := [(.int .u32 r13539.1.Epoch), (.bool r13539.1.Diffuse), (.slice A13546 r13539.1.Routes.length c13547), (.slice A13549 r13539.1.Stems.length c13550), (.slice A13552 r13539.1.Fluffed.length c13553)]) hM (.s (.s (.s (.s (.s (.s (.s .z))))))) Try.sizeOf39 hA rfl (by simp [add_mk]) rfl (by first | rfl | simp [Value.cells, Pl.len]) (by simp [Value.cells, Value.oneCell']) (by first | exact Nat.le_of_ble_eq_true rfl | (simp [Pl.len]; done)) (spl_all (by first | rfl | simp [Value.cells, Pl.len])) ?_)
                      clear hM hA; intro w13652  hM hE  a hA
                      refine ⟨fun h => absurd h (by decide), ?_⟩
                      refine d_takef (i := 6) (L' := #[tT,tT,tT,tT,tT,tT,tT]) rfl (by kernel_rfl) rfl (fun _ _ _ h => h) hA (by decide) (fun h => absurd h (by decide)) (fun a w' hA => run_assign (hA.ev rfl)) ?_; clear hA; intro a hA
                      refine d_done (by kernel_rfl) ?_
                      exact ⟨(xs13478 ++ [(((Vector.replicate 32 0 : Vector Int 32).setIfInBounds 0 (IntKind.u8.wrap r13528.1)))]), (.slice A13648 (xs13478.length + 1) c13649), Option.some.inj H13612, (hM.sel [7, 2, 3, 4, 5, 11, 12] rfl (by decide)), (((((hA.nil.cons (hA.get 9 _ rfl)).cons (hA.get 8 _ rfl)).cons (hA.get 7 _ rfl)).cons (hA.get 6 _ rfl)).cons (hA.get 5 _ rfl))⟩
                    · refine d_op (i := 4) (L' := #[fF,tT,tT,tT,tT,fF,fF]) rfl rfl (e_appendL elt37 hM (fun _ => (.s (.s (.s (.s (.s (.s (.s (.s (.s (.s (.s (.s .z))))))))))))) (Src.row Try.underlying37 (RowOk.row (hM.row (p := pHash) .z)) (RowOk.len (hM.row (p := pHash) .z))) hl13621 hA rfl rfl (by decide) ?_)
                      clear hM hA; intro w13655 A13653 c13654 hM hE hlo13656 a hA
                      refine ⟨fun h => absurd h (by decide), ?_⟩
                      refine d_one (i := 0) (L' := #[tT,tT,tT,tT,tT,fF,fF]) (by kernel_rfl) rfl rfl (stv hA (by decide) (run_ld (hA.ev rfl) (run_loadW Try.isAgg39 Try.sizeOf39 (by simp [Pl.len]; try rfl) (hM.box (.s .z)))) ?_)
                      clear hA; intro a hA
                      refine ⟨fun h => absurd h (by decide), ?_⟩
                      refine d_one (i := 5) (L' := #[tT,tT,tT,tT,tT,tT,fF]) (by kernel_rfl) rfl rfl (e_store (g := g7753) (off := 0) (cur := [(.int .u32 x13448), (.bool x13449), (.slice A13452 xs13454.length c13453), (.slice A13457 xs13459.length c13458), (.slice A13462 xs13464.length c13463)]) (cs' := [(.int .u32 r13539.1.Epoch), (.bool r13539.1.Diffuse), (.slice A13546 r13539.1.Routes.length c13547), (.slice A13549 r13539.1.Stems.length c13550), (.slice A13552 r13539.1.Fluffed.length c13553)]) hM (.s (.s (.s (.s (.s (.s (.s .z))))))) Try.sizeOf39 hA rfl (by simp [add_mk]) rfl (by first | rfl | simp [Value.cells, Pl.len]) (by simp [Value.cells, Value.oneCell']) (by first | exact Nat.le_of_ble_eq_true rfl | (simp [Pl.len]; done)) (spl_all (by first | rfl | simp [Value.cells, Pl.len])) ?_)
                      clear hM hA; intro w13657  hM hE  a hA
                      refine ⟨fun h => absurd h (by decide), ?_⟩
                      refine d_takef (i := 6) (L' := #[tT,tT,tT,tT,tT,tT,tT]) rfl (by kernel_rfl) rfl (fun _ _ _ h => h) hA (by decide) (fun h => absurd h (by decide)) (fun a w' hA => run_assign (hA.ev rfl)) ?_; clear hA; intro a hA
                      refine d_done (by kernel_rfl) ?_
                      exact ⟨(xs13478 ++ [(((Vector.replicate 32 0 : Vector Int 32).setIfInBounds 0 (IntKind.u8.wrap r13528.1)))]), (.slice A13653 (xs13478.length + 1) c13654), Option.some.inj H13612, (hM.sel [7, 2, 3, 4, 5, 11, 12] rfl (by decide)), (((((hA.nil.cons (hA.get 9 _ rfl)).cons (hA.get 8 _ rfl)).cons (hA.get 7 _ rfl)).cons (hA.get 6 _ rfl)).cons (hA.get 5 _ rfl))⟩
              clear hM hA
              rintro a w13658 ⟨xs13610, v13607, rfl, hM, hA⟩
              try dsimp only at H13513
              obtain ⟨A13608, c13609, rfl⟩ := RowOk.form (hM.row (p := pHash) (.s (.s (.s (.s (.s (.s .z)))))))
              refine BN ?_
              refine BN ?_
              exact ⟨_, Nat.lt_succ_self m13519, r13539.1.Epoch, r13539.1.Diffuse, r13539.1.Routes, r13539.1.Stems, r13539.1.Fluffed, r13535.2.At_, xs13472, xs13610, IntKind.u32.wrap (t13480 + (IntKind.u32.wrap r13525.1)), (.slice A13546 r13539.1.Routes.length c13547), (.slice A13549 r13539.1.Stems.length c13550), (.slice A13552 r13539.1.Fluffed.length c13553), (.slice A13470 xs13472.length c13471), (.slice A13608 xs13610.length c13609), H13513, hM, (((((hA.nil.cons (hA.get 9 _ rfl)).cons (hA.get 8 _ rfl)).cons (hA.get 7 _ rfl)).cons (hA.get 6 _ rfl)).cons (hA.get 5 _ rfl))⟩
            · replace H13513 := ite_f hb13558 H13513
              refine wp_skip ?_
              refine BN ?_
              refine BN ?_
              exact ⟨_, Nat.lt_succ_self m13519, x13448, x13449, xs13454, xs13459, xs13464, r13535.2.At_, xs13472, xs13478, IntKind.u32.wrap (t13480 + (IntKind.u32.wrap r13525.1)), (.slice A13452 xs13454.length c13453), (.slice A13457 xs13459.length c13458), (.slice A13462 xs13464.length c13463), (.slice A13470 xs13472.length c13471), (.slice A13476 xs13478.length c13477), H13513, (hM.sel [6, 7, 8, 9, 4, 10, 11] rfl (by decide)), (((((hA.nil.cons (hA.get 9 _ rfl)).cons (hA.get 8 _ rfl)).cons (hA.get 7 _ rfl)).cons (hA.get 6 _ rfl)).cons (hA.get 5 _ rfl))⟩
          · replace H13513 := ite_f hb13538 H13513
            refine wp_seq ?_
            refine wp_region_lit ?_
            refine L1 (stv hA (by decide) (run_bin (hA.ev rfl) (hA.ev rfl) (bin_eql _ _ _ _)) ?_)
            clear hA; intro a hA
            refine L1 (stv hA (by decide) (run_assign (hA.ev rfl)) ?_)
            clear hA; intro a hA
            refine LQ ?_
            refine TN ?_
            refine tcond (b := (r13535.1 == 1)) hA rfl (fun hb13659 => ?_) (fun hb13659 => ?_)
            · replace H13513 := ite_t hb13659 H13513
              refine wp_seq ?_
              refine wp_region_lit ?_
              refine L1 (stv hA (by decide) (run_ld (hA.ev rfl) (run_loadW Try.isAgg39 Try.sizeOf39 (by simp [Pl.len]; try rfl) (hM.box (.s (.s .z))))) ?_)
              clear hA; intro a hA
              refine L1 (stv hA (by decide) (run_move (hA.ev rfl)) ?_)
              clear hA; intro a hA
              obtain ⟨r13660, H13661, H13513⟩ := Option.bind_eq_some_iff.1 H13513
              refine L1 (st_call Try.call18 hA [(.agg #[(.int .u32 x13448), (.bool x13449), (.slice A13452 xs13454.length c13453), (.slice A13457 xs13459.length c13458), (.slice A13462 xs13464.length c13463)]), (.int .u32 (IntKind.u32.wrap (t13480 + (IntKind.u32.wrap r13525.1))))] rfl (by decide) (relay_Due.calls _ (Relay.mk x13448 x13449 xs13454 xs13459 xs13464) _ _ _ _ _ _ _ ((hM.roV (p := (Pl.int .i64)) (Ms := []) (.s (.s (.s .z))))) ((hM.roV (p := pStem) (Ms := []) (.s (.s (.s (.s .z)))))) ((hM.roV (p := pHash) (Ms := []) (.s (.s (.s (.s (.s .z))))))) (hM.front (Ms := [])) H13661) ?_)
              clear hA; rintro _ w13662 ⟨v13663, v13664, v13665, v13666, rfl, hMc⟩ a hA
              have hE := hMc.below; have hM := hM.call (Ms := []) hMc
              clear hMc; simp only [List.cons_append, List.nil_append] at hM
              obtain ⟨A13668, c13669, rfl⟩ := RowOk.form (hM.row (p := (Pl.int .i64)) .z)
              obtain ⟨A13671, c13672, rfl⟩ := RowOk.form (hM.row (p := pStem) (.s .z))
              obtain ⟨A13674, c13675, rfl⟩ := RowOk.form (hM.row (p := pHash) (.s (.s .z)))
              obtain ⟨A13677, c13678, rfl⟩ := RowOk.form (hM.row (p := pHash) (.s (.s (.s .z))))
              refine L1 (stv hA (by decide) (run_move (hA.ev rfl)) ?_)
              clear hA; intro a hA
              refine L1 (stv hA (by decide) (run_ext (hA.ev rfl) rfl) ?_)
              clear hA; intro a hA
              refine L1 (stv hA (by decide) (run_ext (hA.ev rfl) rfl) ?_)
              clear hA; intro a hA
              refine L1 (e_alloc (cs := [(.int .u32 0), (.bool false), (.slice none 0 0), (.slice none 0 0), (.slice none 0 0)]) hM zero39 rfl hA (by decide) ?_)
              clear hM hA; intro w13680 g13679 hM hE  a hA
              refine L1 (e_store (g := g13679) (off := 0) (cur := [(.int .u32 0), (.bool false), (.slice none 0 0), (.slice none 0 0), (.slice none 0 0)]) (cs' := [(.int .u32 r13660.1.Epoch), (.bool r13660.1.Diffuse), (.slice A13668 r13660.1.Routes.length c13669), (.slice A13671 r13660.1.Stems.length c13672), (.slice A13674 r13660.1.Fluffed.length c13675)]) hM .z Try.sizeOf39 hA rfl (by simp [add_mk]) rfl (by first | rfl | simp [Value.cells, Pl.len]) (by simp [Value.cells, Value.oneCell']) (by first | exact Nat.le_of_ble_eq_true rfl | (simp [Pl.len]; done)) (spl_all (by first | rfl | simp [Value.cells, Pl.len])) ?_)
              clear hM hA; intro w13682  hM hE  a hA
              refine L1 (stv hA (by decide) (run_assign (hA.ev rfl)) ?_)
              clear hA; intro a hA
              refine LQ ?_
              refine TN ?_
              refine wp_seq ?_
              refine wp_region_lit ?_
              refine L1 (stv hA (by decide) (run_ld (hA.ev rfl) (run_loadW Try.isAgg39 Try.sizeOf39 (by simp [Pl.len]; try rfl) (hM.box .z))) ?_)
              clear hA; intro a hA
              refine L1 (e_store (g := g7753) (off := 0) (cur := [(.int .u32 x13448), (.bool x13449), (.slice A13452 xs13454.length c13453), (.slice A13457 xs13459.length c13458), (.slice A13462 xs13464.length c13463)]) (cs' := [(.int .u32 r13660.1.Epoch), (.bool r13660.1.Diffuse), (.slice A13668 r13660.1.Routes.length c13669), (.slice A13671 r13660.1.Stems.length c13672), (.slice A13674 r13660.1.Fluffed.length c13675)]) hM (.s (.s (.s (.s (.s (.s (.s .z))))))) Try.sizeOf39 hA rfl (by simp [add_mk]) rfl (by first | rfl | simp [Value.cells, Pl.len]) (by simp [Value.cells, Value.oneCell']) (by first | exact Nat.le_of_ble_eq_true rfl | (simp [Pl.len]; done)) (spl_all (by first | rfl | simp [Value.cells, Pl.len])) ?_)
              clear hM hA; intro w13683  hM hE  a hA
              refine LQ ?_
              refine TN ?_
              refine wp_seq ?_
              refine wp_region_lit ?_
              refine L1 (stv hA (by decide) (run_move (hA.ev rfl)) ?_)
              clear hA; intro a hA
              refine L1 (stv hA (by decide) (run_len_slice Try.underlying37 (hA.ev rfl)) ?_)
              clear hA; intro a hA
              refine L1 (stv hA (by decide) (run_move (hA.ev rfl)) ?_)
              clear hA; intro a hA
              refine LQ ?_
              refine TN ?_
              obtain ⟨o14259, H14258, H13513⟩ := Option.bind_eq_some_iff.1 H13513
              refine cutC (fun a w => ∃ (x14233 : Int) (x14234 : Bool) (xs14239 : (List Int)) (xs14244 : (List Stem)) (xs14249 : (List (Vector Int 32))) (xs14256 : (List (Vector Int 32))) (v14236 : Value) (v14241 : Value) (v14246 : Value) (v14253 : Value), (.go (x14233, x14234, xs14239, xs14244, xs14249, xs14256)) = o14259 ∧ Mem F w0 w [.box g7753 39 [(.int .u32 x14233), (.bool x14234), v14236, v14241, v14246], .row 3 (Pl.int .i64).sz v14236 ((Pl.int .i64).flat xs14239), .row 61 pStem.sz v14241 (pStem.flat xs14244), .row 34 pHash.sz v14246 (pHash.flat xs14249), .box g7760 63 [(.slice A1 o_1.length c1), (.int .i64 r13535.2.At_)], .row 34 pHash.sz (.slice A13470 xs13472.length c13471) (pHash.flat xs13472), .row 34 pHash.sz v14253 (pHash.flat xs14256)] ∧ Has 148 [(5, (.pointer (some (⟨g7753, 0, none⟩)))), (6, (.pointer (some (⟨g7760, 0, none⟩)))), (7, (.slice A13470 xs13472.length c13471)), (8, v14253), (9, (.int .u32 (IntKind.u32.wrap (t13480 + (IntKind.u32.wrap r13525.1)))))] a) ?_ ?_
              · refine wp_block ?_
                refine wp_loop_ghost (fun m a w => ∃ (x14206 : Int) (x14207 : Bool) (xs14212 : (List Int)) (xs14217 : (List Stem)) (xs14222 : (List (Vector Int 32))) (xs14229 : (List (Vector Int 32))) (x14231 : Int) (v14209 : Value) (v14214 : Value) (v14219 : Value) (v14226 : Value), law40_RelayEnds.l1 xs13472 r13660 m x14206 x14207 xs14212 xs14217 xs14222 xs14229 x14231 = some o14259 ∧ Mem F w0 w [.box g7753 39 [(.int .u32 x14206), (.bool x14207), v14209, v14214, v14219], .row 3 (Pl.int .i64).sz v14209 ((Pl.int .i64).flat xs14212), .row 61 pStem.sz v14214 (pStem.flat xs14217), .row 34 pHash.sz v14219 (pHash.flat xs14222), .box g7760 63 [(.slice A1 o_1.length c1), (.int .i64 r13535.2.At_)], .row 34 pHash.sz (.slice A13470 xs13472.length c13471) (pHash.flat xs13472), .row 34 pHash.sz v14226 (pHash.flat xs14229), .row 34 pHash.sz (.slice A13677 r13660.2.length c13678) (pHash.flat r13660.2)] ∧ Has 148 [(5, (.pointer (some (⟨g7753, 0, none⟩)))), (6, (.pointer (some (⟨g7760, 0, none⟩)))), (7, (.slice A13470 xs13472.length c13471)), (8, v14226), (9, (.int .u32 (IntKind.u32.wrap (t13480 + (IntKind.u32.wrap r13525.1))))), (94, (.slice A13677 r13660.2.length c13678)), (95, (.int .i64 ((r13660.2.length : Nat) : Int))), (96, (.int .i64 x14231))] a) m13519 ⟨r13660.1.Epoch, r13660.1.Diffuse, r13660.1.Routes, r13660.1.Stems, r13660.1.Fluffed, xs13478, 0, (.slice A13668 r13660.1.Routes.length c13669), (.slice A13671 r13660.1.Stems.length c13672), (.slice A13674 r13660.1.Fluffed.length c13675), (.slice A13476 xs13478.length c13477), H14258, (hM.sel [7, 1, 2, 3, 5, 11, 12, 4] rfl (by decide)), ((((((((hA.nil.cons (hA.get 96 _ rfl)).cons (hA.get 95 _ rfl)).cons (hA.get 94 _ rfl)).cons (hA.get 9 _ rfl)).cons (hA.get 8 _ rfl)).cons (hA.get 7 _ rfl)).cons (hA.get 6 _ rfl)).cons (hA.get 5 _ rfl))⟩ ?_
                clear hM hA; rintro m14260 a w14261 ⟨x14206, x14207, xs14212, xs14217, xs14222, xs14229, x14231, v14209, v14214, v14219, v14226, H14258, hM, hA⟩
                cases m14260 with
                | zero => exact absurd H14258 (by simp [law40_RelayEnds.l1])
                | succ m14260 =>
                rw [law40_RelayEnds.l1] at H14258
                obtain ⟨A14210, c14211, rfl⟩ := RowOk.form (hM.row (p := (Pl.int .i64)) (.s .z))
                obtain ⟨A14215, c14216, rfl⟩ := RowOk.form (hM.row (p := pStem) (.s (.s .z)))
                obtain ⟨A14220, c14221, rfl⟩ := RowOk.form (hM.row (p := pHash) (.s (.s (.s .z))))
                obtain ⟨A14227, c14228, rfl⟩ := RowOk.form (hM.row (p := pHash) (.s (.s (.s (.s (.s (.s .z)))))))
                refine wp_seq ?_
                refine wp_region_lit ?_
                refine L1 (stv hA (by decide) (run_bin (hA.ev rfl) (hA.ev rfl) (bin_lss _ _ _ _)) ?_)
                clear hA; intro a hA
                refine LQ ?_
                refine TN ?_
                refine wp_seq ?_
                refine tcond (b := (decide (x14231 < ((r13660.2.length : Nat) : Int)))) hA rfl (fun hb14262 => ?_) (fun hb14262 => ?_)
                · replace H14258 := ite_t hb14262 H14258
                  refine wp_skip ?_
                  refine TN ?_
                  refine wp_seq ?_
                  refine wp_block ?_
                  refine wp_seq ?_
                  refine wp_region_lit ?_
                  obtain ⟨⟨hi14263, hj14264⟩, H14258⟩ := ite_some H14258
                  obtain ⟨ad14265, hq14266, hat14267⟩ := Row.elem' (p := pHash) (RowOk.row (hM.row (p := pHash) (.s (.s (.s (.s (.s (.s (.s .z))))))))) (RowOk.len (hM.row (p := pHash) (.s (.s (.s (.s (.s (.s (.s .z))))))))) (Vector.replicate 32 0 : Vector Int 32) x14231 hi14263 hj14264
                  refine L1 (stv hA (by decide) (run_idx Try.underlying37 Try.sizeOf34 (hA.ev rfl) hq14266 (hA.ev rfl) hi14263 hj14264) ?_)
                  clear hA; intro a hA
                  refine L1 (stv hA (by decide) (run_ld (hA.ev rfl) (run_loadP Try.isAgg34 Try.sizeOf34 hat14267)) ?_)
                  clear hA; intro a hA
                  refine L1 (e_alloc (cs := (pHash.enc (Vector.replicate 32 0 : Vector Int 32))) hM zero34 rfl hA (by decide) ?_)
                  clear hM hA; intro w14269 g14268 hM hE  a hA
                  refine L1 (e_store (g := g14268) (off := 0) (cur := (pHash.enc (Vector.replicate 32 0 : Vector Int 32))) (cs' := (pHash.enc (r13660.2.getD x14231.toNat (Vector.replicate 32 0 : Vector Int 32)))) hM .z Try.sizeOf34 hA rfl (by simp [add_mk]) rfl (agg_size _ _) (agg_one _ _) (Nat.le_of_ble_eq_true (enc_fitL _ _ rfl)) (spl_all (by first | rfl | simp [Value.cells, Pl.len])) ?_)
                  clear hM hA; intro w14271  hM hE  a hA
                  refine LQ ?_
                  refine TN ?_
                  refine wp_seq ?_
                  refine wp_seq ?_
                  obtain ⟨o14286, H14285, H14258⟩ := Option.bind_eq_some_iff.1 H14258
                  refine cutC (fun a w => ∃ (x14284 : Bool), x14284 = o14286 ∧ Mem F w0 w [.box g7753 39 [(.int .u32 x14206), (.bool x14207), (.slice A14210 xs14212.length c14211), (.slice A14215 xs14217.length c14216), (.slice A14220 xs14222.length c14221)], .row 3 (Pl.int .i64).sz (.slice A14210 xs14212.length c14211) ((Pl.int .i64).flat xs14212), .row 61 pStem.sz (.slice A14215 xs14217.length c14216) (pStem.flat xs14217), .row 34 pHash.sz (.slice A14220 xs14222.length c14221) (pHash.flat xs14222), .box g7760 63 [(.slice A1 o_1.length c1), (.int .i64 r13535.2.At_)], .row 34 pHash.sz (.slice A13470 xs13472.length c13471) (pHash.flat xs13472), .row 34 pHash.sz (.slice A14227 xs14229.length c14228) (pHash.flat xs14229), .box g14268 34 (pHash.enc (r13660.2.getD x14231.toNat (Vector.replicate 32 0 : Vector Int 32))), .row 34 pHash.sz (.slice A13677 r13660.2.length c13678) (pHash.flat r13660.2)] ∧ Has 148 [(5, (.pointer (some (⟨g7753, 0, none⟩)))), (6, (.pointer (some (⟨g7760, 0, none⟩)))), (7, (.slice A13470 xs13472.length c13471)), (8, (.slice A14227 xs14229.length c14228)), (9, (.int .u32 (IntKind.u32.wrap (t13480 + (IntKind.u32.wrap r13525.1))))), (16, (.pointer (some (⟨g14268, 0, none⟩)))), (94, (.slice A13677 r13660.2.length c13678)), (95, (.int .i64 ((r13660.2.length : Nat) : Int))), (96, (.int .i64 x14231)), (108, (.bool x14284))] a) ?_ ?_
                  · refine wp_region_lit ?_
                    refine L1 (stv hA (by decide) (run_move (hA.ev rfl)) ?_)
                    clear hA; intro a hA
                    refine L1 (stv hA (by decide) (run_ld (hA.ev rfl) (run_loadP Try.isAgg34 Try.sizeOf34 (hM.box .z))) ?_)
                    clear hA; intro a hA
                    obtain ⟨r14287, H14288, H14285⟩ := Option.bind_eq_some_iff.1 H14285
                    refine L1 (st_call Try.call24 hA [(.slice A14227 xs14229.length c14228), (.agg (pHash.enc (r13660.2.getD x14231.toNat (Vector.replicate 32 0 : Vector Int 32))).toArray)] rfl (by decide) (law40_has.calls _ _ _ _ _ _ _ ((hM.roV (p := pHash) (Ms := []) (.s (.s (.s (.s (.s (.s (.s .z))))))))) (hM.front (Ms := [])) H14288) ?_)
                    clear hA; rintro _ w14289 ⟨rfl, hMc⟩ a hA
                    have hE := hMc.below; have hM := hM.call (Ms := []) hMc
                    clear hMc; simp only [List.cons_append, List.nil_append] at hM
                    refine L1 (stv hA (by decide) (run_move (hA.ev rfl)) ?_)
                    clear hA; intro a hA
                    refine bsplit (b := r14287) (fun hb14290 => ?_) (fun hb14290 => ?_)
                    · replace H14285 := ite_t hb14290 H14285
                      have hA := hA.re (t := 103) rfl (congrArg Value.bool hb14290)
                      refine L1 (gate_off rfl (by decide) rfl hA (by decide) rfl rfl ?_); clear hA; intro a hA
                      refine L1 (gate_off rfl (by decide) rfl hA (by decide) rfl rfl ?_); clear hA; intro a hA
                      refine L1 (gate_off rfl (by decide) rfl hA (by decide) rfl rfl ?_); clear hA; intro a hA
                      refine L1 (gate_off rfl (by decide) rfl hA (by decide) rfl rfl ?_); clear hA; intro a hA
                      refine L1 (stv hA (by decide) (run_pick (hA.ev rfl) (fun _ => hA.ev rfl) (fun h => Bool.noConfusion h)) ?_)
                      clear hA; intro a hA
                      refine LQ ?_
                      exact ⟨true, Option.some.inj H14285, (hM.sel [1, 2, 3, 4, 5, 6, 7, 0, 8] rfl (by decide)), ((((((((((hA.nil.cons (hA.get 108 _ rfl)).cons (hA.get 96 _ rfl)).cons (hA.get 95 _ rfl)).cons (hA.get 94 _ rfl)).cons (hA.get 16 _ rfl)).cons (hA.get 9 _ rfl)).cons (hA.get 8 _ rfl)).cons (hA.get 7 _ rfl)).cons (hA.get 6 _ rfl)).cons (hA.get 5 _ rfl))⟩
                    · replace H14285 := ite_f hb14290 H14285
                      have hA := hA.re (t := 103) rfl (congrArg Value.bool hb14290)
                      refine L1 (gate_on rfl rfl hA (by decide) rfl (stv hA (by decide) (run_move (hA.ev rfl)) ?_))
                      clear hA; intro a hA
                      refine L1 (gate_on rfl rfl hA (by decide) rfl (stv hA (by decide) (run_ld (hA.ev rfl) (run_loadP Try.isAgg34 Try.sizeOf34 (hM.box .z))) ?_))
                      clear hA; intro a hA
                      obtain ⟨r14291, H14292, H14285⟩ := Option.bind_eq_some_iff.1 H14285
                      refine L1 (gate_on rfl rfl hA (by decide) rfl (st_call Try.call24 hA [(.slice A13470 xs13472.length c13471), (.agg (pHash.enc (r13660.2.getD x14231.toNat (Vector.replicate 32 0 : Vector Int 32))).toArray)] rfl (by decide) (law40_has.calls _ _ _ _ _ _ _ ((hM.roV (p := pHash) (Ms := []) (.s (.s (.s (.s (.s (.s .z)))))))) (hM.front (Ms := [])) H14292) ?_))
                      clear hA; rintro _ w14293 ⟨rfl, hMc⟩ a hA
                      have hE := hMc.below; have hM := hM.call (Ms := []) hMc
                      clear hMc; simp only [List.cons_append, List.nil_append] at hM
                      refine L1 (gate_on rfl rfl hA (by decide) rfl (stv hA (by decide) (run_not (hA.ev rfl)) ?_))
                      clear hA; intro a hA
                      refine L1 (stv hA (by decide) (run_pick (hA.ev rfl) (fun h => Bool.noConfusion h) (fun _ => hA.ev rfl)) ?_)
                      clear hA; intro a hA
                      refine LQ ?_
                      exact ⟨(!r14291), Option.some.inj H14285, (hM.sel [1, 2, 3, 4, 5, 6, 7, 0, 8] rfl (by decide)), ((((((((((hA.nil.cons (hA.get 108 _ rfl)).cons (hA.get 96 _ rfl)).cons (hA.get 95 _ rfl)).cons (hA.get 94 _ rfl)).cons (hA.get 16 _ rfl)).cons (hA.get 9 _ rfl)).cons (hA.get 8 _ rfl)).cons (hA.get 7 _ rfl)).cons (hA.get 6 _ rfl)).cons (hA.get 5 _ rfl))⟩
                  clear hM hA
                  rintro a w14294 ⟨x14284, rfl, hM, hA⟩
                  try dsimp only at H14258
                  refine TN ?_
                  refine tcond (b := x14284) hA rfl (fun hb14295 => ?_) (fun hb14295 => ?_)
                  · replace H14258 := ite_t hb14295 H14258
                    refine wp_seq ?_
                    refine wp_region_lit ?_
                    refine L1 (stv hA (by decide) (run_assign (hA.ev rfl)) ?_)
                    clear hA; intro a hA
                    refine LQ ?_
                    refine TN ?_
                    refine wp_ret ?_
                    obtain rfl := Option.some.inj H14258
                    dsimp only at H13513
                    obtain rfl := Option.some.inj H13513
                    dsimp only at H
                    obtain rfl := Option.some.inj H
                    refine TR ?_
                    refine BR ?_
                    refine TR ?_
                    refine TR ?_
                    refine BR ?_
                    refine TR ?_
                    refine BR ?_
                    refine BR ?_
                    refine TR ?_
                    refine BR ?_
                    refine TR ?_
                    refine TR ?_
                    exact ret_post1 (fn := Try.f6) hA rfl rfl ⟨_, rfl, rfl, (hM.sel [] rfl (by decide))⟩
                  · replace H14258 := ite_f hb14295 H14258
                    refine wp_skip ?_
                    refine TN ?_
                    refine wp_seq ?_
                    refine wp_region_lit ?_
                    refine L1 (stv hA (by decide) (run_ld (hA.ev rfl) (run_loadW Try.isAgg39 Try.sizeOf39 (by simp [Pl.len]; try rfl) (hM.box .z))) ?_)
                    clear hA; intro a hA
                    refine L1 (stv hA (by decide) (run_ld (hA.ev rfl) (run_loadP Try.isAgg34 Try.sizeOf34 (hM.box (.s (.s (.s (.s (.s (.s (.s .z)))))))))) ?_)
                    clear hA; intro a hA
                    obtain ⟨r14296, H14297, H14258⟩ := Option.bind_eq_some_iff.1 H14258
                    refine L1 (st_call Try.call15 hA [(.agg #[(.int .u32 x14206), (.bool x14207), (.slice A14210 xs14212.length c14211), (.slice A14215 xs14217.length c14216), (.slice A14220 xs14222.length c14221)]), (.agg (pHash.enc (r13660.2.getD x14231.toNat (Vector.replicate 32 0 : Vector Int 32))).toArray)] rfl (by decide) (relay_Fluff.calls _ (Relay.mk x14206 x14207 xs14212 xs14217 xs14222) _ _ _ _ _ _ _ ((hM.roV (p := (Pl.int .i64)) (Ms := []) (.s .z))) ((hM.roV (p := pStem) (Ms := []) (.s (.s .z)))) ((hM.roV (p := pHash) (Ms := []) (.s (.s (.s .z))))) (hM.front (Ms := [])) H14297) ?_)
                    clear hA; rintro _ w14298 ⟨v14299, v14300, v14301, rfl, hMc⟩ a hA
                    have hE := hMc.below; have hM := hM.call (Ms := []) hMc
                    clear hMc; simp only [List.cons_append, List.nil_append] at hM
                    obtain ⟨A14303, c14304, rfl⟩ := RowOk.form (hM.row (p := (Pl.int .i64)) .z)
                    obtain ⟨A14306, c14307, rfl⟩ := RowOk.form (hM.row (p := pStem) (.s .z))
                    obtain ⟨A14309, c14310, rfl⟩ := RowOk.form (hM.row (p := pHash) (.s (.s .z)))
                    refine L1 (stv hA (by decide) (run_move (hA.ev rfl)) ?_)
                    clear hA; intro a hA
                    refine L1 (stv hA (by decide) (run_ext (hA.ev rfl) rfl) ?_)
                    clear hA; intro a hA
                    refine L1 (stv hA (by decide) (run_ext (hA.ev rfl) rfl) ?_)
                    clear hA; intro a hA
                    refine L1 (e_alloc (cs := [(.int .u32 0), (.bool false), (.slice none 0 0), (.slice none 0 0), (.slice none 0 0)]) hM zero39 rfl hA (by decide) ?_)
                    clear hM hA; intro w14312 g14311 hM hE  a hA
                    refine L1 (e_store (g := g14311) (off := 0) (cur := [(.int .u32 0), (.bool false), (.slice none 0 0), (.slice none 0 0), (.slice none 0 0)]) (cs' := [(.int .u32 r14296.1.Epoch), (.bool r14296.1.Diffuse), (.slice A14303 r14296.1.Routes.length c14304), (.slice A14306 r14296.1.Stems.length c14307), (.slice A14309 r14296.1.Fluffed.length c14310)]) hM .z Try.sizeOf39 hA rfl (by simp [add_mk]) rfl (by first | rfl | simp [Value.cells, Pl.len]) (by simp [Value.cells, Value.oneCell']) (by first | exact Nat.le_of_ble_eq_true rfl | (simp [Pl.len]; done)) (spl_all (by first | rfl | simp [Value.cells, Pl.len])) ?_)
                    clear hM hA; intro w14314  hM hE  a hA
                    refine L1 (stv hA (by decide) (run_assign (hA.ev rfl)) ?_)
                    clear hA; intro a hA
                    refine LQ ?_
                    refine TN ?_
                    refine wp_seq ?_
                    refine wp_seq ?_
                    refine wp_region_lit ?_
                    refine L1 (stv hA (by decide) (run_move (hA.ev rfl)) ?_)
                    clear hA; intro a hA
                    refine L1 (stv hA (by decide) (run_bin (hA.ev rfl) (hA.ev rfl) (bin_neq _ _ _ _)) ?_)
                    clear hA; intro a hA
                    refine LQ ?_
                    refine TN ?_
                    refine tcond (b := (r14296.2 != 0)) hA rfl (fun hb14315 => ?_) (fun hb14315 => ?_)
                    · replace H14258 := ite_t hb14315 H14258
                      refine wp_seq ?_
                      refine wp_region_lit ?_
                      refine L1 (stv hA (by decide) (run_assign (hA.ev rfl)) ?_)
                      clear hA; intro a hA
                      refine LQ ?_
                      refine TN ?_
                      refine wp_ret ?_
                      obtain rfl := Option.some.inj H14258
                      dsimp only at H13513
                      obtain rfl := Option.some.inj H13513
                      dsimp only at H
                      obtain rfl := Option.some.inj H
                      refine TR ?_
                      refine BR ?_
                      refine TR ?_
                      refine TR ?_
                      refine BR ?_
                      refine TR ?_
                      refine BR ?_
                      refine BR ?_
                      refine TR ?_
                      refine BR ?_
                      refine TR ?_
                      refine TR ?_
                      exact ret_post1 (fn := Try.f6) hA rfl rfl ⟨_, rfl, rfl, (hM.sel [] rfl (by decide))⟩
                    · replace H14258 := ite_f hb14315 H14258
                      refine wp_skip ?_
                      refine TN ?_
                      obtain ⟨o14370, H14369, H14258⟩ := Option.bind_eq_some_iff.1 H14258
                      refine cutC (fun a w => ∃ (xs14367 : (List (Vector Int 32))) (v14364 : Value), xs14367 = o14370 ∧ Mem F w0 w [.box g7753 39 [(.int .u32 r14296.1.Epoch), (.bool r14296.1.Diffuse), (.slice A14303 r14296.1.Routes.length c14304), (.slice A14306 r14296.1.Stems.length c14307), (.slice A14309 r14296.1.Fluffed.length c14310)], .row 3 (Pl.int .i64).sz (.slice A14303 r14296.1.Routes.length c14304) ((Pl.int .i64).flat r14296.1.Routes), .row 61 pStem.sz (.slice A14306 r14296.1.Stems.length c14307) (pStem.flat r14296.1.Stems), .row 34 pHash.sz (.slice A14309 r14296.1.Fluffed.length c14310) (pHash.flat r14296.1.Fluffed), .box g7760 63 [(.slice A1 o_1.length c1), (.int .i64 r13535.2.At_)], .row 34 pHash.sz (.slice A13470 xs13472.length c13471) (pHash.flat xs13472), .row 34 pHash.sz v14364 (pHash.flat xs14367), .row 34 pHash.sz (.slice A13677 r13660.2.length c13678) (pHash.flat r13660.2)] ∧ Has 148 [(5, (.pointer (some (⟨g7753, 0, none⟩)))), (6, (.pointer (some (⟨g7760, 0, none⟩)))), (7, (.slice A13470 xs13472.length c13471)), (8, v14364), (9, (.int .u32 (IntKind.u32.wrap (t13480 + (IntKind.u32.wrap r13525.1))))), (94, (.slice A13677 r13660.2.length c13678)), (95, (.int .i64 ((r13660.2.length : Nat) : Int))), (96, (.int .i64 x14231))] a) ?_ ?_
                      · obtain ⟨hl14378, H14369⟩ := ite_some H14369
                        refine draw (fun w' => Below w14314.heap.size w14314 w') [4, 5] rfl ?_
                        intro w14382 hw hS; replace hM := hM.ext hS; clear hw
                        refine d_takef (i := 1) (L' := #[fF,tT,fF,fF,fF,fF,fF]) rfl (by kernel_rfl) rfl (fun _ _ _ h => h) hA (by decide) (fun _ => hS) (fun a w' hA => run_move (hA.ev rfl)) ?_; clear hA; intro a hA
                        refine d_many (is := [0, 2]) (by kernel_rfl) (by decide) ⟨?_, ?_, trivial⟩
                        · refine d_op (i := 0) (L' := #[tT,tT,fF,fF,fF,fF,fF]) rfl rfl (stv hA (by decide) (run_ld (hA.ev rfl) (run_loadW Try.isAgg39 Try.sizeOf39 (by simp [Pl.len]; try rfl) (hM.box .z))) ?_)
                          clear hA; intro a hA
                          refine ⟨fun _ => hS, ?_⟩
                          refine d_one (i := 2) (L' := #[tT,tT,tT,fF,fF,fF,fF]) (by kernel_rfl) rfl rfl (stv hA (by decide) (run_ld (hA.ev rfl) (run_loadP Try.isAgg34 Try.sizeOf34 (hM.box (.s (.s (.s (.s (.s (.s (.s (.s (.s (.s (.s .z)))))))))))))) ?_)
                          clear hA; intro a hA
                          refine ⟨fun _ => hS, ?_⟩
                          refine d_one (i := 3) (L' := #[tT,tT,tT,tT,fF,fF,fF]) (by kernel_rfl) rfl rfl (e_litNL [(r13660.2.getD x14231.toNat (Vector.replicate 32 0 : Vector Int 32))] [(.agg (pHash.enc (r13660.2.getD x14231.toNat (Vector.replicate 32 0 : Vector Int 32))).toArray)] elt37 hM rfl (by decide) hA rfl rfl (List.cons_ne_nil _ _) (by decide) ?_)
                          clear hM hA; intro w14384 g14383 hM hE hlo14385 a hA
                          have hlw14386 : ∀ k, Value.ownBlock (.slice (some ⟨g14383, 0, none⟩) 1 1) = some k → w14314.heap.size ≤ k := fun k hk => by cases hk; exact Nat.le_trans hS.size hlo14385
                          replace hS := hS.trans (hE.mono hS.size)
                          refine ⟨fun _ => hS, ?_⟩
                          refine d_one (i := 4) (L' := #[tT,tT,tT,tT,tT,fF,fF]) (by kernel_rfl) rfl rfl (e_appendL elt37 hM (fun _ => (.s (.s (.s (.s (.s (.s (.s (.s (.s (.s (.s .z)))))))))))) (Src.row Try.underlying37 (RowOk.row (hM.row (p := pHash) .z)) (RowOk.len (hM.row (p := pHash) .z))) hl14378 hA rfl rfl (by decide) ?_)
                          clear hM hA; intro w14389 A14387 c14388 hM hE hlo14390 a hA
                          refine ⟨fun h => absurd h (by decide), ?_⟩
                          refine d_one (i := 5) (L' := #[tT,tT,tT,tT,tT,tT,fF]) (by kernel_rfl) rfl rfl (e_store (g := g7753) (off := 0) (cur := [(.int .u32 x14206), (.bool x14207), (.slice A14210 xs14212.length c14211), (.slice A14215 xs14217.length c14216), (.slice A14220 xs14222.length c14221)]) (cs' := [(.int .u32 r14296.1.Epoch), (.bool r14296.1.Diffuse), (.slice A14303 r14296.1.Routes.length c14304), (.slice A14306 r14296.1.Stems.length c14307), (.slice A14309 r14296.1.Fluffed.length c14310)]) hM (.s (.s (.s (.s (.s .z))))) Try.sizeOf39 hA rfl (by simp [add_mk]) rfl (by first | rfl | simp [Value.cells, Pl.len]) (by simp [Value.cells, Value.oneCell']) (by first | exact Nat.le_of_ble_eq_true rfl | (simp [Pl.len]; done)) (spl_all (by first | rfl | simp [Value.cells, Pl.len])) ?_)
                          clear hM hA; intro w14391  hM hE  a hA
                          refine ⟨fun h => absurd h (by decide), ?_⟩
                          refine d_takef (i := 6) (L' := #[tT,tT,tT,tT,tT,tT,tT]) rfl (by kernel_rfl) rfl (fun _ _ _ h => h) hA (by decide) (fun h => absurd h (by decide)) (fun a w' hA => run_assign (hA.ev rfl)) ?_; clear hA; intro a hA
                          refine d_done (by kernel_rfl) ?_
                          exact ⟨(xs14229 ++ [(r13660.2.getD x14231.toNat (Vector.replicate 32 0 : Vector Int 32))]), (.slice A14387 (xs14229.length + 1) c14388), Option.some.inj H14369, (hM.sel [5, 2, 3, 4, 9, 10, 11, 13] rfl (by decide)), ((((((((hA.nil.cons (hA.get 96 _ rfl)).cons (hA.get 95 _ rfl)).cons (hA.get 94 _ rfl)).cons (hA.get 9 _ rfl)).cons (hA.get 8 _ rfl)).cons (hA.get 7 _ rfl)).cons (hA.get 6 _ rfl)).cons (hA.get 5 _ rfl))⟩
                        · refine d_op (i := 2) (L' := #[fF,tT,tT,fF,fF,fF,fF]) rfl rfl (stv hA (by decide) (run_ld (hA.ev rfl) (run_loadP Try.isAgg34 Try.sizeOf34 (hM.box (.s (.s (.s (.s (.s (.s (.s (.s (.s (.s (.s .z)))))))))))))) ?_)
                          clear hA; intro a hA
                          refine ⟨fun _ => hS, ?_⟩
                          refine d_many (is := [0, 3]) (by kernel_rfl) (by decide) ⟨?_, ?_, trivial⟩
                          · refine d_op (i := 0) (L' := #[tT,tT,tT,fF,fF,fF,fF]) rfl rfl (stv hA (by decide) (run_ld (hA.ev rfl) (run_loadW Try.isAgg39 Try.sizeOf39 (by simp [Pl.len]; try rfl) (hM.box .z))) ?_)
                            clear hA; intro a hA
                            refine ⟨fun _ => hS, ?_⟩
                            refine d_one (i := 3) (L' := #[tT,tT,tT,tT,fF,fF,fF]) (by kernel_rfl) rfl rfl (e_litNL [(r13660.2.getD x14231.toNat (Vector.replicate 32 0 : Vector Int 32))] [(.agg (pHash.enc (r13660.2.getD x14231.toNat (Vector.replicate 32 0 : Vector Int 32))).toArray)] elt37 hM rfl (by decide) hA rfl rfl (List.cons_ne_nil _ _) (by decide) ?_)
                            clear hM hA; intro w14393 g14392 hM hE hlo14394 a hA
                            have hlw14395 : ∀ k, Value.ownBlock (.slice (some ⟨g14392, 0, none⟩) 1 1) = some k → w14314.heap.size ≤ k := fun k hk => by cases hk; exact Nat.le_trans hS.size hlo14394
                            replace hS := hS.trans (hE.mono hS.size)
                            refine ⟨fun _ => hS, ?_⟩
                            refine d_one (i := 4) (L' := #[tT,tT,tT,tT,tT,fF,fF]) (by kernel_rfl) rfl rfl (e_appendL elt37 hM (fun _ => (.s (.s (.s (.s (.s (.s (.s (.s (.s (.s (.s .z)))))))))))) (Src.row Try.underlying37 (RowOk.row (hM.row (p := pHash) .z)) (RowOk.len (hM.row (p := pHash) .z))) hl14378 hA rfl rfl (by decide) ?_)
                            clear hM hA; intro w14398 A14396 c14397 hM hE hlo14399 a hA
                            refine ⟨fun h => absurd h (by decide), ?_⟩
                            refine d_one (i := 5) (L' := #[tT,tT,tT,tT,tT,tT,fF]) (by kernel_rfl) rfl rfl (e_store (g := g7753) (off := 0) (cur := [(.int .u32 x14206), (.bool x14207), (.slice A14210 xs14212.length c14211), (.slice A14215 xs14217.length c14216), (.slice A14220 xs14222.length c14221)]) (cs' := [(.int .u32 r14296.1.Epoch), (.bool r14296.1.Diffuse), (.slice A14303 r14296.1.Routes.length c14304), (.slice A14306 r14296.1.Stems.length c14307), (.slice A14309 r14296.1.Fluffed.length c14310)]) hM (.s (.s (.s (.s (.s .z))))) Try.sizeOf39 hA rfl (by simp [add_mk]) rfl (by first | rfl | simp [Value.cells, Pl.len]) (by simp [Value.cells, Value.oneCell']) (by first | exact Nat.le_of_ble_eq_true rfl | (simp [Pl.len]; done)) (spl_all (by first | rfl | simp [Value.cells, Pl.len])) ?_)
                            clear hM hA; intro w14400  hM hE  a hA
                            refine ⟨fun h => absurd h (by decide), ?_⟩
                            refine d_takef (i := 6) (L' := #[tT,tT,tT,tT,tT,tT,tT]) rfl (by kernel_rfl) rfl (fun _ _ _ h => h) hA (by decide) (fun h => absurd h (by decide)) (fun a w' hA => run_assign (hA.ev rfl)) ?_; clear hA; intro a hA
                            refine d_done (by kernel_rfl) ?_
                            exact ⟨(xs14229 ++ [(r13660.2.getD x14231.toNat (Vector.replicate 32 0 : Vector Int 32))]), (.slice A14396 (xs14229.length + 1) c14397), Option.some.inj H14369, (hM.sel [5, 2, 3, 4, 9, 10, 11, 13] rfl (by decide)), ((((((((hA.nil.cons (hA.get 96 _ rfl)).cons (hA.get 95 _ rfl)).cons (hA.get 94 _ rfl)).cons (hA.get 9 _ rfl)).cons (hA.get 8 _ rfl)).cons (hA.get 7 _ rfl)).cons (hA.get 6 _ rfl)).cons (hA.get 5 _ rfl))⟩
                          · refine d_op (i := 3) (L' := #[fF,tT,tT,tT,fF,fF,fF]) rfl rfl (e_litNL [(r13660.2.getD x14231.toNat (Vector.replicate 32 0 : Vector Int 32))] [(.agg (pHash.enc (r13660.2.getD x14231.toNat (Vector.replicate 32 0 : Vector Int 32))).toArray)] elt37 hM rfl (by decide) hA rfl rfl (List.cons_ne_nil _ _) (by decide) ?_)
                            clear hM hA; intro w14402 g14401 hM hE hlo14403 a hA
                            have hlw14404 : ∀ k, Value.ownBlock (.slice (some ⟨g14401, 0, none⟩) 1 1) = some k → w14314.heap.size ≤ k := fun k hk => by cases hk; exact Nat.le_trans hS.size hlo14403
                            replace hS := hS.trans (hE.mono hS.size)
                            refine ⟨fun _ => hS, ?_⟩
                            refine d_many (is := [0, 4]) (by kernel_rfl) (by decide) ⟨?_, ?_, trivial⟩
                            · refine d_op (i := 0) (L' := #[tT,tT,tT,tT,fF,fF,fF]) rfl rfl (stv hA (by decide) (run_ld (hA.ev rfl) (run_loadW Try.isAgg39 Try.sizeOf39 (by simp [Pl.len]; try rfl) (hM.box (.s .z)))) ?_)
                              clear hA; intro a hA
                              refine ⟨fun _ => hS, ?_⟩
                              refine d_one (i := 4) (L' := #[tT,tT,tT,tT,tT,fF,fF]) (by kernel_rfl) rfl rfl (e_appendL elt37 hM (fun _ => (.s (.s (.s (.s (.s (.s (.s (.s (.s (.s (.s .z)))))))))))) (Src.row Try.underlying37 (RowOk.row (hM.row (p := pHash) .z)) (RowOk.len (hM.row (p := pHash) .z))) hl14378 hA rfl rfl (by decide) ?_)
                              clear hM hA; intro w14407 A14405 c14406 hM hE hlo14408 a hA
                              refine ⟨fun h => absurd h (by decide), ?_⟩
                              refine d_one (i := 5) (L' := #[tT,tT,tT,tT,tT,tT,fF]) (by kernel_rfl) rfl rfl (e_store (g := g7753) (off := 0) (cur := [(.int .u32 x14206), (.bool x14207), (.slice A14210 xs14212.length c14211), (.slice A14215 xs14217.length c14216), (.slice A14220 xs14222.length c14221)]) (cs' := [(.int .u32 r14296.1.Epoch), (.bool r14296.1.Diffuse), (.slice A14303 r14296.1.Routes.length c14304), (.slice A14306 r14296.1.Stems.length c14307), (.slice A14309 r14296.1.Fluffed.length c14310)]) hM (.s (.s (.s (.s (.s .z))))) Try.sizeOf39 hA rfl (by simp [add_mk]) rfl (by first | rfl | simp [Value.cells, Pl.len]) (by simp [Value.cells, Value.oneCell']) (by first | exact Nat.le_of_ble_eq_true rfl | (simp [Pl.len]; done)) (spl_all (by first | rfl | simp [Value.cells, Pl.len])) ?_)
                              clear hM hA; intro w14409  hM hE  a hA
                              refine ⟨fun h => absurd h (by decide), ?_⟩
                              refine d_takef (i := 6) (L' := #[tT,tT,tT,tT,tT,tT,tT]) rfl (by kernel_rfl) rfl (fun _ _ _ h => h) hA (by decide) (fun h => absurd h (by decide)) (fun a w' hA => run_assign (hA.ev rfl)) ?_; clear hA; intro a hA
                              refine d_done (by kernel_rfl) ?_
                              exact ⟨(xs14229 ++ [(r13660.2.getD x14231.toNat (Vector.replicate 32 0 : Vector Int 32))]), (.slice A14405 (xs14229.length + 1) c14406), Option.some.inj H14369, (hM.sel [5, 2, 3, 4, 9, 10, 11, 13] rfl (by decide)), ((((((((hA.nil.cons (hA.get 96 _ rfl)).cons (hA.get 95 _ rfl)).cons (hA.get 94 _ rfl)).cons (hA.get 9 _ rfl)).cons (hA.get 8 _ rfl)).cons (hA.get 7 _ rfl)).cons (hA.get 6 _ rfl)).cons (hA.get 5 _ rfl))⟩
                            · refine d_op (i := 4) (L' := #[fF,tT,tT,tT,tT,fF,fF]) rfl rfl (e_appendL elt37 hM (fun _ => (.s (.s (.s (.s (.s (.s (.s (.s (.s (.s (.s .z)))))))))))) (Src.row Try.underlying37 (RowOk.row (hM.row (p := pHash) .z)) (RowOk.len (hM.row (p := pHash) .z))) hl14378 hA rfl rfl (by decide) ?_)
                              clear hM hA; intro w14412 A14410 c14411 hM hE hlo14413 a hA
                              refine ⟨fun h => absurd h (by decide), ?_⟩
                              refine d_one (i := 0) (L' := #[tT,tT,tT,tT,tT,fF,fF]) (by kernel_rfl) rfl rfl (stv hA (by decide) (run_ld (hA.ev rfl) (run_loadW Try.isAgg39 Try.sizeOf39 (by simp [Pl.len]; try rfl) (hM.box (.s .z)))) ?_)
                              clear hA; intro a hA
                              refine ⟨fun h => absurd h (by decide), ?_⟩
                              refine d_one (i := 5) (L' := #[tT,tT,tT,tT,tT,tT,fF]) (by kernel_rfl) rfl rfl (e_store (g := g7753) (off := 0) (cur := [(.int .u32 x14206), (.bool x14207), (.slice A14210 xs14212.length c14211), (.slice A14215 xs14217.length c14216), (.slice A14220 xs14222.length c14221)]) (cs' := [(.int .u32 r14296.1.Epoch), (.bool r14296.1.Diffuse), (.slice A14303 r14296.1.Routes.length c14304), (.slice A14306 r14296.1.Stems.length c14307), (.slice A14309 r14296.1.Fluffed.length c14310)]) hM (.s (.s (.s (.s (.s .z))))) Try.sizeOf39 hA rfl (by simp [add_mk]) rfl (by first | rfl | simp [Value.cells, Pl.len]) (by simp [Value.cells, Value.oneCell']) (by first | exact Nat.le_of_ble_eq_true rfl | (simp [Pl.len]; done)) (spl_all (by first | rfl | simp [Value.cells, Pl.len])) ?_)
                              clear hM hA; intro w14414  hM hE  a hA
                              refine ⟨fun h => absurd h (by decide), ?_⟩
                              refine d_takef (i := 6) (L' := #[tT,tT,tT,tT,tT,tT,tT]) rfl (by kernel_rfl) rfl (fun _ _ _ h => h) hA (by decide) (fun h => absurd h (by decide)) (fun a w' hA => run_assign (hA.ev rfl)) ?_; clear hA; intro a hA
                              refine d_done (by kernel_rfl) ?_
                              exact ⟨(xs14229 ++ [(r13660.2.getD x14231.toNat (Vector.replicate 32 0 : Vector Int 32))]), (.slice A14410 (xs14229.length + 1) c14411), Option.some.inj H14369, (hM.sel [5, 2, 3, 4, 9, 10, 11, 13] rfl (by decide)), ((((((((hA.nil.cons (hA.get 96 _ rfl)).cons (hA.get 95 _ rfl)).cons (hA.get 94 _ rfl)).cons (hA.get 9 _ rfl)).cons (hA.get 8 _ rfl)).cons (hA.get 7 _ rfl)).cons (hA.get 6 _ rfl)).cons (hA.get 5 _ rfl))⟩
                      clear hM hA
                      rintro a w14415 ⟨xs14367, v14364, rfl, hM, hA⟩
                      try dsimp only at H14258
                      obtain ⟨A14365, c14366, rfl⟩ := RowOk.form (hM.row (p := pHash) (.s (.s (.s (.s (.s (.s .z)))))))
                      refine BN ?_
                      refine TN ?_
                      refine wp_region_lit ?_
                      refine L1 (stv hA (by decide) (run_bin (hA.ev rfl) (hA.ev rfl) (bin_add _ _ _ _)) ?_)
                      clear hA; intro a hA
                      refine L1 (stv hA (by decide) (run_move (hA.ev rfl)) ?_)
                      clear hA; intro a hA
                      refine LQ ?_
                      exact ⟨_, Nat.lt_succ_self m14260, r14296.1.Epoch, r14296.1.Diffuse, r14296.1.Routes, r14296.1.Stems, r14296.1.Fluffed, xs14367, IntKind.i64.wrap (x14231 + 1), (.slice A14303 r14296.1.Routes.length c14304), (.slice A14306 r14296.1.Stems.length c14307), (.slice A14309 r14296.1.Fluffed.length c14310), (.slice A14365 xs14367.length c14366), H14258, hM, ((((((((hA.nil.cons (hA.get 96 _ rfl)).cons (hA.get 95 _ rfl)).cons (hA.get 94 _ rfl)).cons (hA.get 9 _ rfl)).cons (hA.get 8 _ rfl)).cons (hA.get 7 _ rfl)).cons (hA.get 6 _ rfl)).cons (hA.get 5 _ rfl))⟩
                · replace H14258 := ite_f hb14262 H14258
                  refine wp_exit ?_
                  refine TX ?_
                  refine TX ?_
                  refine BX ?_
                  exact ⟨x14206, x14207, xs14212, xs14217, xs14222, xs14229, (.slice A14210 xs14212.length c14211), (.slice A14215 xs14217.length c14216), (.slice A14220 xs14222.length c14221), (.slice A14227 xs14229.length c14228), Option.some.inj H14258, (hM.sel [0, 1, 2, 3, 4, 5, 6] rfl (by decide)), (((((hA.nil.cons (hA.get 9 _ rfl)).cons (hA.get 8 _ rfl)).cons (hA.get 7 _ rfl)).cons (hA.get 6 _ rfl)).cons (hA.get 5 _ rfl))⟩
              clear hM hA
              rintro a w14416 ⟨x14233, x14234, xs14239, xs14244, xs14249, xs14256, v14236, v14241, v14246, v14253, rfl, hM, hA⟩
              try dsimp only at H13513
              obtain ⟨A14237, c14238, rfl⟩ := RowOk.form (hM.row (p := (Pl.int .i64)) (.s .z))
              obtain ⟨A14242, c14243, rfl⟩ := RowOk.form (hM.row (p := pStem) (.s (.s .z)))
              obtain ⟨A14247, c14248, rfl⟩ := RowOk.form (hM.row (p := pHash) (.s (.s (.s .z))))
              obtain ⟨A14254, c14255, rfl⟩ := RowOk.form (hM.row (p := pHash) (.s (.s (.s (.s (.s (.s .z)))))))
              refine BN ?_
              refine BN ?_
              exact ⟨_, Nat.lt_succ_self m13519, x14233, x14234, xs14239, xs14244, xs14249, r13535.2.At_, xs13472, xs14256, IntKind.u32.wrap (t13480 + (IntKind.u32.wrap r13525.1)), (.slice A14237 xs14239.length c14238), (.slice A14242 xs14244.length c14243), (.slice A14247 xs14249.length c14248), (.slice A13470 xs13472.length c13471), (.slice A14254 xs14256.length c14255), H13513, hM, (((((hA.nil.cons (hA.get 9 _ rfl)).cons (hA.get 8 _ rfl)).cons (hA.get 7 _ rfl)).cons (hA.get 6 _ rfl)).cons (hA.get 5 _ rfl))⟩
            · replace H13513 := ite_f hb13659 H13513
              refine wp_seq ?_
              obtain ⟨o14859, H14858, H13513⟩ := Option.bind_eq_some_iff.1 H13513
              refine cutC (fun a w => ∃ (x14832 : Int) (x14839 : Int) (x14840 : Bool) (xs14845 : (List Int)) (xs14850 : (List Stem)) (xs14855 : (List (Vector Int 32))) (x14856 : Int) (x14857 : Int) (g14838 : Nat) (v14842 : Value) (v14847 : Value) (v14852 : Value), (x14832, x14839, x14840, xs14845, xs14850, xs14855, x14856, x14857) = o14859 ∧ Mem F w0 w [.box g7753 39 [(.int .u32 x13448), (.bool x13449), (.slice A13452 xs13454.length c13453), (.slice A13457 xs13459.length c13458), (.slice A13462 xs13464.length c13463)], .row 3 (Pl.int .i64).sz (.slice A13452 xs13454.length c13453) ((Pl.int .i64).flat xs13454), .row 61 pStem.sz (.slice A13457 xs13459.length c13458) (pStem.flat xs13459), .row 34 pHash.sz (.slice A13462 xs13464.length c13463) (pHash.flat xs13464), .box g7760 63 [(.slice A1 o_1.length c1), (.int .i64 x14832)], .row 34 pHash.sz (.slice A13470 xs13472.length c13471) (pHash.flat xs13472), .row 34 pHash.sz (.slice A13476 xs13478.length c13477) (pHash.flat xs13478), .box g13531 34 (pHash.enc (((Vector.replicate 32 0 : Vector Int 32).setIfInBounds 0 (IntKind.u8.wrap r13528.1)))), .box g14838 39 [(.int .u32 x14839), (.bool x14840), v14842, v14847, v14852], .row 3 (Pl.int .i64).sz v14842 ((Pl.int .i64).flat xs14845), .row 61 pStem.sz v14847 (pStem.flat xs14850), .row 34 pHash.sz v14852 (pHash.flat xs14855)] ∧ Has 148 [(5, (.pointer (some (⟨g7753, 0, none⟩)))), (6, (.pointer (some (⟨g7760, 0, none⟩)))), (7, (.slice A13470 xs13472.length c13471)), (8, (.slice A13476 xs13478.length c13477)), (9, (.int .u32 (IntKind.u32.wrap (t13480 + (IntKind.u32.wrap r13525.1))))), (10, (.pointer (some (⟨g13531, 0, none⟩)))), (19, (.pointer (some (⟨g14838, 0, none⟩)))), (20, (.int .i64 x14856)), (21, (.int .i64 x14857))] a) ?_ ?_
              · obtain ⟨r14861, H14862, H14858⟩ := Option.bind_eq_some_iff.1 H14858
                obtain ⟨r14864, H14865, H14858⟩ := Option.bind_eq_some_iff.1 H14858
                refine draw (fun w' => Below w13537.heap.size w13537 w') [2, 12] rfl ?_
                intro w14882 hw hS; replace hM := hM.ext hS; clear hw
                refine d_takef (i := 1) (L' := #[fF,tT,fF,fF,fF,fF,fF,fF,fF,fF,fF,fF,fF,fF,fF]) rfl (by kernel_rfl) rfl (fun _ _ _ h => h) hA (by decide) (fun _ => hS) (fun a w' hA => run_move (hA.ev rfl)) ?_; clear hA; intro a hA
                refine d_takef (i := 5) (L' := #[fF,tT,fF,fF,fF,tT,fF,fF,fF,fF,fF,fF,fF,fF,fF]) rfl (by kernel_rfl) rfl (fun _ _ _ h => h) hA (by decide) (fun _ => hS) (fun a w' hA => run_move (hA.ev rfl)) ?_; clear hA; intro a hA
                refine d_many (is := [0, 2, 4, 11]) (by kernel_rfl) (by decide) ⟨?_, ?_, ?_, ?_, trivial⟩
                · refine d_op (i := 0) (L' := #[tT,tT,fF,fF,fF,tT,fF,fF,fF,fF,fF,fF,fF,fF,fF]) rfl rfl (stv hA (by decide) (run_ld (hA.ev rfl) (run_loadW Try.isAgg39 Try.sizeOf39 (by simp [Pl.len]; try rfl) (hM.box (.s (.s .z))))) ?_)
                  clear hA; intro a hA
                  refine ⟨fun _ => hS, ?_⟩
                  refine d_many (is := [2, 4, 11]) (by kernel_rfl) (by decide) ⟨?_, ?_, ?_, trivial⟩
                  · refine d_op (i := 2) (L' := #[tT,tT,tT,fF,fF,tT,fF,fF,fF,fF,fF,fF,fF,fF,fF]) rfl rfl (st_call Try.call23 hA [(.pointer (some (⟨g7760, 0, none⟩))), (.int .i64 9)] rfl (by decide) (mill_Deck_Next.calls _ (lightclientmill_Deck.mk o_1 r13535.2.At_) _ _ _ _ _ _ ((RoV.mk (hM.roC (Ms := [_]) hr1) (Eq.refl o_1.length) hc1)) (hM.front (Ms := [_])) H14862) ?_)
                    clear hA; rintro _ w14883 ⟨rfl, hMc⟩ a hA
                    have hM := hM.call (Ms := [_]) hMc
                    clear hMc; simp only [List.cons_append, List.nil_append] at hM
                    refine ⟨fun h => absurd h (by decide), ?_⟩
                    refine d_takef (i := 3) (L' := #[tT,tT,tT,tT,fF,tT,fF,fF,fF,fF,fF,fF,fF,fF,fF]) rfl (by kernel_rfl) rfl (fun _ _ _ h => h) hA (by decide) (fun h => absurd h (by decide)) (fun a w' hA => run_bin (hA.ev rfl) (hA.ev rfl) (bin_sub _ _ _ _)) ?_; clear hA; intro a hA
                    refine d_many (is := [4, 11]) (by kernel_rfl) (by decide) ⟨?_, ?_, trivial⟩
                    · refine d_op (i := 4) (L' := #[tT,tT,tT,tT,tT,tT,fF,fF,fF,fF,fF,fF,fF,fF,fF]) rfl rfl (stv hA (by decide) (run_ld (hA.ev rfl) (run_loadP Try.isAgg34 Try.sizeOf34 (hM.box (.s .z)))) ?_)
                      clear hA; intro a hA
                      refine ⟨fun h => absurd h (by decide), ?_⟩
                      refine d_many (is := [6, 11]) (by kernel_rfl) (by decide) ⟨?_, ?_, trivial⟩
                      · refine d_op (i := 6) (L' := #[tT,tT,tT,tT,tT,tT,tT,fF,fF,fF,fF,fF,fF,fF,fF]) rfl rfl (st_call Try.call25 hA [(.agg #[(.int .u32 x13448), (.bool x13449), (.slice A13452 xs13454.length c13453), (.slice A13457 xs13459.length c13458), (.slice A13462 xs13464.length c13463)]), (.int .i64 (IntKind.i64.wrap (r14861.1 - 1))), (.agg (pHash.enc (((Vector.replicate 32 0 : Vector Int 32).setIfInBounds 0 (IntKind.u8.wrap r13528.1)))).toArray), (.int .u32 (IntKind.u32.wrap (t13480 + (IntKind.u32.wrap r13525.1)))), (.int .u32 10)] rfl (by decide) (relay_Hear.calls _ (Relay.mk x13448 x13449 xs13454 xs13459 xs13464) _ _ _ _ _ _ _ _ _ _ ((hM.roV (p := (Pl.int .i64)) (Ms := []) (.s (.s (.s .z))))) ((hM.roV (p := pStem) (Ms := []) (.s (.s (.s (.s .z)))))) ((hM.roV (p := pHash) (Ms := []) (.s (.s (.s (.s (.s .z))))))) (hM.front (Ms := [])) H14865) ?_)
                        clear hA; rintro _ w14884 ⟨v14885, v14886, v14887, rfl, hMc⟩ a hA
                        have hE := hMc.below; have hM := hM.call (Ms := []) hMc
                        clear hMc; simp only [List.cons_append, List.nil_append] at hM
                        obtain ⟨A14888, c14889, rfl⟩ := RowOk.form (hM.row (p := (Pl.int .i64)) .z)
                        obtain ⟨A14890, c14891, rfl⟩ := RowOk.form (hM.row (p := pStem) (.s .z))
                        obtain ⟨A14892, c14893, rfl⟩ := RowOk.form (hM.row (p := pHash) (.s (.s .z)))
                        refine ⟨fun h => absurd h (by decide), ?_⟩
                        refine d_takef (i := 7) (L' := #[tT,tT,tT,tT,tT,tT,tT,tT,fF,fF,fF,fF,fF,fF,fF]) rfl (by kernel_rfl) rfl (fun _ _ _ h => h) hA (by decide) (fun h => absurd h (by decide)) (fun a w' hA => run_move (hA.ev rfl)) ?_; clear hA; intro a hA
                        refine d_takef (i := 8) (L' := #[tT,tT,tT,tT,tT,tT,tT,tT,tT,fF,fF,fF,fF,fF,fF]) rfl (by kernel_rfl) rfl (fun _ _ _ h => h) hA (by decide) (fun h => absurd h (by decide)) (fun a w' hA => run_ext (hA.ev rfl) rfl) ?_; clear hA; intro a hA
                        refine d_takef (i := 9) (L' := #[tT,tT,tT,tT,tT,tT,tT,tT,tT,tT,fF,fF,fF,fF,fF]) rfl (by kernel_rfl) rfl (fun _ _ _ h => h) hA (by decide) (fun h => absurd h (by decide)) (fun a w' hA => run_ext (hA.ev rfl) rfl) ?_; clear hA; intro a hA
                        refine d_takef (i := 10) (L' := #[tT,tT,tT,tT,tT,tT,tT,tT,tT,tT,tT,fF,fF,fF,fF]) rfl (by kernel_rfl) rfl (fun _ _ _ h => h) hA (by decide) (fun h => absurd h (by decide)) (fun a w' hA => run_ext (hA.ev rfl) rfl) ?_; clear hA; intro a hA
                        refine d_one (i := 11) (L' := #[tT,tT,tT,tT,tT,tT,tT,tT,tT,tT,tT,tT,fF,fF,fF]) (by kernel_rfl) rfl rfl (e_alloc (cs := [(.int .u32 0), (.bool false), (.slice none 0 0), (.slice none 0 0), (.slice none 0 0)]) hM zero39 rfl hA (by decide) ?_)
                        clear hM hA; intro w14895 g14894 hM hE  a hA
                        refine ⟨fun h => absurd h (by decide), ?_⟩
                        refine d_one (i := 12) (L' := #[tT,tT,tT,tT,tT,tT,tT,tT,tT,tT,tT,tT,tT,fF,fF]) (by kernel_rfl) rfl rfl (e_store (g := g14894) (off := 0) (cur := [(.int .u32 0), (.bool false), (.slice none 0 0), (.slice none 0 0), (.slice none 0 0)]) (cs' := [(.int .u32 r14864.1.Epoch), (.bool r14864.1.Diffuse), (.slice A14888 r14864.1.Routes.length c14889), (.slice A14890 r14864.1.Stems.length c14891), (.slice A14892 r14864.1.Fluffed.length c14893)]) hM .z Try.sizeOf39 hA rfl (by simp [add_mk]) rfl (by first | rfl | simp [Value.cells, Pl.len]) (by simp [Value.cells, Value.oneCell']) (by first | exact Nat.le_of_ble_eq_true rfl | (simp [Pl.len]; done)) (spl_all (by first | rfl | simp [Value.cells, Pl.len])) ?_)
                        clear hM hA; intro w14896  hM hE  a hA
                        refine ⟨fun h => absurd h (by decide), ?_⟩
                        refine d_takef (i := 13) (L' := #[tT,tT,tT,tT,tT,tT,tT,tT,tT,tT,tT,tT,tT,tT,fF]) rfl (by kernel_rfl) rfl (fun _ _ _ h => h) hA (by decide) (fun h => absurd h (by decide)) (fun a w' hA => run_assign (hA.ev rfl)) ?_; clear hA; intro a hA
                        refine d_takef (i := 14) (L' := #[tT,tT,tT,tT,tT,tT,tT,tT,tT,tT,tT,tT,tT,tT,tT]) rfl (by kernel_rfl) rfl (fun _ _ _ h => h) hA (by decide) (fun h => absurd h (by decide)) (fun a w' hA => run_assign (hA.ev rfl)) ?_; clear hA; intro a hA
                        refine d_done (by kernel_rfl) ?_
                        exact ⟨r14861.2.At_, r14864.1.Epoch, r14864.1.Diffuse, r14864.1.Routes, r14864.1.Stems, r14864.1.Fluffed, r14864.2.1, r14864.2.2, g14894, (.slice A14888 r14864.1.Routes.length c14889), (.slice A14890 r14864.1.Stems.length c14891), (.slice A14892 r14864.1.Fluffed.length c14893), Option.some.inj H14858, (hM.sel [6, 7, 8, 9, 4, 10, 11, 5, 0, 1, 2, 3] rfl (by decide)), (((((((((hA.nil.cons (hA.get 21 _ rfl)).cons (hA.get 20 _ rfl)).cons (hA.get 19 _ rfl)).cons (hA.get 10 _ rfl)).cons (hA.get 9 _ rfl)).cons (hA.get 8 _ rfl)).cons (hA.get 7 _ rfl)).cons (hA.get 6 _ rfl)).cons (hA.get 5 _ rfl))⟩
                      · refine d_op (i := 11) (L' := #[tT,tT,tT,tT,tT,tT,fF,fF,fF,fF,fF,tT,fF,fF,fF]) rfl rfl (e_alloc (cs := [(.int .u32 0), (.bool false), (.slice none 0 0), (.slice none 0 0), (.slice none 0 0)]) hM zero39 rfl hA (by decide) ?_)
                        clear hM hA; intro w14898 g14897 hM hE  a hA
                        refine ⟨fun h => absurd h (by decide), ?_⟩
                        refine d_one (i := 6) (L' := #[tT,tT,tT,tT,tT,tT,tT,fF,fF,fF,fF,tT,fF,fF,fF]) (by kernel_rfl) rfl rfl (st_call Try.call25 hA [(.agg #[(.int .u32 x13448), (.bool x13449), (.slice A13452 xs13454.length c13453), (.slice A13457 xs13459.length c13458), (.slice A13462 xs13464.length c13463)]), (.int .i64 (IntKind.i64.wrap (r14861.1 - 1))), (.agg (pHash.enc (((Vector.replicate 32 0 : Vector Int 32).setIfInBounds 0 (IntKind.u8.wrap r13528.1)))).toArray), (.int .u32 (IntKind.u32.wrap (t13480 + (IntKind.u32.wrap r13525.1)))), (.int .u32 10)] rfl (by decide) (relay_Hear.calls _ (Relay.mk x13448 x13449 xs13454 xs13459 xs13464) _ _ _ _ _ _ _ _ _ _ ((hM.roV (p := (Pl.int .i64)) (Ms := []) (.s (.s (.s (.s .z)))))) ((hM.roV (p := pStem) (Ms := []) (.s (.s (.s (.s (.s .z))))))) ((hM.roV (p := pHash) (Ms := []) (.s (.s (.s (.s (.s (.s .z)))))))) (hM.front (Ms := [])) H14865) ?_)
                        clear hA; rintro _ w14899 ⟨v14900, v14901, v14902, rfl, hMc⟩ a hA
                        have hE := hMc.below; have hM := hM.call (Ms := []) hMc
                        clear hMc; simp only [List.cons_append, List.nil_append] at hM
                        obtain ⟨A14903, c14904, rfl⟩ := RowOk.form (hM.row (p := (Pl.int .i64)) .z)
                        obtain ⟨A14905, c14906, rfl⟩ := RowOk.form (hM.row (p := pStem) (.s .z))
                        obtain ⟨A14907, c14908, rfl⟩ := RowOk.form (hM.row (p := pHash) (.s (.s .z)))
                        refine ⟨fun h => absurd h (by decide), ?_⟩
                        refine d_takef (i := 7) (L' := #[tT,tT,tT,tT,tT,tT,tT,tT,fF,fF,fF,tT,fF,fF,fF]) rfl (by kernel_rfl) rfl (fun _ _ _ h => h) hA (by decide) (fun h => absurd h (by decide)) (fun a w' hA => run_move (hA.ev rfl)) ?_; clear hA; intro a hA
                        refine d_takef (i := 8) (L' := #[tT,tT,tT,tT,tT,tT,tT,tT,tT,fF,fF,tT,fF,fF,fF]) rfl (by kernel_rfl) rfl (fun _ _ _ h => h) hA (by decide) (fun h => absurd h (by decide)) (fun a w' hA => run_ext (hA.ev rfl) rfl) ?_; clear hA; intro a hA
                        refine d_takef (i := 9) (L' := #[tT,tT,tT,tT,tT,tT,tT,tT,tT,tT,fF,tT,fF,fF,fF]) rfl (by kernel_rfl) rfl (fun _ _ _ h => h) hA (by decide) (fun h => absurd h (by decide)) (fun a w' hA => run_ext (hA.ev rfl) rfl) ?_; clear hA; intro a hA
                        refine d_takef (i := 10) (L' := #[tT,tT,tT,tT,tT,tT,tT,tT,tT,tT,tT,tT,fF,fF,fF]) rfl (by kernel_rfl) rfl (fun _ _ _ h => h) hA (by decide) (fun h => absurd h (by decide)) (fun a w' hA => run_ext (hA.ev rfl) rfl) ?_; clear hA; intro a hA
                        refine d_one (i := 12) (L' := #[tT,tT,tT,tT,tT,tT,tT,tT,tT,tT,tT,tT,tT,fF,fF]) (by kernel_rfl) rfl rfl (e_store (g := g14897) (off := 0) (cur := [(.int .u32 0), (.bool false), (.slice none 0 0), (.slice none 0 0), (.slice none 0 0)]) (cs' := [(.int .u32 r14864.1.Epoch), (.bool r14864.1.Diffuse), (.slice A14903 r14864.1.Routes.length c14904), (.slice A14905 r14864.1.Stems.length c14906), (.slice A14907 r14864.1.Fluffed.length c14908)]) hM (.s (.s (.s .z))) Try.sizeOf39 hA rfl (by simp [add_mk]) rfl (by first | rfl | simp [Value.cells, Pl.len]) (by simp [Value.cells, Value.oneCell']) (by first | exact Nat.le_of_ble_eq_true rfl | (simp [Pl.len]; done)) (spl_all (by first | rfl | simp [Value.cells, Pl.len])) ?_)
                        clear hM hA; intro w14909  hM hE  a hA
                        refine ⟨fun h => absurd h (by decide), ?_⟩
                        refine d_takef (i := 13) (L' := #[tT,tT,tT,tT,tT,tT,tT,tT,tT,tT,tT,tT,tT,tT,fF]) rfl (by kernel_rfl) rfl (fun _ _ _ h => h) hA (by decide) (fun h => absurd h (by decide)) (fun a w' hA => run_assign (hA.ev rfl)) ?_; clear hA; intro a hA
                        refine d_takef (i := 14) (L' := #[tT,tT,tT,tT,tT,tT,tT,tT,tT,tT,tT,tT,tT,tT,tT]) rfl (by kernel_rfl) rfl (fun _ _ _ h => h) hA (by decide) (fun h => absurd h (by decide)) (fun a w' hA => run_assign (hA.ev rfl)) ?_; clear hA; intro a hA
                        refine d_done (by kernel_rfl) ?_
                        exact ⟨r14861.2.At_, r14864.1.Epoch, r14864.1.Diffuse, r14864.1.Routes, r14864.1.Stems, r14864.1.Fluffed, r14864.2.1, r14864.2.2, g14897, (.slice A14903 r14864.1.Routes.length c14904), (.slice A14905 r14864.1.Stems.length c14906), (.slice A14907 r14864.1.Fluffed.length c14908), Option.some.inj H14858, (hM.sel [6, 7, 8, 9, 4, 10, 11, 5, 3, 0, 1, 2] rfl (by decide)), (((((((((hA.nil.cons (hA.get 21 _ rfl)).cons (hA.get 20 _ rfl)).cons (hA.get 19 _ rfl)).cons (hA.get 10 _ rfl)).cons (hA.get 9 _ rfl)).cons (hA.get 8 _ rfl)).cons (hA.get 7 _ rfl)).cons (hA.get 6 _ rfl)).cons (hA.get 5 _ rfl))⟩
                    · refine d_op (i := 11) (L' := #[tT,tT,tT,tT,fF,tT,fF,fF,fF,fF,fF,tT,fF,fF,fF]) rfl rfl (e_alloc (cs := [(.int .u32 0), (.bool false), (.slice none 0 0), (.slice none 0 0), (.slice none 0 0)]) hM zero39 rfl hA (by decide) ?_)
                      clear hM hA; intro w14911 g14910 hM hE  a hA
                      refine ⟨fun h => absurd h (by decide), ?_⟩
                      refine d_one (i := 4) (L' := #[tT,tT,tT,tT,tT,tT,fF,fF,fF,fF,fF,tT,fF,fF,fF]) (by kernel_rfl) rfl rfl (stv hA (by decide) (run_ld (hA.ev rfl) (run_loadP Try.isAgg34 Try.sizeOf34 (hM.box (.s (.s .z))))) ?_)
                      clear hA; intro a hA
                      refine ⟨fun h => absurd h (by decide), ?_⟩
                      refine d_one (i := 6) (L' := #[tT,tT,tT,tT,tT,tT,tT,fF,fF,fF,fF,tT,fF,fF,fF]) (by kernel_rfl) rfl rfl (st_call Try.call25 hA [(.agg #[(.int .u32 x13448), (.bool x13449), (.slice A13452 xs13454.length c13453), (.slice A13457 xs13459.length c13458), (.slice A13462 xs13464.length c13463)]), (.int .i64 (IntKind.i64.wrap (r14861.1 - 1))), (.agg (pHash.enc (((Vector.replicate 32 0 : Vector Int 32).setIfInBounds 0 (IntKind.u8.wrap r13528.1)))).toArray), (.int .u32 (IntKind.u32.wrap (t13480 + (IntKind.u32.wrap r13525.1)))), (.int .u32 10)] rfl (by decide) (relay_Hear.calls _ (Relay.mk x13448 x13449 xs13454 xs13459 xs13464) _ _ _ _ _ _ _ _ _ _ ((hM.roV (p := (Pl.int .i64)) (Ms := []) (.s (.s (.s (.s .z)))))) ((hM.roV (p := pStem) (Ms := []) (.s (.s (.s (.s (.s .z))))))) ((hM.roV (p := pHash) (Ms := []) (.s (.s (.s (.s (.s (.s .z)))))))) (hM.front (Ms := [])) H14865) ?_)
                      clear hA; rintro _ w14912 ⟨v14913, v14914, v14915, rfl, hMc⟩ a hA
                      have hE := hMc.below; have hM := hM.call (Ms := []) hMc
                      clear hMc; simp only [List.cons_append, List.nil_append] at hM
                      obtain ⟨A14916, c14917, rfl⟩ := RowOk.form (hM.row (p := (Pl.int .i64)) .z)
                      obtain ⟨A14918, c14919, rfl⟩ := RowOk.form (hM.row (p := pStem) (.s .z))
                      obtain ⟨A14920, c14921, rfl⟩ := RowOk.form (hM.row (p := pHash) (.s (.s .z)))
                      refine ⟨fun h => absurd h (by decide), ?_⟩
                      refine d_takef (i := 7) (L' := #[tT,tT,tT,tT,tT,tT,tT,tT,fF,fF,fF,tT,fF,fF,fF]) rfl (by kernel_rfl) rfl (fun _ _ _ h => h) hA (by decide) (fun h => absurd h (by decide)) (fun a w' hA => run_move (hA.ev rfl)) ?_; clear hA; intro a hA
                      refine d_takef (i := 8) (L' := #[tT,tT,tT,tT,tT,tT,tT,tT,tT,fF,fF,tT,fF,fF,fF]) rfl (by kernel_rfl) rfl (fun _ _ _ h => h) hA (by decide) (fun h => absurd h (by decide)) (fun a w' hA => run_ext (hA.ev rfl) rfl) ?_; clear hA; intro a hA
                      refine d_takef (i := 9) (L' := #[tT,tT,tT,tT,tT,tT,tT,tT,tT,tT,fF,tT,fF,fF,fF]) rfl (by kernel_rfl) rfl (fun _ _ _ h => h) hA (by decide) (fun h => absurd h (by decide)) (fun a w' hA => run_ext (hA.ev rfl) rfl) ?_; clear hA; intro a hA
                      refine d_takef (i := 10) (L' := #[tT,tT,tT,tT,tT,tT,tT,tT,tT,tT,tT,tT,fF,fF,fF]) rfl (by kernel_rfl) rfl (fun _ _ _ h => h) hA (by decide) (fun h => absurd h (by decide)) (fun a w' hA => run_ext (hA.ev rfl) rfl) ?_; clear hA; intro a hA
                      refine d_one (i := 12) (L' := #[tT,tT,tT,tT,tT,tT,tT,tT,tT,tT,tT,tT,tT,fF,fF]) (by kernel_rfl) rfl rfl (e_store (g := g14910) (off := 0) (cur := [(.int .u32 0), (.bool false), (.slice none 0 0), (.slice none 0 0), (.slice none 0 0)]) (cs' := [(.int .u32 r14864.1.Epoch), (.bool r14864.1.Diffuse), (.slice A14916 r14864.1.Routes.length c14917), (.slice A14918 r14864.1.Stems.length c14919), (.slice A14920 r14864.1.Fluffed.length c14921)]) hM (.s (.s (.s .z))) Try.sizeOf39 hA rfl (by simp [add_mk]) rfl (by first | rfl | simp [Value.cells, Pl.len]) (by simp [Value.cells, Value.oneCell']) (by first | exact Nat.le_of_ble_eq_true rfl | (simp [Pl.len]; done)) (spl_all (by first | rfl | simp [Value.cells, Pl.len])) ?_)
                      clear hM hA; intro w14922  hM hE  a hA
                      refine ⟨fun h => absurd h (by decide), ?_⟩
                      refine d_takef (i := 13) (L' := #[tT,tT,tT,tT,tT,tT,tT,tT,tT,tT,tT,tT,tT,tT,fF]) rfl (by kernel_rfl) rfl (fun _ _ _ h => h) hA (by decide) (fun h => absurd h (by decide)) (fun a w' hA => run_assign (hA.ev rfl)) ?_; clear hA; intro a hA
                      refine d_takef (i := 14) (L' := #[tT,tT,tT,tT,tT,tT,tT,tT,tT,tT,tT,tT,tT,tT,tT]) rfl (by kernel_rfl) rfl (fun _ _ _ h => h) hA (by decide) (fun h => absurd h (by decide)) (fun a w' hA => run_assign (hA.ev rfl)) ?_; clear hA; intro a hA
                      refine d_done (by kernel_rfl) ?_
                      exact ⟨r14861.2.At_, r14864.1.Epoch, r14864.1.Diffuse, r14864.1.Routes, r14864.1.Stems, r14864.1.Fluffed, r14864.2.1, r14864.2.2, g14910, (.slice A14916 r14864.1.Routes.length c14917), (.slice A14918 r14864.1.Stems.length c14919), (.slice A14920 r14864.1.Fluffed.length c14921), Option.some.inj H14858, (hM.sel [6, 7, 8, 9, 4, 10, 11, 5, 3, 0, 1, 2] rfl (by decide)), (((((((((hA.nil.cons (hA.get 21 _ rfl)).cons (hA.get 20 _ rfl)).cons (hA.get 19 _ rfl)).cons (hA.get 10 _ rfl)).cons (hA.get 9 _ rfl)).cons (hA.get 8 _ rfl)).cons (hA.get 7 _ rfl)).cons (hA.get 6 _ rfl)).cons (hA.get 5 _ rfl))⟩
                  · refine d_op (i := 4) (L' := #[tT,tT,fF,fF,tT,tT,fF,fF,fF,fF,fF,fF,fF,fF,fF]) rfl rfl (stv hA (by decide) (run_ld (hA.ev rfl) (run_loadP Try.isAgg34 Try.sizeOf34 (hM.box (.s .z)))) ?_)
                    clear hA; intro a hA
                    refine ⟨fun _ => hS, ?_⟩
                    refine d_many (is := [2, 11]) (by kernel_rfl) (by decide) ⟨?_, ?_, trivial⟩
                    · refine d_op (i := 2) (L' := #[tT,tT,tT,fF,tT,tT,fF,fF,fF,fF,fF,fF,fF,fF,fF]) rfl rfl (st_call Try.call23 hA [(.pointer (some (⟨g7760, 0, none⟩))), (.int .i64 9)] rfl (by decide) (mill_Deck_Next.calls _ (lightclientmill_Deck.mk o_1 r13535.2.At_) _ _ _ _ _ _ ((RoV.mk (hM.roC (Ms := [_]) hr1) (Eq.refl o_1.length) hc1)) (hM.front (Ms := [_])) H14862) ?_)
                      clear hA; rintro _ w14923 ⟨rfl, hMc⟩ a hA
                      have hM := hM.call (Ms := [_]) hMc
                      clear hMc; simp only [List.cons_append, List.nil_append] at hM
                      refine ⟨fun h => absurd h (by decide), ?_⟩
                      refine d_takef (i := 3) (L' := #[tT,tT,tT,tT,tT,tT,fF,fF,fF,fF,fF,fF,fF,fF,fF]) rfl (by kernel_rfl) rfl (fun _ _ _ h => h) hA (by decide) (fun h => absurd h (by decide)) (fun a w' hA => run_bin (hA.ev rfl) (hA.ev rfl) (bin_sub _ _ _ _)) ?_; clear hA; intro a hA
                      refine d_many (is := [6, 11]) (by kernel_rfl) (by decide) ⟨?_, ?_, trivial⟩
                      · refine d_op (i := 6) (L' := #[tT,tT,tT,tT,tT,tT,tT,fF,fF,fF,fF,fF,fF,fF,fF]) rfl rfl (st_call Try.call25 hA [(.agg #[(.int .u32 x13448), (.bool x13449), (.slice A13452 xs13454.length c13453), (.slice A13457 xs13459.length c13458), (.slice A13462 xs13464.length c13463)]), (.int .i64 (IntKind.i64.wrap (r14861.1 - 1))), (.agg (pHash.enc (((Vector.replicate 32 0 : Vector Int 32).setIfInBounds 0 (IntKind.u8.wrap r13528.1)))).toArray), (.int .u32 (IntKind.u32.wrap (t13480 + (IntKind.u32.wrap r13525.1)))), (.int .u32 10)] rfl (by decide) (relay_Hear.calls _ (Relay.mk x13448 x13449 xs13454 xs13459 xs13464) _ _ _ _ _ _ _ _ _ _ ((hM.roV (p := (Pl.int .i64)) (Ms := []) (.s (.s (.s .z))))) ((hM.roV (p := pStem) (Ms := []) (.s (.s (.s (.s .z)))))) ((hM.roV (p := pHash) (Ms := []) (.s (.s (.s (.s (.s .z))))))) (hM.front (Ms := [])) H14865) ?_)
                        clear hA; rintro _ w14924 ⟨v14925, v14926, v14927, rfl, hMc⟩ a hA
                        have hE := hMc.below; have hM := hM.call (Ms := []) hMc
                        clear hMc; simp only [List.cons_append, List.nil_append] at hM
                        obtain ⟨A14928, c14929, rfl⟩ := RowOk.form (hM.row (p := (Pl.int .i64)) .z)
                        obtain ⟨A14930, c14931, rfl⟩ := RowOk.form (hM.row (p := pStem) (.s .z))
                        obtain ⟨A14932, c14933, rfl⟩ := RowOk.form (hM.row (p := pHash) (.s (.s .z)))
                        refine ⟨fun h => absurd h (by decide), ?_⟩
                        refine d_takef (i := 7) (L' := #[tT,tT,tT,tT,tT,tT,tT,tT,fF,fF,fF,fF,fF,fF,fF]) rfl (by kernel_rfl) rfl (fun _ _ _ h => h) hA (by decide) (fun h => absurd h (by decide)) (fun a w' hA => run_move (hA.ev rfl)) ?_; clear hA; intro a hA
                        refine d_takef (i := 8) (L' := #[tT,tT,tT,tT,tT,tT,tT,tT,tT,fF,fF,fF,fF,fF,fF]) rfl (by kernel_rfl) rfl (fun _ _ _ h => h) hA (by decide) (fun h => absurd h (by decide)) (fun a w' hA => run_ext (hA.ev rfl) rfl) ?_; clear hA; intro a hA
                        refine d_takef (i := 9) (L' := #[tT,tT,tT,tT,tT,tT,tT,tT,tT,tT,fF,fF,fF,fF,fF]) rfl (by kernel_rfl) rfl (fun _ _ _ h => h) hA (by decide) (fun h => absurd h (by decide)) (fun a w' hA => run_ext (hA.ev rfl) rfl) ?_; clear hA; intro a hA
                        refine d_takef (i := 10) (L' := #[tT,tT,tT,tT,tT,tT,tT,tT,tT,tT,tT,fF,fF,fF,fF]) rfl (by kernel_rfl) rfl (fun _ _ _ h => h) hA (by decide) (fun h => absurd h (by decide)) (fun a w' hA => run_ext (hA.ev rfl) rfl) ?_; clear hA; intro a hA
                        refine d_one (i := 11) (L' := #[tT,tT,tT,tT,tT,tT,tT,tT,tT,tT,tT,tT,fF,fF,fF]) (by kernel_rfl) rfl rfl (e_alloc (cs := [(.int .u32 0), (.bool false), (.slice none 0 0), (.slice none 0 0), (.slice none 0 0)]) hM zero39 rfl hA (by decide) ?_)
                        clear hM hA; intro w14935 g14934 hM hE  a hA
                        refine ⟨fun h => absurd h (by decide), ?_⟩
                        refine d_one (i := 12) (L' := #[tT,tT,tT,tT,tT,tT,tT,tT,tT,tT,tT,tT,tT,fF,fF]) (by kernel_rfl) rfl rfl (e_store (g := g14934) (off := 0) (cur := [(.int .u32 0), (.bool false), (.slice none 0 0), (.slice none 0 0), (.slice none 0 0)]) (cs' := [(.int .u32 r14864.1.Epoch), (.bool r14864.1.Diffuse), (.slice A14928 r14864.1.Routes.length c14929), (.slice A14930 r14864.1.Stems.length c14931), (.slice A14932 r14864.1.Fluffed.length c14933)]) hM .z Try.sizeOf39 hA rfl (by simp [add_mk]) rfl (by first | rfl | simp [Value.cells, Pl.len]) (by simp [Value.cells, Value.oneCell']) (by first | exact Nat.le_of_ble_eq_true rfl | (simp [Pl.len]; done)) (spl_all (by first | rfl | simp [Value.cells, Pl.len])) ?_)
                        clear hM hA; intro w14936  hM hE  a hA
                        refine ⟨fun h => absurd h (by decide), ?_⟩
                        refine d_takef (i := 13) (L' := #[tT,tT,tT,tT,tT,tT,tT,tT,tT,tT,tT,tT,tT,tT,fF]) rfl (by kernel_rfl) rfl (fun _ _ _ h => h) hA (by decide) (fun h => absurd h (by decide)) (fun a w' hA => run_assign (hA.ev rfl)) ?_; clear hA; intro a hA
                        refine d_takef (i := 14) (L' := #[tT,tT,tT,tT,tT,tT,tT,tT,tT,tT,tT,tT,tT,tT,tT]) rfl (by kernel_rfl) rfl (fun _ _ _ h => h) hA (by decide) (fun h => absurd h (by decide)) (fun a w' hA => run_assign (hA.ev rfl)) ?_; clear hA; intro a hA
                        refine d_done (by kernel_rfl) ?_
                        exact ⟨r14861.2.At_, r14864.1.Epoch, r14864.1.Diffuse, r14864.1.Routes, r14864.1.Stems, r14864.1.Fluffed, r14864.2.1, r14864.2.2, g14934, (.slice A14928 r14864.1.Routes.length c14929), (.slice A14930 r14864.1.Stems.length c14931), (.slice A14932 r14864.1.Fluffed.length c14933), Option.some.inj H14858, (hM.sel [6, 7, 8, 9, 4, 10, 11, 5, 0, 1, 2, 3] rfl (by decide)), (((((((((hA.nil.cons (hA.get 21 _ rfl)).cons (hA.get 20 _ rfl)).cons (hA.get 19 _ rfl)).cons (hA.get 10 _ rfl)).cons (hA.get 9 _ rfl)).cons (hA.get 8 _ rfl)).cons (hA.get 7 _ rfl)).cons (hA.get 6 _ rfl)).cons (hA.get 5 _ rfl))⟩
                      · refine d_op (i := 11) (L' := #[tT,tT,tT,tT,tT,tT,fF,fF,fF,fF,fF,tT,fF,fF,fF]) rfl rfl (e_alloc (cs := [(.int .u32 0), (.bool false), (.slice none 0 0), (.slice none 0 0), (.slice none 0 0)]) hM zero39 rfl hA (by decide) ?_)
                        clear hM hA; intro w14938 g14937 hM hE  a hA
                        refine ⟨fun h => absurd h (by decide), ?_⟩
                        refine d_one (i := 6) (L' := #[tT,tT,tT,tT,tT,tT,tT,fF,fF,fF,fF,tT,fF,fF,fF]) (by kernel_rfl) rfl rfl (st_call Try.call25 hA [(.agg #[(.int .u32 x13448), (.bool x13449), (.slice A13452 xs13454.length c13453), (.slice A13457 xs13459.length c13458), (.slice A13462 xs13464.length c13463)]), (.int .i64 (IntKind.i64.wrap (r14861.1 - 1))), (.agg (pHash.enc (((Vector.replicate 32 0 : Vector Int 32).setIfInBounds 0 (IntKind.u8.wrap r13528.1)))).toArray), (.int .u32 (IntKind.u32.wrap (t13480 + (IntKind.u32.wrap r13525.1)))), (.int .u32 10)] rfl (by decide) (relay_Hear.calls _ (Relay.mk x13448 x13449 xs13454 xs13459 xs13464) _ _ _ _ _ _ _ _ _ _ ((hM.roV (p := (Pl.int .i64)) (Ms := []) (.s (.s (.s (.s .z)))))) ((hM.roV (p := pStem) (Ms := []) (.s (.s (.s (.s (.s .z))))))) ((hM.roV (p := pHash) (Ms := []) (.s (.s (.s (.s (.s (.s .z)))))))) (hM.front (Ms := [])) H14865) ?_)
                        clear hA; rintro _ w14939 ⟨v14940, v14941, v14942, rfl, hMc⟩ a hA
                        have hE := hMc.below; have hM := hM.call (Ms := []) hMc
                        clear hMc; simp only [List.cons_append, List.nil_append] at hM
                        obtain ⟨A14943, c14944, rfl⟩ := RowOk.form (hM.row (p := (Pl.int .i64)) .z)
                        obtain ⟨A14945, c14946, rfl⟩ := RowOk.form (hM.row (p := pStem) (.s .z))
                        obtain ⟨A14947, c14948, rfl⟩ := RowOk.form (hM.row (p := pHash) (.s (.s .z)))
                        refine ⟨fun h => absurd h (by decide), ?_⟩
                        refine d_takef (i := 7) (L' := #[tT,tT,tT,tT,tT,tT,tT,tT,fF,fF,fF,tT,fF,fF,fF]) rfl (by kernel_rfl) rfl (fun _ _ _ h => h) hA (by decide) (fun h => absurd h (by decide)) (fun a w' hA => run_move (hA.ev rfl)) ?_; clear hA; intro a hA
                        refine d_takef (i := 8) (L' := #[tT,tT,tT,tT,tT,tT,tT,tT,tT,fF,fF,tT,fF,fF,fF]) rfl (by kernel_rfl) rfl (fun _ _ _ h => h) hA (by decide) (fun h => absurd h (by decide)) (fun a w' hA => run_ext (hA.ev rfl) rfl) ?_; clear hA; intro a hA
                        refine d_takef (i := 9) (L' := #[tT,tT,tT,tT,tT,tT,tT,tT,tT,tT,fF,tT,fF,fF,fF]) rfl (by kernel_rfl) rfl (fun _ _ _ h => h) hA (by decide) (fun h => absurd h (by decide)) (fun a w' hA => run_ext (hA.ev rfl) rfl) ?_; clear hA; intro a hA
                        refine d_takef (i := 10) (L' := #[tT,tT,tT,tT,tT,tT,tT,tT,tT,tT,tT,tT,fF,fF,fF]) rfl (by kernel_rfl) rfl (fun _ _ _ h => h) hA (by decide) (fun h => absurd h (by decide)) (fun a w' hA => run_ext (hA.ev rfl) rfl) ?_; clear hA; intro a hA
                        refine d_one (i := 12) (L' := #[tT,tT,tT,tT,tT,tT,tT,tT,tT,tT,tT,tT,tT,fF,fF]) (by kernel_rfl) rfl rfl (e_store (g := g14937) (off := 0) (cur := [(.int .u32 0), (.bool false), (.slice none 0 0), (.slice none 0 0), (.slice none 0 0)]) (cs' := [(.int .u32 r14864.1.Epoch), (.bool r14864.1.Diffuse), (.slice A14943 r14864.1.Routes.length c14944), (.slice A14945 r14864.1.Stems.length c14946), (.slice A14947 r14864.1.Fluffed.length c14948)]) hM (.s (.s (.s .z))) Try.sizeOf39 hA rfl (by simp [add_mk]) rfl (by first | rfl | simp [Value.cells, Pl.len]) (by simp [Value.cells, Value.oneCell']) (by first | exact Nat.le_of_ble_eq_true rfl | (simp [Pl.len]; done)) (spl_all (by first | rfl | simp [Value.cells, Pl.len])) ?_)
                        clear hM hA; intro w14949  hM hE  a hA
                        refine ⟨fun h => absurd h (by decide), ?_⟩
                        refine d_takef (i := 13) (L' := #[tT,tT,tT,tT,tT,tT,tT,tT,tT,tT,tT,tT,tT,tT,fF]) rfl (by kernel_rfl) rfl (fun _ _ _ h => h) hA (by decide) (fun h => absurd h (by decide)) (fun a w' hA => run_assign (hA.ev rfl)) ?_; clear hA; intro a hA
                        refine d_takef (i := 14) (L' := #[tT,tT,tT,tT,tT,tT,tT,tT,tT,tT,tT,tT,tT,tT,tT]) rfl (by kernel_rfl) rfl (fun _ _ _ h => h) hA (by decide) (fun h => absurd h (by decide)) (fun a w' hA => run_assign (hA.ev rfl)) ?_; clear hA; intro a hA
                        refine d_done (by kernel_rfl) ?_
                        exact ⟨r14861.2.At_, r14864.1.Epoch, r14864.1.Diffuse, r14864.1.Routes, r14864.1.Stems, r14864.1.Fluffed, r14864.2.1, r14864.2.2, g14937, (.slice A14943 r14864.1.Routes.length c14944), (.slice A14945 r14864.1.Stems.length c14946), (.slice A14947 r14864.1.Fluffed.length c14948), Option.some.inj H14858, (hM.sel [6, 7, 8, 9, 4, 10, 11, 5, 3, 0, 1, 2] rfl (by decide)), (((((((((hA.nil.cons (hA.get 21 _ rfl)).cons (hA.get 20 _ rfl)).cons (hA.get 19 _ rfl)).cons (hA.get 10 _ rfl)).cons (hA.get 9 _ rfl)).cons (hA.get 8 _ rfl)).cons (hA.get 7 _ rfl)).cons (hA.get 6 _ rfl)).cons (hA.get 5 _ rfl))⟩
                    · refine d_op (i := 11) (L' := #[tT,tT,fF,fF,tT,tT,fF,fF,fF,fF,fF,tT,fF,fF,fF]) rfl rfl (e_alloc (cs := [(.int .u32 0), (.bool false), (.slice none 0 0), (.slice none 0 0), (.slice none 0 0)]) hM zero39 rfl hA (by decide) ?_)
                      clear hM hA; intro w14951 g14950 hM hE  a hA
                      replace hS := hS.trans (hE.mono hS.size)
                      refine ⟨fun _ => hS, ?_⟩
                      have hM := hM.sel [1, 0, 2, 3, 4, 5, 6, 7, 8] rfl (by decide)
                      refine d_one (i := 2) (L' := #[tT,tT,tT,fF,tT,tT,fF,fF,fF,fF,fF,tT,fF,fF,fF]) (by kernel_rfl) rfl rfl (st_call Try.call23 hA [(.pointer (some (⟨g7760, 0, none⟩))), (.int .i64 9)] rfl (by decide) (mill_Deck_Next.calls _ (lightclientmill_Deck.mk o_1 r13535.2.At_) _ _ _ _ _ _ ((RoV.mk (hM.roC (Ms := [_]) hr1) (Eq.refl o_1.length) hc1)) (hM.front (Ms := [_])) H14862) ?_)
                      clear hA; rintro _ w14952 ⟨rfl, hMc⟩ a hA
                      have hM := hM.call (Ms := [_]) hMc
                      clear hMc; simp only [List.cons_append, List.nil_append] at hM
                      refine ⟨fun h => absurd h (by decide), ?_⟩
                      refine d_takef (i := 3) (L' := #[tT,tT,tT,tT,tT,tT,fF,fF,fF,fF,fF,tT,fF,fF,fF]) rfl (by kernel_rfl) rfl (fun _ _ _ h => h) hA (by decide) (fun h => absurd h (by decide)) (fun a w' hA => run_bin (hA.ev rfl) (hA.ev rfl) (bin_sub _ _ _ _)) ?_; clear hA; intro a hA
                      refine d_one (i := 6) (L' := #[tT,tT,tT,tT,tT,tT,tT,fF,fF,fF,fF,tT,fF,fF,fF]) (by kernel_rfl) rfl rfl (st_call Try.call25 hA [(.agg #[(.int .u32 x13448), (.bool x13449), (.slice A13452 xs13454.length c13453), (.slice A13457 xs13459.length c13458), (.slice A13462 xs13464.length c13463)]), (.int .i64 (IntKind.i64.wrap (r14861.1 - 1))), (.agg (pHash.enc (((Vector.replicate 32 0 : Vector Int 32).setIfInBounds 0 (IntKind.u8.wrap r13528.1)))).toArray), (.int .u32 (IntKind.u32.wrap (t13480 + (IntKind.u32.wrap r13525.1)))), (.int .u32 10)] rfl (by decide) (relay_Hear.calls _ (Relay.mk x13448 x13449 xs13454 xs13459 xs13464) _ _ _ _ _ _ _ _ _ _ ((hM.roV (p := (Pl.int .i64)) (Ms := []) (.s (.s (.s (.s .z)))))) ((hM.roV (p := pStem) (Ms := []) (.s (.s (.s (.s (.s .z))))))) ((hM.roV (p := pHash) (Ms := []) (.s (.s (.s (.s (.s (.s .z)))))))) (hM.front (Ms := [])) H14865) ?_)
                      clear hA; rintro _ w14953 ⟨v14954, v14955, v14956, rfl, hMc⟩ a hA
                      have hE := hMc.below; have hM := hM.call (Ms := []) hMc
                      clear hMc; simp only [List.cons_append, List.nil_append] at hM
                      obtain ⟨A14957, c14958, rfl⟩ := RowOk.form (hM.row (p := (Pl.int .i64)) .z)
                      obtain ⟨A14959, c14960, rfl⟩ := RowOk.form (hM.row (p := pStem) (.s .z))
                      obtain ⟨A14961, c14962, rfl⟩ := RowOk.form (hM.row (p := pHash) (.s (.s .z)))
                      refine ⟨fun h => absurd h (by decide), ?_⟩
                      refine d_takef (i := 7) (L' := #[tT,tT,tT,tT,tT,tT,tT,tT,fF,fF,fF,tT,fF,fF,fF]) rfl (by kernel_rfl) rfl (fun _ _ _ h => h) hA (by decide) (fun h => absurd h (by decide)) (fun a w' hA => run_move (hA.ev rfl)) ?_; clear hA; intro a hA
                      refine d_takef (i := 8) (L' := #[tT,tT,tT,tT,tT,tT,tT,tT,tT,fF,fF,tT,fF,fF,fF]) rfl (by kernel_rfl) rfl (fun _ _ _ h => h) hA (by decide) (fun h => absurd h (by decide)) (fun a w' hA => run_ext (hA.ev rfl) rfl) ?_; clear hA; intro a hA
                      refine d_takef (i := 9) (L' := #[tT,tT,tT,tT,tT,tT,tT,tT,tT,tT,fF,tT,fF,fF,fF]) rfl (by kernel_rfl) rfl (fun _ _ _ h => h) hA (by decide) (fun h => absurd h (by decide)) (fun a w' hA => run_ext (hA.ev rfl) rfl) ?_; clear hA; intro a hA
                      refine d_takef (i := 10) (L' := #[tT,tT,tT,tT,tT,tT,tT,tT,tT,tT,tT,tT,fF,fF,fF]) rfl (by kernel_rfl) rfl (fun _ _ _ h => h) hA (by decide) (fun h => absurd h (by decide)) (fun a w' hA => run_ext (hA.ev rfl) rfl) ?_; clear hA; intro a hA
                      refine d_one (i := 12) (L' := #[tT,tT,tT,tT,tT,tT,tT,tT,tT,tT,tT,tT,tT,fF,fF]) (by kernel_rfl) rfl rfl (e_store (g := g14950) (off := 0) (cur := [(.int .u32 0), (.bool false), (.slice none 0 0), (.slice none 0 0), (.slice none 0 0)]) (cs' := [(.int .u32 r14864.1.Epoch), (.bool r14864.1.Diffuse), (.slice A14957 r14864.1.Routes.length c14958), (.slice A14959 r14864.1.Stems.length c14960), (.slice A14961 r14864.1.Fluffed.length c14962)]) hM (.s (.s (.s (.s .z)))) Try.sizeOf39 hA rfl (by simp [add_mk]) rfl (by first | rfl | simp [Value.cells, Pl.len]) (by simp [Value.cells, Value.oneCell']) (by first | exact Nat.le_of_ble_eq_true rfl | (simp [Pl.len]; done)) (spl_all (by first | rfl | simp [Value.cells, Pl.len])) ?_)
                      clear hM hA; intro w14963  hM hE  a hA
                      refine ⟨fun h => absurd h (by decide), ?_⟩
                      refine d_takef (i := 13) (L' := #[tT,tT,tT,tT,tT,tT,tT,tT,tT,tT,tT,tT,tT,tT,fF]) rfl (by kernel_rfl) rfl (fun _ _ _ h => h) hA (by decide) (fun h => absurd h (by decide)) (fun a w' hA => run_assign (hA.ev rfl)) ?_; clear hA; intro a hA
                      refine d_takef (i := 14) (L' := #[tT,tT,tT,tT,tT,tT,tT,tT,tT,tT,tT,tT,tT,tT,tT]) rfl (by kernel_rfl) rfl (fun _ _ _ h => h) hA (by decide) (fun h => absurd h (by decide)) (fun a w' hA => run_assign (hA.ev rfl)) ?_; clear hA; intro a hA
                      refine d_done (by kernel_rfl) ?_
                      exact ⟨r14861.2.At_, r14864.1.Epoch, r14864.1.Diffuse, r14864.1.Routes, r14864.1.Stems, r14864.1.Fluffed, r14864.2.1, r14864.2.2, g14950, (.slice A14957 r14864.1.Routes.length c14958), (.slice A14959 r14864.1.Stems.length c14960), (.slice A14961 r14864.1.Fluffed.length c14962), Option.some.inj H14858, (hM.sel [6, 7, 8, 9, 3, 10, 11, 5, 4, 0, 1, 2] rfl (by decide)), (((((((((hA.nil.cons (hA.get 21 _ rfl)).cons (hA.get 20 _ rfl)).cons (hA.get 19 _ rfl)).cons (hA.get 10 _ rfl)).cons (hA.get 9 _ rfl)).cons (hA.get 8 _ rfl)).cons (hA.get 7 _ rfl)).cons (hA.get 6 _ rfl)).cons (hA.get 5 _ rfl))⟩
                  · refine d_op (i := 11) (L' := #[tT,tT,fF,fF,fF,tT,fF,fF,fF,fF,fF,tT,fF,fF,fF]) rfl rfl (e_alloc (cs := [(.int .u32 0), (.bool false), (.slice none 0 0), (.slice none 0 0), (.slice none 0 0)]) hM zero39 rfl hA (by decide) ?_)
                    clear hM hA; intro w14965 g14964 hM hE  a hA
                    replace hS := hS.trans (hE.mono hS.size)
                    refine ⟨fun _ => hS, ?_⟩
                    refine d_many (is := [2, 4]) (by kernel_rfl) (by decide) ⟨?_, ?_, trivial⟩
                    · have hM := hM.sel [1, 0, 2, 3, 4, 5, 6, 7, 8] rfl (by decide)
                      refine d_op (i := 2) (L' := #[tT,tT,tT,fF,fF,tT,fF,fF,fF,fF,fF,tT,fF,fF,fF]) rfl rfl (st_call Try.call23 hA [(.pointer (some (⟨g7760, 0, none⟩))), (.int .i64 9)] rfl (by decide) (mill_Deck_Next.calls _ (lightclientmill_Deck.mk o_1 r13535.2.At_) _ _ _ _ _ _ ((RoV.mk (hM.roC (Ms := [_]) hr1) (Eq.refl o_1.length) hc1)) (hM.front (Ms := [_])) H14862) ?_)
                      clear hA; rintro _ w14966 ⟨rfl, hMc⟩ a hA
                      have hM := hM.call (Ms := [_]) hMc
                      clear hMc; simp only [List.cons_append, List.nil_append] at hM
                      refine ⟨fun h => absurd h (by decide), ?_⟩
                      refine d_takef (i := 3) (L' := #[tT,tT,tT,tT,fF,tT,fF,fF,fF,fF,fF,tT,fF,fF,fF]) rfl (by kernel_rfl) rfl (fun _ _ _ h => h) hA (by decide) (fun h => absurd h (by decide)) (fun a w' hA => run_bin (hA.ev rfl) (hA.ev rfl) (bin_sub _ _ _ _)) ?_; clear hA; intro a hA
                      refine d_one (i := 4) (L' := #[tT,tT,tT,tT,tT,tT,fF,fF,fF,fF,fF,tT,fF,fF,fF]) (by kernel_rfl) rfl rfl (stv hA (by decide) (run_ld (hA.ev rfl) (run_loadP Try.isAgg34 Try.sizeOf34 (hM.box (.s (.s .z))))) ?_)
                      clear hA; intro a hA
                      refine ⟨fun h => absurd h (by decide), ?_⟩
                      refine d_one (i := 6) (L' := #[tT,tT,tT,tT,tT,tT,tT,fF,fF,fF,fF,tT,fF,fF,fF]) (by kernel_rfl) rfl rfl (st_call Try.call25 hA [(.agg #[(.int .u32 x13448), (.bool x13449), (.slice A13452 xs13454.length c13453), (.slice A13457 xs13459.length c13458), (.slice A13462 xs13464.length c13463)]), (.int .i64 (IntKind.i64.wrap (r14861.1 - 1))), (.agg (pHash.enc (((Vector.replicate 32 0 : Vector Int 32).setIfInBounds 0 (IntKind.u8.wrap r13528.1)))).toArray), (.int .u32 (IntKind.u32.wrap (t13480 + (IntKind.u32.wrap r13525.1)))), (.int .u32 10)] rfl (by decide) (relay_Hear.calls _ (Relay.mk x13448 x13449 xs13454 xs13459 xs13464) _ _ _ _ _ _ _ _ _ _ ((hM.roV (p := (Pl.int .i64)) (Ms := []) (.s (.s (.s (.s .z)))))) ((hM.roV (p := pStem) (Ms := []) (.s (.s (.s (.s (.s .z))))))) ((hM.roV (p := pHash) (Ms := []) (.s (.s (.s (.s (.s (.s .z)))))))) (hM.front (Ms := [])) H14865) ?_)
                      clear hA; rintro _ w14967 ⟨v14968, v14969, v14970, rfl, hMc⟩ a hA
                      have hE := hMc.below; have hM := hM.call (Ms := []) hMc
                      clear hMc; simp only [List.cons_append, List.nil_append] at hM
                      obtain ⟨A14971, c14972, rfl⟩ := RowOk.form (hM.row (p := (Pl.int .i64)) .z)
                      obtain ⟨A14973, c14974, rfl⟩ := RowOk.form (hM.row (p := pStem) (.s .z))
                      obtain ⟨A14975, c14976, rfl⟩ := RowOk.form (hM.row (p := pHash) (.s (.s .z)))
                      refine ⟨fun h => absurd h (by decide), ?_⟩
                      refine d_takef (i := 7) (L' := #[tT,tT,tT,tT,tT,tT,tT,tT,fF,fF,fF,tT,fF,fF,fF]) rfl (by kernel_rfl) rfl (fun _ _ _ h => h) hA (by decide) (fun h => absurd h (by decide)) (fun a w' hA => run_move (hA.ev rfl)) ?_; clear hA; intro a hA
                      refine d_takef (i := 8) (L' := #[tT,tT,tT,tT,tT,tT,tT,tT,tT,fF,fF,tT,fF,fF,fF]) rfl (by kernel_rfl) rfl (fun _ _ _ h => h) hA (by decide) (fun h => absurd h (by decide)) (fun a w' hA => run_ext (hA.ev rfl) rfl) ?_; clear hA; intro a hA
                      refine d_takef (i := 9) (L' := #[tT,tT,tT,tT,tT,tT,tT,tT,tT,tT,fF,tT,fF,fF,fF]) rfl (by kernel_rfl) rfl (fun _ _ _ h => h) hA (by decide) (fun h => absurd h (by decide)) (fun a w' hA => run_ext (hA.ev rfl) rfl) ?_; clear hA; intro a hA
                      refine d_takef (i := 10) (L' := #[tT,tT,tT,tT,tT,tT,tT,tT,tT,tT,tT,tT,fF,fF,fF]) rfl (by kernel_rfl) rfl (fun _ _ _ h => h) hA (by decide) (fun h => absurd h (by decide)) (fun a w' hA => run_ext (hA.ev rfl) rfl) ?_; clear hA; intro a hA
                      refine d_one (i := 12) (L' := #[tT,tT,tT,tT,tT,tT,tT,tT,tT,tT,tT,tT,tT,fF,fF]) (by kernel_rfl) rfl rfl (e_store (g := g14964) (off := 0) (cur := [(.int .u32 0), (.bool false), (.slice none 0 0), (.slice none 0 0), (.slice none 0 0)]) (cs' := [(.int .u32 r14864.1.Epoch), (.bool r14864.1.Diffuse), (.slice A14971 r14864.1.Routes.length c14972), (.slice A14973 r14864.1.Stems.length c14974), (.slice A14975 r14864.1.Fluffed.length c14976)]) hM (.s (.s (.s (.s .z)))) Try.sizeOf39 hA rfl (by simp [add_mk]) rfl (by first | rfl | simp [Value.cells, Pl.len]) (by simp [Value.cells, Value.oneCell']) (by first | exact Nat.le_of_ble_eq_true rfl | (simp [Pl.len]; done)) (spl_all (by first | rfl | simp [Value.cells, Pl.len])) ?_)
                      clear hM hA; intro w14977  hM hE  a hA
                      refine ⟨fun h => absurd h (by decide), ?_⟩
                      refine d_takef (i := 13) (L' := #[tT,tT,tT,tT,tT,tT,tT,tT,tT,tT,tT,tT,tT,tT,fF]) rfl (by kernel_rfl) rfl (fun _ _ _ h => h) hA (by decide) (fun h => absurd h (by decide)) (fun a w' hA => run_assign (hA.ev rfl)) ?_; clear hA; intro a hA
                      refine d_takef (i := 14) (L' := #[tT,tT,tT,tT,tT,tT,tT,tT,tT,tT,tT,tT,tT,tT,tT]) rfl (by kernel_rfl) rfl (fun _ _ _ h => h) hA (by decide) (fun h => absurd h (by decide)) (fun a w' hA => run_assign (hA.ev rfl)) ?_; clear hA; intro a hA
                      refine d_done (by kernel_rfl) ?_
                      exact ⟨r14861.2.At_, r14864.1.Epoch, r14864.1.Diffuse, r14864.1.Routes, r14864.1.Stems, r14864.1.Fluffed, r14864.2.1, r14864.2.2, g14964, (.slice A14971 r14864.1.Routes.length c14972), (.slice A14973 r14864.1.Stems.length c14974), (.slice A14975 r14864.1.Fluffed.length c14976), Option.some.inj H14858, (hM.sel [6, 7, 8, 9, 3, 10, 11, 5, 4, 0, 1, 2] rfl (by decide)), (((((((((hA.nil.cons (hA.get 21 _ rfl)).cons (hA.get 20 _ rfl)).cons (hA.get 19 _ rfl)).cons (hA.get 10 _ rfl)).cons (hA.get 9 _ rfl)).cons (hA.get 8 _ rfl)).cons (hA.get 7 _ rfl)).cons (hA.get 6 _ rfl)).cons (hA.get 5 _ rfl))⟩
                    · refine d_op (i := 4) (L' := #[tT,tT,fF,fF,tT,tT,fF,fF,fF,fF,fF,tT,fF,fF,fF]) rfl rfl (stv hA (by decide) (run_ld (hA.ev rfl) (run_loadP Try.isAgg34 Try.sizeOf34 (hM.box (.s (.s .z))))) ?_)
                      clear hA; intro a hA
                      refine ⟨fun _ => hS, ?_⟩
                      have hM := hM.sel [1, 0, 2, 3, 4, 5, 6, 7, 8] rfl (by decide)
                      refine d_one (i := 2) (L' := #[tT,tT,tT,fF,tT,tT,fF,fF,fF,fF,fF,tT,fF,fF,fF]) (by kernel_rfl) rfl rfl (st_call Try.call23 hA [(.pointer (some (⟨g7760, 0, none⟩))), (.int .i64 9)] rfl (by decide) (mill_Deck_Next.calls _ (lightclientmill_Deck.mk o_1 r13535.2.At_) _ _ _ _ _ _ ((RoV.mk (hM.roC (Ms := [_]) hr1) (Eq.refl o_1.length) hc1)) (hM.front (Ms := [_])) H14862) ?_)
                      clear hA; rintro _ w14978 ⟨rfl, hMc⟩ a hA
                      have hM := hM.call (Ms := [_]) hMc
                      clear hMc; simp only [List.cons_append, List.nil_append] at hM
                      refine ⟨fun h => absurd h (by decide), ?_⟩
                      refine d_takef (i := 3) (L' := #[tT,tT,tT,tT,tT,tT,fF,fF,fF,fF,fF,tT,fF,fF,fF]) rfl (by kernel_rfl) rfl (fun _ _ _ h => h) hA (by decide) (fun h => absurd h (by decide)) (fun a w' hA => run_bin (hA.ev rfl) (hA.ev rfl) (bin_sub _ _ _ _)) ?_; clear hA; intro a hA
                      refine d_one (i := 6) (L' := #[tT,tT,tT,tT,tT,tT,tT,fF,fF,fF,fF,tT,fF,fF,fF]) (by kernel_rfl) rfl rfl (st_call Try.call25 hA [(.agg #[(.int .u32 x13448), (.bool x13449), (.slice A13452 xs13454.length c13453), (.slice A13457 xs13459.length c13458), (.slice A13462 xs13464.length c13463)]), (.int .i64 (IntKind.i64.wrap (r14861.1 - 1))), (.agg (pHash.enc (((Vector.replicate 32 0 : Vector Int 32).setIfInBounds 0 (IntKind.u8.wrap r13528.1)))).toArray), (.int .u32 (IntKind.u32.wrap (t13480 + (IntKind.u32.wrap r13525.1)))), (.int .u32 10)] rfl (by decide) (relay_Hear.calls _ (Relay.mk x13448 x13449 xs13454 xs13459 xs13464) _ _ _ _ _ _ _ _ _ _ ((hM.roV (p := (Pl.int .i64)) (Ms := []) (.s (.s (.s (.s .z)))))) ((hM.roV (p := pStem) (Ms := []) (.s (.s (.s (.s (.s .z))))))) ((hM.roV (p := pHash) (Ms := []) (.s (.s (.s (.s (.s (.s .z)))))))) (hM.front (Ms := [])) H14865) ?_)
                      clear hA; rintro _ w14979 ⟨v14980, v14981, v14982, rfl, hMc⟩ a hA
                      have hE := hMc.below; have hM := hM.call (Ms := []) hMc
                      clear hMc; simp only [List.cons_append, List.nil_append] at hM
                      obtain ⟨A14983, c14984, rfl⟩ := RowOk.form (hM.row (p := (Pl.int .i64)) .z)
                      obtain ⟨A14985, c14986, rfl⟩ := RowOk.form (hM.row (p := pStem) (.s .z))
                      obtain ⟨A14987, c14988, rfl⟩ := RowOk.form (hM.row (p := pHash) (.s (.s .z)))
                      refine ⟨fun h => absurd h (by decide), ?_⟩
                      refine d_takef (i := 7) (L' := #[tT,tT,tT,tT,tT,tT,tT,tT,fF,fF,fF,tT,fF,fF,fF]) rfl (by kernel_rfl) rfl (fun _ _ _ h => h) hA (by decide) (fun h => absurd h (by decide)) (fun a w' hA => run_move (hA.ev rfl)) ?_; clear hA; intro a hA
                      refine d_takef (i := 8) (L' := #[tT,tT,tT,tT,tT,tT,tT,tT,tT,fF,fF,tT,fF,fF,fF]) rfl (by kernel_rfl) rfl (fun _ _ _ h => h) hA (by decide) (fun h => absurd h (by decide)) (fun a w' hA => run_ext (hA.ev rfl) rfl) ?_; clear hA; intro a hA
                      refine d_takef (i := 9) (L' := #[tT,tT,tT,tT,tT,tT,tT,tT,tT,tT,fF,tT,fF,fF,fF]) rfl (by kernel_rfl) rfl (fun _ _ _ h => h) hA (by decide) (fun h => absurd h (by decide)) (fun a w' hA => run_ext (hA.ev rfl) rfl) ?_; clear hA; intro a hA
                      refine d_takef (i := 10) (L' := #[tT,tT,tT,tT,tT,tT,tT,tT,tT,tT,tT,tT,fF,fF,fF]) rfl (by kernel_rfl) rfl (fun _ _ _ h => h) hA (by decide) (fun h => absurd h (by decide)) (fun a w' hA => run_ext (hA.ev rfl) rfl) ?_; clear hA; intro a hA
                      refine d_one (i := 12) (L' := #[tT,tT,tT,tT,tT,tT,tT,tT,tT,tT,tT,tT,tT,fF,fF]) (by kernel_rfl) rfl rfl (e_store (g := g14964) (off := 0) (cur := [(.int .u32 0), (.bool false), (.slice none 0 0), (.slice none 0 0), (.slice none 0 0)]) (cs' := [(.int .u32 r14864.1.Epoch), (.bool r14864.1.Diffuse), (.slice A14983 r14864.1.Routes.length c14984), (.slice A14985 r14864.1.Stems.length c14986), (.slice A14987 r14864.1.Fluffed.length c14988)]) hM (.s (.s (.s (.s .z)))) Try.sizeOf39 hA rfl (by simp [add_mk]) rfl (by first | rfl | simp [Value.cells, Pl.len]) (by simp [Value.cells, Value.oneCell']) (by first | exact Nat.le_of_ble_eq_true rfl | (simp [Pl.len]; done)) (spl_all (by first | rfl | simp [Value.cells, Pl.len])) ?_)
                      clear hM hA; intro w14989  hM hE  a hA
                      refine ⟨fun h => absurd h (by decide), ?_⟩
                      refine d_takef (i := 13) (L' := #[tT,tT,tT,tT,tT,tT,tT,tT,tT,tT,tT,tT,tT,tT,fF]) rfl (by kernel_rfl) rfl (fun _ _ _ h => h) hA (by decide) (fun h => absurd h (by decide)) (fun a w' hA => run_assign (hA.ev rfl)) ?_; clear hA; intro a hA
                      refine d_takef (i := 14) (L' := #[tT,tT,tT,tT,tT,tT,tT,tT,tT,tT,tT,tT,tT,tT,tT]) rfl (by kernel_rfl) rfl (fun _ _ _ h => h) hA (by decide) (fun h => absurd h (by decide)) (fun a w' hA => run_assign (hA.ev rfl)) ?_; clear hA; intro a hA
                      refine d_done (by kernel_rfl) ?_
                      exact ⟨r14861.2.At_, r14864.1.Epoch, r14864.1.Diffuse, r14864.1.Routes, r14864.1.Stems, r14864.1.Fluffed, r14864.2.1, r14864.2.2, g14964, (.slice A14983 r14864.1.Routes.length c14984), (.slice A14985 r14864.1.Stems.length c14986), (.slice A14987 r14864.1.Fluffed.length c14988), Option.some.inj H14858, (hM.sel [6, 7, 8, 9, 3, 10, 11, 5, 4, 0, 1, 2] rfl (by decide)), (((((((((hA.nil.cons (hA.get 21 _ rfl)).cons (hA.get 20 _ rfl)).cons (hA.get 19 _ rfl)).cons (hA.get 10 _ rfl)).cons (hA.get 9 _ rfl)).cons (hA.get 8 _ rfl)).cons (hA.get 7 _ rfl)).cons (hA.get 6 _ rfl)).cons (hA.get 5 _ rfl))⟩
                · refine d_op (i := 2) (L' := #[fF,tT,tT,fF,fF,tT,fF,fF,fF,fF,fF,fF,fF,fF,fF]) rfl rfl (st_call Try.call23 hA [(.pointer (some (⟨g7760, 0, none⟩))), (.int .i64 9)] rfl (by decide) (mill_Deck_Next.calls _ (lightclientmill_Deck.mk o_1 r13535.2.At_) _ _ _ _ _ _ ((RoV.mk (hM.roC (Ms := [_]) hr1) (Eq.refl o_1.length) hc1)) (hM.front (Ms := [_])) H14862) ?_)
                  clear hA; rintro _ w14990 ⟨rfl, hMc⟩ a hA
                  have hM := hM.call (Ms := [_]) hMc
                  clear hMc; simp only [List.cons_append, List.nil_append] at hM
                  refine ⟨fun h => absurd h (by decide), ?_⟩
                  refine d_takef (i := 3) (L' := #[fF,tT,tT,tT,fF,tT,fF,fF,fF,fF,fF,fF,fF,fF,fF]) rfl (by kernel_rfl) rfl (fun _ _ _ h => h) hA (by decide) (fun h => absurd h (by decide)) (fun a w' hA => run_bin (hA.ev rfl) (hA.ev rfl) (bin_sub _ _ _ _)) ?_; clear hA; intro a hA
                  refine d_many (is := [0, 4, 11]) (by kernel_rfl) (by decide) ⟨?_, ?_, ?_, trivial⟩
                  · refine d_op (i := 0) (L' := #[tT,tT,tT,tT,fF,tT,fF,fF,fF,fF,fF,fF,fF,fF,fF]) rfl rfl (stv hA (by decide) (run_ld (hA.ev rfl) (run_loadW Try.isAgg39 Try.sizeOf39 (by simp [Pl.len]; try rfl) (hM.box (.s (.s .z))))) ?_)
                    clear hA; intro a hA
                    refine ⟨fun h => absurd h (by decide), ?_⟩
                    refine d_many (is := [4, 11]) (by kernel_rfl) (by decide) ⟨?_, ?_, trivial⟩
                    · refine d_op (i := 4) (L' := #[tT,tT,tT,tT,tT,tT,fF,fF,fF,fF,fF,fF,fF,fF,fF]) rfl rfl (stv hA (by decide) (run_ld (hA.ev rfl) (run_loadP Try.isAgg34 Try.sizeOf34 (hM.box (.s .z)))) ?_)
                      clear hA; intro a hA
                      refine ⟨fun h => absurd h (by decide), ?_⟩
                      refine d_many (is := [6, 11]) (by kernel_rfl) (by decide) ⟨?_, ?_, trivial⟩
                      · refine d_op (i := 6) (L' := #[tT,tT,tT,tT,tT,tT,tT,fF,fF,fF,fF,fF,fF,fF,fF]) rfl rfl (st_call Try.call25 hA [(.agg #[(.int .u32 x13448), (.bool x13449), (.slice A13452 xs13454.length c13453), (.slice A13457 xs13459.length c13458), (.slice A13462 xs13464.length c13463)]), (.int .i64 (IntKind.i64.wrap (r14861.1 - 1))), (.agg (pHash.enc (((Vector.replicate 32 0 : Vector Int 32).setIfInBounds 0 (IntKind.u8.wrap r13528.1)))).toArray), (.int .u32 (IntKind.u32.wrap (t13480 + (IntKind.u32.wrap r13525.1)))), (.int .u32 10)] rfl (by decide) (relay_Hear.calls _ (Relay.mk x13448 x13449 xs13454 xs13459 xs13464) _ _ _ _ _ _ _ _ _ _ ((hM.roV (p := (Pl.int .i64)) (Ms := []) (.s (.s (.s .z))))) ((hM.roV (p := pStem) (Ms := []) (.s (.s (.s (.s .z)))))) ((hM.roV (p := pHash) (Ms := []) (.s (.s (.s (.s (.s .z))))))) (hM.front (Ms := [])) H14865) ?_)
                        clear hA; rintro _ w14991 ⟨v14992, v14993, v14994, rfl, hMc⟩ a hA
                        have hE := hMc.below; have hM := hM.call (Ms := []) hMc
                        clear hMc; simp only [List.cons_append, List.nil_append] at hM
                        obtain ⟨A14995, c14996, rfl⟩ := RowOk.form (hM.row (p := (Pl.int .i64)) .z)
                        obtain ⟨A14997, c14998, rfl⟩ := RowOk.form (hM.row (p := pStem) (.s .z))
                        obtain ⟨A14999, c15000, rfl⟩ := RowOk.form (hM.row (p := pHash) (.s (.s .z)))
                        refine ⟨fun h => absurd h (by decide), ?_⟩
                        refine d_takef (i := 7) (L' := #[tT,tT,tT,tT,tT,tT,tT,tT,fF,fF,fF,fF,fF,fF,fF]) rfl (by kernel_rfl) rfl (fun _ _ _ h => h) hA (by decide) (fun h => absurd h (by decide)) (fun a w' hA => run_move (hA.ev rfl)) ?_; clear hA; intro a hA
                        refine d_takef (i := 8) (L' := #[tT,tT,tT,tT,tT,tT,tT,tT,tT,fF,fF,fF,fF,fF,fF]) rfl (by kernel_rfl) rfl (fun _ _ _ h => h) hA (by decide) (fun h => absurd h (by decide)) (fun a w' hA => run_ext (hA.ev rfl) rfl) ?_; clear hA; intro a hA
                        refine d_takef (i := 9) (L' := #[tT,tT,tT,tT,tT,tT,tT,tT,tT,tT,fF,fF,fF,fF,fF]) rfl (by kernel_rfl) rfl (fun _ _ _ h => h) hA (by decide) (fun h => absurd h (by decide)) (fun a w' hA => run_ext (hA.ev rfl) rfl) ?_; clear hA; intro a hA
                        refine d_takef (i := 10) (L' := #[tT,tT,tT,tT,tT,tT,tT,tT,tT,tT,tT,fF,fF,fF,fF]) rfl (by kernel_rfl) rfl (fun _ _ _ h => h) hA (by decide) (fun h => absurd h (by decide)) (fun a w' hA => run_ext (hA.ev rfl) rfl) ?_; clear hA; intro a hA
                        refine d_one (i := 11) (L' := #[tT,tT,tT,tT,tT,tT,tT,tT,tT,tT,tT,tT,fF,fF,fF]) (by kernel_rfl) rfl rfl (e_alloc (cs := [(.int .u32 0), (.bool false), (.slice none 0 0), (.slice none 0 0), (.slice none 0 0)]) hM zero39 rfl hA (by decide) ?_)
                        clear hM hA; intro w15002 g15001 hM hE  a hA
                        refine ⟨fun h => absurd h (by decide), ?_⟩
                        refine d_one (i := 12) (L' := #[tT,tT,tT,tT,tT,tT,tT,tT,tT,tT,tT,tT,tT,fF,fF]) (by kernel_rfl) rfl rfl (e_store (g := g15001) (off := 0) (cur := [(.int .u32 0), (.bool false), (.slice none 0 0), (.slice none 0 0), (.slice none 0 0)]) (cs' := [(.int .u32 r14864.1.Epoch), (.bool r14864.1.Diffuse), (.slice A14995 r14864.1.Routes.length c14996), (.slice A14997 r14864.1.Stems.length c14998), (.slice A14999 r14864.1.Fluffed.length c15000)]) hM .z Try.sizeOf39 hA rfl (by simp [add_mk]) rfl (by first | rfl | simp [Value.cells, Pl.len]) (by simp [Value.cells, Value.oneCell']) (by first | exact Nat.le_of_ble_eq_true rfl | (simp [Pl.len]; done)) (spl_all (by first | rfl | simp [Value.cells, Pl.len])) ?_)
                        clear hM hA; intro w15003  hM hE  a hA
                        refine ⟨fun h => absurd h (by decide), ?_⟩
                        refine d_takef (i := 13) (L' := #[tT,tT,tT,tT,tT,tT,tT,tT,tT,tT,tT,tT,tT,tT,fF]) rfl (by kernel_rfl) rfl (fun _ _ _ h => h) hA (by decide) (fun h => absurd h (by decide)) (fun a w' hA => run_assign (hA.ev rfl)) ?_; clear hA; intro a hA
                        refine d_takef (i := 14) (L' := #[tT,tT,tT,tT,tT,tT,tT,tT,tT,tT,tT,tT,tT,tT,tT]) rfl (by kernel_rfl) rfl (fun _ _ _ h => h) hA (by decide) (fun h => absurd h (by decide)) (fun a w' hA => run_assign (hA.ev rfl)) ?_; clear hA; intro a hA
                        refine d_done (by kernel_rfl) ?_
                        exact ⟨r14861.2.At_, r14864.1.Epoch, r14864.1.Diffuse, r14864.1.Routes, r14864.1.Stems, r14864.1.Fluffed, r14864.2.1, r14864.2.2, g15001, (.slice A14995 r14864.1.Routes.length c14996), (.slice A14997 r14864.1.Stems.length c14998), (.slice A14999 r14864.1.Fluffed.length c15000), Option.some.inj H14858, (hM.sel [6, 7, 8, 9, 4, 10, 11, 5, 0, 1, 2, 3] rfl (by decide)), (((((((((hA.nil.cons (hA.get 21 _ rfl)).cons (hA.get 20 _ rfl)).cons (hA.get 19 _ rfl)).cons (hA.get 10 _ rfl)).cons (hA.get 9 _ rfl)).cons (hA.get 8 _ rfl)).cons (hA.get 7 _ rfl)).cons (hA.get 6 _ rfl)).cons (hA.get 5 _ rfl))⟩
                      · refine d_op (i := 11) (L' := #[tT,tT,tT,tT,tT,tT,fF,fF,fF,fF,fF,tT,fF,fF,fF]) rfl rfl (e_alloc (cs := [(.int .u32 0), (.bool false), (.slice none 0 0), (.slice none 0 0), (.slice none 0 0)]) hM zero39 rfl hA (by decide) ?_)
                        clear hM hA; intro w15005 g15004 hM hE  a hA
                        refine ⟨fun h => absurd h (by decide), ?_⟩
                        refine d_one (i := 6) (L' := #[tT,tT,tT,tT,tT,tT,tT,fF,fF,fF,fF,tT,fF,fF,fF]) (by kernel_rfl) rfl rfl (st_call Try.call25 hA [(.agg #[(.int .u32 x13448), (.bool x13449), (.slice A13452 xs13454.length c13453), (.slice A13457 xs13459.length c13458), (.slice A13462 xs13464.length c13463)]), (.int .i64 (IntKind.i64.wrap (r14861.1 - 1))), (.agg (pHash.enc (((Vector.replicate 32 0 : Vector Int 32).setIfInBounds 0 (IntKind.u8.wrap r13528.1)))).toArray), (.int .u32 (IntKind.u32.wrap (t13480 + (IntKind.u32.wrap r13525.1)))), (.int .u32 10)] rfl (by decide) (relay_Hear.calls _ (Relay.mk x13448 x13449 xs13454 xs13459 xs13464) _ _ _ _ _ _ _ _ _ _ ((hM.roV (p := (Pl.int .i64)) (Ms := []) (.s (.s (.s (.s .z)))))) ((hM.roV (p := pStem) (Ms := []) (.s (.s (.s (.s (.s .z))))))) ((hM.roV (p := pHash) (Ms := []) (.s (.s (.s (.s (.s (.s .z)))))))) (hM.front (Ms := [])) H14865) ?_)
                        clear hA; rintro _ w15006 ⟨v15007, v15008, v15009, rfl, hMc⟩ a hA
                        have hE := hMc.below; have hM := hM.call (Ms := []) hMc
                        clear hMc; simp only [List.cons_append, List.nil_append] at hM
                        obtain ⟨A15010, c15011, rfl⟩ := RowOk.form (hM.row (p := (Pl.int .i64)) .z)
                        obtain ⟨A15012, c15013, rfl⟩ := RowOk.form (hM.row (p := pStem) (.s .z))
                        obtain ⟨A15014, c15015, rfl⟩ := RowOk.form (hM.row (p := pHash) (.s (.s .z)))
                        refine ⟨fun h => absurd h (by decide), ?_⟩
                        refine d_takef (i := 7) (L' := #[tT,tT,tT,tT,tT,tT,tT,tT,fF,fF,fF,tT,fF,fF,fF]) rfl (by kernel_rfl) rfl (fun _ _ _ h => h) hA (by decide) (fun h => absurd h (by decide)) (fun a w' hA => run_move (hA.ev rfl)) ?_; clear hA; intro a hA
                        refine d_takef (i := 8) (L' := #[tT,tT,tT,tT,tT,tT,tT,tT,tT,fF,fF,tT,fF,fF,fF]) rfl (by kernel_rfl) rfl (fun _ _ _ h => h) hA (by decide) (fun h => absurd h (by decide)) (fun a w' hA => run_ext (hA.ev rfl) rfl) ?_; clear hA; intro a hA
                        refine d_takef (i := 9) (L' := #[tT,tT,tT,tT,tT,tT,tT,tT,tT,tT,fF,tT,fF,fF,fF]) rfl (by kernel_rfl) rfl (fun _ _ _ h => h) hA (by decide) (fun h => absurd h (by decide)) (fun a w' hA => run_ext (hA.ev rfl) rfl) ?_; clear hA; intro a hA
                        refine d_takef (i := 10) (L' := #[tT,tT,tT,tT,tT,tT,tT,tT,tT,tT,tT,tT,fF,fF,fF]) rfl (by kernel_rfl) rfl (fun _ _ _ h => h) hA (by decide) (fun h => absurd h (by decide)) (fun a w' hA => run_ext (hA.ev rfl) rfl) ?_; clear hA; intro a hA
                        refine d_one (i := 12) (L' := #[tT,tT,tT,tT,tT,tT,tT,tT,tT,tT,tT,tT,tT,fF,fF]) (by kernel_rfl) rfl rfl (e_store (g := g15004) (off := 0) (cur := [(.int .u32 0), (.bool false), (.slice none 0 0), (.slice none 0 0), (.slice none 0 0)]) (cs' := [(.int .u32 r14864.1.Epoch), (.bool r14864.1.Diffuse), (.slice A15010 r14864.1.Routes.length c15011), (.slice A15012 r14864.1.Stems.length c15013), (.slice A15014 r14864.1.Fluffed.length c15015)]) hM (.s (.s (.s .z))) Try.sizeOf39 hA rfl (by simp [add_mk]) rfl (by first | rfl | simp [Value.cells, Pl.len]) (by simp [Value.cells, Value.oneCell']) (by first | exact Nat.le_of_ble_eq_true rfl | (simp [Pl.len]; done)) (spl_all (by first | rfl | simp [Value.cells, Pl.len])) ?_)
                        clear hM hA; intro w15016  hM hE  a hA
                        refine ⟨fun h => absurd h (by decide), ?_⟩
                        refine d_takef (i := 13) (L' := #[tT,tT,tT,tT,tT,tT,tT,tT,tT,tT,tT,tT,tT,tT,fF]) rfl (by kernel_rfl) rfl (fun _ _ _ h => h) hA (by decide) (fun h => absurd h (by decide)) (fun a w' hA => run_assign (hA.ev rfl)) ?_; clear hA; intro a hA
                        refine d_takef (i := 14) (L' := #[tT,tT,tT,tT,tT,tT,tT,tT,tT,tT,tT,tT,tT,tT,tT]) rfl (by kernel_rfl) rfl (fun _ _ _ h => h) hA (by decide) (fun h => absurd h (by decide)) (fun a w' hA => run_assign (hA.ev rfl)) ?_; clear hA; intro a hA
                        refine d_done (by kernel_rfl) ?_
                        exact ⟨r14861.2.At_, r14864.1.Epoch, r14864.1.Diffuse, r14864.1.Routes, r14864.1.Stems, r14864.1.Fluffed, r14864.2.1, r14864.2.2, g15004, (.slice A15010 r14864.1.Routes.length c15011), (.slice A15012 r14864.1.Stems.length c15013), (.slice A15014 r14864.1.Fluffed.length c15015), Option.some.inj H14858, (hM.sel [6, 7, 8, 9, 4, 10, 11, 5, 3, 0, 1, 2] rfl (by decide)), (((((((((hA.nil.cons (hA.get 21 _ rfl)).cons (hA.get 20 _ rfl)).cons (hA.get 19 _ rfl)).cons (hA.get 10 _ rfl)).cons (hA.get 9 _ rfl)).cons (hA.get 8 _ rfl)).cons (hA.get 7 _ rfl)).cons (hA.get 6 _ rfl)).cons (hA.get 5 _ rfl))⟩
                    · refine d_op (i := 11) (L' := #[tT,tT,tT,tT,fF,tT,fF,fF,fF,fF,fF,tT,fF,fF,fF]) rfl rfl (e_alloc (cs := [(.int .u32 0), (.bool false), (.slice none 0 0), (.slice none 0 0), (.slice none 0 0)]) hM zero39 rfl hA (by decide) ?_)
                      clear hM hA; intro w15018 g15017 hM hE  a hA
                      refine ⟨fun h => absurd h (by decide), ?_⟩
                      refine d_one (i := 4) (L' := #[tT,tT,tT,tT,tT,tT,fF,fF,fF,fF,fF,tT,fF,fF,fF]) (by kernel_rfl) rfl rfl (stv hA (by decide) (run_ld (hA.ev rfl) (run_loadP Try.isAgg34 Try.sizeOf34 (hM.box (.s (.s .z))))) ?_)
                      clear hA; intro a hA
                      refine ⟨fun h => absurd h (by decide), ?_⟩
                      refine d_one (i := 6) (L' := #[tT,tT,tT,tT,tT,tT,tT,fF,fF,fF,fF,tT,fF,fF,fF]) (by kernel_rfl) rfl rfl (st_call Try.call25 hA [(.agg #[(.int .u32 x13448), (.bool x13449), (.slice A13452 xs13454.length c13453), (.slice A13457 xs13459.length c13458), (.slice A13462 xs13464.length c13463)]), (.int .i64 (IntKind.i64.wrap (r14861.1 - 1))), (.agg (pHash.enc (((Vector.replicate 32 0 : Vector Int 32).setIfInBounds 0 (IntKind.u8.wrap r13528.1)))).toArray), (.int .u32 (IntKind.u32.wrap (t13480 + (IntKind.u32.wrap r13525.1)))), (.int .u32 10)] rfl (by decide) (relay_Hear.calls _ (Relay.mk x13448 x13449 xs13454 xs13459 xs13464) _ _ _ _ _ _ _ _ _ _ ((hM.roV (p := (Pl.int .i64)) (Ms := []) (.s (.s (.s (.s .z)))))) ((hM.roV (p := pStem) (Ms := []) (.s (.s (.s (.s (.s .z))))))) ((hM.roV (p := pHash) (Ms := []) (.s (.s (.s (.s (.s (.s .z)))))))) (hM.front (Ms := [])) H14865) ?_)
                      clear hA; rintro _ w15019 ⟨v15020, v15021, v15022, rfl, hMc⟩ a hA
                      have hE := hMc.below; have hM := hM.call (Ms := []) hMc
                      clear hMc; simp only [List.cons_append, List.nil_append] at hM
                      obtain ⟨A15023, c15024, rfl⟩ := RowOk.form (hM.row (p := (Pl.int .i64)) .z)
                      obtain ⟨A15025, c15026, rfl⟩ := RowOk.form (hM.row (p := pStem) (.s .z))
                      obtain ⟨A15027, c15028, rfl⟩ := RowOk.form (hM.row (p := pHash) (.s (.s .z)))
                      refine ⟨fun h => absurd h (by decide), ?_⟩
                      refine d_takef (i := 7) (L' := #[tT,tT,tT,tT,tT,tT,tT,tT,fF,fF,fF,tT,fF,fF,fF]) rfl (by kernel_rfl) rfl (fun _ _ _ h => h) hA (by decide) (fun h => absurd h (by decide)) (fun a w' hA => run_move (hA.ev rfl)) ?_; clear hA; intro a hA
                      refine d_takef (i := 8) (L' := #[tT,tT,tT,tT,tT,tT,tT,tT,tT,fF,fF,tT,fF,fF,fF]) rfl (by kernel_rfl) rfl (fun _ _ _ h => h) hA (by decide) (fun h => absurd h (by decide)) (fun a w' hA => run_ext (hA.ev rfl) rfl) ?_; clear hA; intro a hA
                      refine d_takef (i := 9) (L' := #[tT,tT,tT,tT,tT,tT,tT,tT,tT,tT,fF,tT,fF,fF,fF]) rfl (by kernel_rfl) rfl (fun _ _ _ h => h) hA (by decide) (fun h => absurd h (by decide)) (fun a w' hA => run_ext (hA.ev rfl) rfl) ?_; clear hA; intro a hA
                      refine d_takef (i := 10) (L' := #[tT,tT,tT,tT,tT,tT,tT,tT,tT,tT,tT,tT,fF,fF,fF]) rfl (by kernel_rfl) rfl (fun _ _ _ h => h) hA (by decide) (fun h => absurd h (by decide)) (fun a w' hA => run_ext (hA.ev rfl) rfl) ?_; clear hA; intro a hA
                      refine d_one (i := 12) (L' := #[tT,tT,tT,tT,tT,tT,tT,tT,tT,tT,tT,tT,tT,fF,fF]) (by kernel_rfl) rfl rfl (e_store (g := g15017) (off := 0) (cur := [(.int .u32 0), (.bool false), (.slice none 0 0), (.slice none 0 0), (.slice none 0 0)]) (cs' := [(.int .u32 r14864.1.Epoch), (.bool r14864.1.Diffuse), (.slice A15023 r14864.1.Routes.length c15024), (.slice A15025 r14864.1.Stems.length c15026), (.slice A15027 r14864.1.Fluffed.length c15028)]) hM (.s (.s (.s .z))) Try.sizeOf39 hA rfl (by simp [add_mk]) rfl (by first | rfl | simp [Value.cells, Pl.len]) (by simp [Value.cells, Value.oneCell']) (by first | exact Nat.le_of_ble_eq_true rfl | (simp [Pl.len]; done)) (spl_all (by first | rfl | simp [Value.cells, Pl.len])) ?_)
                      clear hM hA; intro w15029  hM hE  a hA
                      refine ⟨fun h => absurd h (by decide), ?_⟩
                      refine d_takef (i := 13) (L' := #[tT,tT,tT,tT,tT,tT,tT,tT,tT,tT,tT,tT,tT,tT,fF]) rfl (by kernel_rfl) rfl (fun _ _ _ h => h) hA (by decide) (fun h => absurd h (by decide)) (fun a w' hA => run_assign (hA.ev rfl)) ?_; clear hA; intro a hA
                      refine d_takef (i := 14) (L' := #[tT,tT,tT,tT,tT,tT,tT,tT,tT,tT,tT,tT,tT,tT,tT]) rfl (by kernel_rfl) rfl (fun _ _ _ h => h) hA (by decide) (fun h => absurd h (by decide)) (fun a w' hA => run_assign (hA.ev rfl)) ?_; clear hA; intro a hA
                      refine d_done (by kernel_rfl) ?_
                      exact ⟨r14861.2.At_, r14864.1.Epoch, r14864.1.Diffuse, r14864.1.Routes, r14864.1.Stems, r14864.1.Fluffed, r14864.2.1, r14864.2.2, g15017, (.slice A15023 r14864.1.Routes.length c15024), (.slice A15025 r14864.1.Stems.length c15026), (.slice A15027 r14864.1.Fluffed.length c15028), Option.some.inj H14858, (hM.sel [6, 7, 8, 9, 4, 10, 11, 5, 3, 0, 1, 2] rfl (by decide)), (((((((((hA.nil.cons (hA.get 21 _ rfl)).cons (hA.get 20 _ rfl)).cons (hA.get 19 _ rfl)).cons (hA.get 10 _ rfl)).cons (hA.get 9 _ rfl)).cons (hA.get 8 _ rfl)).cons (hA.get 7 _ rfl)).cons (hA.get 6 _ rfl)).cons (hA.get 5 _ rfl))⟩
                  · refine d_op (i := 4) (L' := #[fF,tT,tT,tT,tT,tT,fF,fF,fF,fF,fF,fF,fF,fF,fF]) rfl rfl (stv hA (by decide) (run_ld (hA.ev rfl) (run_loadP Try.isAgg34 Try.sizeOf34 (hM.box (.s .z)))) ?_)
                    clear hA; intro a hA
                    refine ⟨fun h => absurd h (by decide), ?_⟩
                    refine d_many (is := [0, 11]) (by kernel_rfl) (by decide) ⟨?_, ?_, trivial⟩
                    · refine d_op (i := 0) (L' := #[tT,tT,tT,tT,tT,tT,fF,fF,fF,fF,fF,fF,fF,fF,fF]) rfl rfl (stv hA (by decide) (run_ld (hA.ev rfl) (run_loadW Try.isAgg39 Try.sizeOf39 (by simp [Pl.len]; try rfl) (hM.box (.s (.s .z))))) ?_)
                      clear hA; intro a hA
                      refine ⟨fun h => absurd h (by decide), ?_⟩
                      refine d_many (is := [6, 11]) (by kernel_rfl) (by decide) ⟨?_, ?_, trivial⟩
                      · refine d_op (i := 6) (L' := #[tT,tT,tT,tT,tT,tT,tT,fF,fF,fF,fF,fF,fF,fF,fF]) rfl rfl (st_call Try.call25 hA [(.agg #[(.int .u32 x13448), (.bool x13449), (.slice A13452 xs13454.length c13453), (.slice A13457 xs13459.length c13458), (.slice A13462 xs13464.length c13463)]), (.int .i64 (IntKind.i64.wrap (r14861.1 - 1))), (.agg (pHash.enc (((Vector.replicate 32 0 : Vector Int 32).setIfInBounds 0 (IntKind.u8.wrap r13528.1)))).toArray), (.int .u32 (IntKind.u32.wrap (t13480 + (IntKind.u32.wrap r13525.1)))), (.int .u32 10)] rfl (by decide) (relay_Hear.calls _ (Relay.mk x13448 x13449 xs13454 xs13459 xs13464) _ _ _ _ _ _ _ _ _ _ ((hM.roV (p := (Pl.int .i64)) (Ms := []) (.s (.s (.s .z))))) ((hM.roV (p := pStem) (Ms := []) (.s (.s (.s (.s .z)))))) ((hM.roV (p := pHash) (Ms := []) (.s (.s (.s (.s (.s .z))))))) (hM.front (Ms := [])) H14865) ?_)
                        clear hA; rintro _ w15030 ⟨v15031, v15032, v15033, rfl, hMc⟩ a hA
                        have hE := hMc.below; have hM := hM.call (Ms := []) hMc
                        clear hMc; simp only [List.cons_append, List.nil_append] at hM
                        obtain ⟨A15034, c15035, rfl⟩ := RowOk.form (hM.row (p := (Pl.int .i64)) .z)
                        obtain ⟨A15036, c15037, rfl⟩ := RowOk.form (hM.row (p := pStem) (.s .z))
                        obtain ⟨A15038, c15039, rfl⟩ := RowOk.form (hM.row (p := pHash) (.s (.s .z)))
                        refine ⟨fun h => absurd h (by decide), ?_⟩
                        refine d_takef (i := 7) (L' := #[tT,tT,tT,tT,tT,tT,tT,tT,fF,fF,fF,fF,fF,fF,fF]) rfl (by kernel_rfl) rfl (fun _ _ _ h => h) hA (by decide) (fun h => absurd h (by decide)) (fun a w' hA => run_move (hA.ev rfl)) ?_; clear hA; intro a hA
                        refine d_takef (i := 8) (L' := #[tT,tT,tT,tT,tT,tT,tT,tT,tT,fF,fF,fF,fF,fF,fF]) rfl (by kernel_rfl) rfl (fun _ _ _ h => h) hA (by decide) (fun h => absurd h (by decide)) (fun a w' hA => run_ext (hA.ev rfl) rfl) ?_; clear hA; intro a hA
                        refine d_takef (i := 9) (L' := #[tT,tT,tT,tT,tT,tT,tT,tT,tT,tT,fF,fF,fF,fF,fF]) rfl (by kernel_rfl) rfl (fun _ _ _ h => h) hA (by decide) (fun h => absurd h (by decide)) (fun a w' hA => run_ext (hA.ev rfl) rfl) ?_; clear hA; intro a hA
                        refine d_takef (i := 10) (L' := #[tT,tT,tT,tT,tT,tT,tT,tT,tT,tT,tT,fF,fF,fF,fF]) rfl (by kernel_rfl) rfl (fun _ _ _ h => h) hA (by decide) (fun h => absurd h (by decide)) (fun a w' hA => run_ext (hA.ev rfl) rfl) ?_; clear hA; intro a hA
                        refine d_one (i := 11) (L' := #[tT,tT,tT,tT,tT,tT,tT,tT,tT,tT,tT,tT,fF,fF,fF]) (by kernel_rfl) rfl rfl (e_alloc (cs := [(.int .u32 0), (.bool false), (.slice none 0 0), (.slice none 0 0), (.slice none 0 0)]) hM zero39 rfl hA (by decide) ?_)
                        clear hM hA; intro w15041 g15040 hM hE  a hA
                        refine ⟨fun h => absurd h (by decide), ?_⟩
                        refine d_one (i := 12) (L' := #[tT,tT,tT,tT,tT,tT,tT,tT,tT,tT,tT,tT,tT,fF,fF]) (by kernel_rfl) rfl rfl (e_store (g := g15040) (off := 0) (cur := [(.int .u32 0), (.bool false), (.slice none 0 0), (.slice none 0 0), (.slice none 0 0)]) (cs' := [(.int .u32 r14864.1.Epoch), (.bool r14864.1.Diffuse), (.slice A15034 r14864.1.Routes.length c15035), (.slice A15036 r14864.1.Stems.length c15037), (.slice A15038 r14864.1.Fluffed.length c15039)]) hM .z Try.sizeOf39 hA rfl (by simp [add_mk]) rfl (by first | rfl | simp [Value.cells, Pl.len]) (by simp [Value.cells, Value.oneCell']) (by first | exact Nat.le_of_ble_eq_true rfl | (simp [Pl.len]; done)) (spl_all (by first | rfl | simp [Value.cells, Pl.len])) ?_)
                        clear hM hA; intro w15042  hM hE  a hA
                        refine ⟨fun h => absurd h (by decide), ?_⟩
                        refine d_takef (i := 13) (L' := #[tT,tT,tT,tT,tT,tT,tT,tT,tT,tT,tT,tT,tT,tT,fF]) rfl (by kernel_rfl) rfl (fun _ _ _ h => h) hA (by decide) (fun h => absurd h (by decide)) (fun a w' hA => run_assign (hA.ev rfl)) ?_; clear hA; intro a hA
                        refine d_takef (i := 14) (L' := #[tT,tT,tT,tT,tT,tT,tT,tT,tT,tT,tT,tT,tT,tT,tT]) rfl (by kernel_rfl) rfl (fun _ _ _ h => h) hA (by decide) (fun h => absurd h (by decide)) (fun a w' hA => run_assign (hA.ev rfl)) ?_; clear hA; intro a hA
                        refine d_done (by kernel_rfl) ?_
                        exact ⟨r14861.2.At_, r14864.1.Epoch, r14864.1.Diffuse, r14864.1.Routes, r14864.1.Stems, r14864.1.Fluffed, r14864.2.1, r14864.2.2, g15040, (.slice A15034 r14864.1.Routes.length c15035), (.slice A15036 r14864.1.Stems.length c15037), (.slice A15038 r14864.1.Fluffed.length c15039), Option.some.inj H14858, (hM.sel [6, 7, 8, 9, 4, 10, 11, 5, 0, 1, 2, 3] rfl (by decide)), (((((((((hA.nil.cons (hA.get 21 _ rfl)).cons (hA.get 20 _ rfl)).cons (hA.get 19 _ rfl)).cons (hA.get 10 _ rfl)).cons (hA.get 9 _ rfl)).cons (hA.get 8 _ rfl)).cons (hA.get 7 _ rfl)).cons (hA.get 6 _ rfl)).cons (hA.get 5 _ rfl))⟩
                      · refine d_op (i := 11) (L' := #[tT,tT,tT,tT,tT,tT,fF,fF,fF,fF,fF,tT,fF,fF,fF]) rfl rfl (e_alloc (cs := [(.int .u32 0), (.bool false), (.slice none 0 0), (.slice none 0 0), (.slice none 0 0)]) hM zero39 rfl hA (by decide) ?_)
                        clear hM hA; intro w15044 g15043 hM hE  a hA
                        refine ⟨fun h => absurd h (by decide), ?_⟩
                        refine d_one (i := 6) (L' := #[tT,tT,tT,tT,tT,tT,tT,fF,fF,fF,fF,tT,fF,fF,fF]) (by kernel_rfl) rfl rfl (st_call Try.call25 hA [(.agg #[(.int .u32 x13448), (.bool x13449), (.slice A13452 xs13454.length c13453), (.slice A13457 xs13459.length c13458), (.slice A13462 xs13464.length c13463)]), (.int .i64 (IntKind.i64.wrap (r14861.1 - 1))), (.agg (pHash.enc (((Vector.replicate 32 0 : Vector Int 32).setIfInBounds 0 (IntKind.u8.wrap r13528.1)))).toArray), (.int .u32 (IntKind.u32.wrap (t13480 + (IntKind.u32.wrap r13525.1)))), (.int .u32 10)] rfl (by decide) (relay_Hear.calls _ (Relay.mk x13448 x13449 xs13454 xs13459 xs13464) _ _ _ _ _ _ _ _ _ _ ((hM.roV (p := (Pl.int .i64)) (Ms := []) (.s (.s (.s (.s .z)))))) ((hM.roV (p := pStem) (Ms := []) (.s (.s (.s (.s (.s .z))))))) ((hM.roV (p := pHash) (Ms := []) (.s (.s (.s (.s (.s (.s .z)))))))) (hM.front (Ms := [])) H14865) ?_)
                        clear hA; rintro _ w15045 ⟨v15046, v15047, v15048, rfl, hMc⟩ a hA
                        have hE := hMc.below; have hM := hM.call (Ms := []) hMc
                        clear hMc; simp only [List.cons_append, List.nil_append] at hM
                        obtain ⟨A15049, c15050, rfl⟩ := RowOk.form (hM.row (p := (Pl.int .i64)) .z)
                        obtain ⟨A15051, c15052, rfl⟩ := RowOk.form (hM.row (p := pStem) (.s .z))
                        obtain ⟨A15053, c15054, rfl⟩ := RowOk.form (hM.row (p := pHash) (.s (.s .z)))
                        refine ⟨fun h => absurd h (by decide), ?_⟩
                        refine d_takef (i := 7) (L' := #[tT,tT,tT,tT,tT,tT,tT,tT,fF,fF,fF,tT,fF,fF,fF]) rfl (by kernel_rfl) rfl (fun _ _ _ h => h) hA (by decide) (fun h => absurd h (by decide)) (fun a w' hA => run_move (hA.ev rfl)) ?_; clear hA; intro a hA
                        refine d_takef (i := 8) (L' := #[tT,tT,tT,tT,tT,tT,tT,tT,tT,fF,fF,tT,fF,fF,fF]) rfl (by kernel_rfl) rfl (fun _ _ _ h => h) hA (by decide) (fun h => absurd h (by decide)) (fun a w' hA => run_ext (hA.ev rfl) rfl) ?_; clear hA; intro a hA
                        refine d_takef (i := 9) (L' := #[tT,tT,tT,tT,tT,tT,tT,tT,tT,tT,fF,tT,fF,fF,fF]) rfl (by kernel_rfl) rfl (fun _ _ _ h => h) hA (by decide) (fun h => absurd h (by decide)) (fun a w' hA => run_ext (hA.ev rfl) rfl) ?_; clear hA; intro a hA
                        refine d_takef (i := 10) (L' := #[tT,tT,tT,tT,tT,tT,tT,tT,tT,tT,tT,tT,fF,fF,fF]) rfl (by kernel_rfl) rfl (fun _ _ _ h => h) hA (by decide) (fun h => absurd h (by decide)) (fun a w' hA => run_ext (hA.ev rfl) rfl) ?_; clear hA; intro a hA
                        refine d_one (i := 12) (L' := #[tT,tT,tT,tT,tT,tT,tT,tT,tT,tT,tT,tT,tT,fF,fF]) (by kernel_rfl) rfl rfl (e_store (g := g15043) (off := 0) (cur := [(.int .u32 0), (.bool false), (.slice none 0 0), (.slice none 0 0), (.slice none 0 0)]) (cs' := [(.int .u32 r14864.1.Epoch), (.bool r14864.1.Diffuse), (.slice A15049 r14864.1.Routes.length c15050), (.slice A15051 r14864.1.Stems.length c15052), (.slice A15053 r14864.1.Fluffed.length c15054)]) hM (.s (.s (.s .z))) Try.sizeOf39 hA rfl (by simp [add_mk]) rfl (by first | rfl | simp [Value.cells, Pl.len]) (by simp [Value.cells, Value.oneCell']) (by first | exact Nat.le_of_ble_eq_true rfl | (simp [Pl.len]; done)) (spl_all (by first | rfl | simp [Value.cells, Pl.len])) ?_)
                        clear hM hA; intro w15055  hM hE  a hA
                        refine ⟨fun h => absurd h (by decide), ?_⟩
                        refine d_takef (i := 13) (L' := #[tT,tT,tT,tT,tT,tT,tT,tT,tT,tT,tT,tT,tT,tT,fF]) rfl (by kernel_rfl) rfl (fun _ _ _ h => h) hA (by decide) (fun h => absurd h (by decide)) (fun a w' hA => run_assign (hA.ev rfl)) ?_; clear hA; intro a hA
                        refine d_takef (i := 14) (L' := #[tT,tT,tT,tT,tT,tT,tT,tT,tT,tT,tT,tT,tT,tT,tT]) rfl (by kernel_rfl) rfl (fun _ _ _ h => h) hA (by decide) (fun h => absurd h (by decide)) (fun a w' hA => run_assign (hA.ev rfl)) ?_; clear hA; intro a hA
                        refine d_done (by kernel_rfl) ?_
                        exact ⟨r14861.2.At_, r14864.1.Epoch, r14864.1.Diffuse, r14864.1.Routes, r14864.1.Stems, r14864.1.Fluffed, r14864.2.1, r14864.2.2, g15043, (.slice A15049 r14864.1.Routes.length c15050), (.slice A15051 r14864.1.Stems.length c15052), (.slice A15053 r14864.1.Fluffed.length c15054), Option.some.inj H14858, (hM.sel [6, 7, 8, 9, 4, 10, 11, 5, 3, 0, 1, 2] rfl (by decide)), (((((((((hA.nil.cons (hA.get 21 _ rfl)).cons (hA.get 20 _ rfl)).cons (hA.get 19 _ rfl)).cons (hA.get 10 _ rfl)).cons (hA.get 9 _ rfl)).cons (hA.get 8 _ rfl)).cons (hA.get 7 _ rfl)).cons (hA.get 6 _ rfl)).cons (hA.get 5 _ rfl))⟩
                    · refine d_op (i := 11) (L' := #[fF,tT,tT,tT,tT,tT,fF,fF,fF,fF,fF,tT,fF,fF,fF]) rfl rfl (e_alloc (cs := [(.int .u32 0), (.bool false), (.slice none 0 0), (.slice none 0 0), (.slice none 0 0)]) hM zero39 rfl hA (by decide) ?_)
                      clear hM hA; intro w15057 g15056 hM hE  a hA
                      refine ⟨fun h => absurd h (by decide), ?_⟩
                      refine d_one (i := 0) (L' := #[tT,tT,tT,tT,tT,tT,fF,fF,fF,fF,fF,tT,fF,fF,fF]) (by kernel_rfl) rfl rfl (stv hA (by decide) (run_ld (hA.ev rfl) (run_loadW Try.isAgg39 Try.sizeOf39 (by simp [Pl.len]; try rfl) (hM.box (.s (.s (.s .z)))))) ?_)
                      clear hA; intro a hA
                      refine ⟨fun h => absurd h (by decide), ?_⟩
                      refine d_one (i := 6) (L' := #[tT,tT,tT,tT,tT,tT,tT,fF,fF,fF,fF,tT,fF,fF,fF]) (by kernel_rfl) rfl rfl (st_call Try.call25 hA [(.agg #[(.int .u32 x13448), (.bool x13449), (.slice A13452 xs13454.length c13453), (.slice A13457 xs13459.length c13458), (.slice A13462 xs13464.length c13463)]), (.int .i64 (IntKind.i64.wrap (r14861.1 - 1))), (.agg (pHash.enc (((Vector.replicate 32 0 : Vector Int 32).setIfInBounds 0 (IntKind.u8.wrap r13528.1)))).toArray), (.int .u32 (IntKind.u32.wrap (t13480 + (IntKind.u32.wrap r13525.1)))), (.int .u32 10)] rfl (by decide) (relay_Hear.calls _ (Relay.mk x13448 x13449 xs13454 xs13459 xs13464) _ _ _ _ _ _ _ _ _ _ ((hM.roV (p := (Pl.int .i64)) (Ms := []) (.s (.s (.s (.s .z)))))) ((hM.roV (p := pStem) (Ms := []) (.s (.s (.s (.s (.s .z))))))) ((hM.roV (p := pHash) (Ms := []) (.s (.s (.s (.s (.s (.s .z)))))))) (hM.front (Ms := [])) H14865) ?_)
                      clear hA; rintro _ w15058 ⟨v15059, v15060, v15061, rfl, hMc⟩ a hA
                      have hE := hMc.below; have hM := hM.call (Ms := []) hMc
                      clear hMc; simp only [List.cons_append, List.nil_append] at hM
                      obtain ⟨A15062, c15063, rfl⟩ := RowOk.form (hM.row (p := (Pl.int .i64)) .z)
                      obtain ⟨A15064, c15065, rfl⟩ := RowOk.form (hM.row (p := pStem) (.s .z))
                      obtain ⟨A15066, c15067, rfl⟩ := RowOk.form (hM.row (p := pHash) (.s (.s .z)))
                      refine ⟨fun h => absurd h (by decide), ?_⟩
                      refine d_takef (i := 7) (L' := #[tT,tT,tT,tT,tT,tT,tT,tT,fF,fF,fF,tT,fF,fF,fF]) rfl (by kernel_rfl) rfl (fun _ _ _ h => h) hA (by decide) (fun h => absurd h (by decide)) (fun a w' hA => run_move (hA.ev rfl)) ?_; clear hA; intro a hA
                      refine d_takef (i := 8) (L' := #[tT,tT,tT,tT,tT,tT,tT,tT,tT,fF,fF,tT,fF,fF,fF]) rfl (by kernel_rfl) rfl (fun _ _ _ h => h) hA (by decide) (fun h => absurd h (by decide)) (fun a w' hA => run_ext (hA.ev rfl) rfl) ?_; clear hA; intro a hA
                      refine d_takef (i := 9) (L' := #[tT,tT,tT,tT,tT,tT,tT,tT,tT,tT,fF,tT,fF,fF,fF]) rfl (by kernel_rfl) rfl (fun _ _ _ h => h) hA (by decide) (fun h => absurd h (by decide)) (fun a w' hA => run_ext (hA.ev rfl) rfl) ?_; clear hA; intro a hA
                      refine d_takef (i := 10) (L' := #[tT,tT,tT,tT,tT,tT,tT,tT,tT,tT,tT,tT,fF,fF,fF]) rfl (by kernel_rfl) rfl (fun _ _ _ h => h) hA (by decide) (fun h => absurd h (by decide)) (fun a w' hA => run_ext (hA.ev rfl) rfl) ?_; clear hA; intro a hA
                      refine d_one (i := 12) (L' := #[tT,tT,tT,tT,tT,tT,tT,tT,tT,tT,tT,tT,tT,fF,fF]) (by kernel_rfl) rfl rfl (e_store (g := g15056) (off := 0) (cur := [(.int .u32 0), (.bool false), (.slice none 0 0), (.slice none 0 0), (.slice none 0 0)]) (cs' := [(.int .u32 r14864.1.Epoch), (.bool r14864.1.Diffuse), (.slice A15062 r14864.1.Routes.length c15063), (.slice A15064 r14864.1.Stems.length c15065), (.slice A15066 r14864.1.Fluffed.length c15067)]) hM (.s (.s (.s .z))) Try.sizeOf39 hA rfl (by simp [add_mk]) rfl (by first | rfl | simp [Value.cells, Pl.len]) (by simp [Value.cells, Value.oneCell']) (by first | exact Nat.le_of_ble_eq_true rfl | (simp [Pl.len]; done)) (spl_all (by first | rfl | simp [Value.cells, Pl.len])) ?_)
                      clear hM hA; intro w15068  hM hE  a hA
                      refine ⟨fun h => absurd h (by decide), ?_⟩
                      refine d_takef (i := 13) (L' := #[tT,tT,tT,tT,tT,tT,tT,tT,tT,tT,tT,tT,tT,tT,fF]) rfl (by kernel_rfl) rfl (fun _ _ _ h => h) hA (by decide) (fun h => absurd h (by decide)) (fun a w' hA => run_assign (hA.ev rfl)) ?_; clear hA; intro a hA
                      refine d_takef (i := 14) (L' := #[tT,tT,tT,tT,tT,tT,tT,tT,tT,tT,tT,tT,tT,tT,tT]) rfl (by kernel_rfl) rfl (fun _ _ _ h => h) hA (by decide) (fun h => absurd h (by decide)) (fun a w' hA => run_assign (hA.ev rfl)) ?_; clear hA; intro a hA
                      refine d_done (by kernel_rfl) ?_
                      exact ⟨r14861.2.At_, r14864.1.Epoch, r14864.1.Diffuse, r14864.1.Routes, r14864.1.Stems, r14864.1.Fluffed, r14864.2.1, r14864.2.2, g15056, (.slice A15062 r14864.1.Routes.length c15063), (.slice A15064 r14864.1.Stems.length c15065), (.slice A15066 r14864.1.Fluffed.length c15067), Option.some.inj H14858, (hM.sel [6, 7, 8, 9, 4, 10, 11, 5, 3, 0, 1, 2] rfl (by decide)), (((((((((hA.nil.cons (hA.get 21 _ rfl)).cons (hA.get 20 _ rfl)).cons (hA.get 19 _ rfl)).cons (hA.get 10 _ rfl)).cons (hA.get 9 _ rfl)).cons (hA.get 8 _ rfl)).cons (hA.get 7 _ rfl)).cons (hA.get 6 _ rfl)).cons (hA.get 5 _ rfl))⟩
                  · refine d_op (i := 11) (L' := #[fF,tT,tT,tT,fF,tT,fF,fF,fF,fF,fF,tT,fF,fF,fF]) rfl rfl (e_alloc (cs := [(.int .u32 0), (.bool false), (.slice none 0 0), (.slice none 0 0), (.slice none 0 0)]) hM zero39 rfl hA (by decide) ?_)
                    clear hM hA; intro w15070 g15069 hM hE  a hA
                    refine ⟨fun h => absurd h (by decide), ?_⟩
                    refine d_many (is := [0, 4]) (by kernel_rfl) (by decide) ⟨?_, ?_, trivial⟩
                    · refine d_op (i := 0) (L' := #[tT,tT,tT,tT,fF,tT,fF,fF,fF,fF,fF,tT,fF,fF,fF]) rfl rfl (stv hA (by decide) (run_ld (hA.ev rfl) (run_loadW Try.isAgg39 Try.sizeOf39 (by simp [Pl.len]; try rfl) (hM.box (.s (.s (.s .z)))))) ?_)
                      clear hA; intro a hA
                      refine ⟨fun h => absurd h (by decide), ?_⟩
                      refine d_one (i := 4) (L' := #[tT,tT,tT,tT,tT,tT,fF,fF,fF,fF,fF,tT,fF,fF,fF]) (by kernel_rfl) rfl rfl (stv hA (by decide) (run_ld (hA.ev rfl) (run_loadP Try.isAgg34 Try.sizeOf34 (hM.box (.s (.s .z))))) ?_)
                      clear hA; intro a hA
                      refine ⟨fun h => absurd h (by decide), ?_⟩
                      refine d_one (i := 6) (L' := #[tT,tT,tT,tT,tT,tT,tT,fF,fF,fF,fF,tT,fF,fF,fF]) (by kernel_rfl) rfl rfl (st_call Try.call25 hA [(.agg #[(.int .u32 x13448), (.bool x13449), (.slice A13452 xs13454.length c13453), (.slice A13457 xs13459.length c13458), (.slice A13462 xs13464.length c13463)]), (.int .i64 (IntKind.i64.wrap (r14861.1 - 1))), (.agg (pHash.enc (((Vector.replicate 32 0 : Vector Int 32).setIfInBounds 0 (IntKind.u8.wrap r13528.1)))).toArray), (.int .u32 (IntKind.u32.wrap (t13480 + (IntKind.u32.wrap r13525.1)))), (.int .u32 10)] rfl (by decide) (relay_Hear.calls _ (Relay.mk x13448 x13449 xs13454 xs13459 xs13464) _ _ _ _ _ _ _ _ _ _ ((hM.roV (p := (Pl.int .i64)) (Ms := []) (.s (.s (.s (.s .z)))))) ((hM.roV (p := pStem) (Ms := []) (.s (.s (.s (.s (.s .z))))))) ((hM.roV (p := pHash) (Ms := []) (.s (.s (.s (.s (.s (.s .z)))))))) (hM.front (Ms := [])) H14865) ?_)
                      clear hA; rintro _ w15071 ⟨v15072, v15073, v15074, rfl, hMc⟩ a hA
                      have hE := hMc.below; have hM := hM.call (Ms := []) hMc
                      clear hMc; simp only [List.cons_append, List.nil_append] at hM
                      obtain ⟨A15075, c15076, rfl⟩ := RowOk.form (hM.row (p := (Pl.int .i64)) .z)
                      obtain ⟨A15077, c15078, rfl⟩ := RowOk.form (hM.row (p := pStem) (.s .z))
                      obtain ⟨A15079, c15080, rfl⟩ := RowOk.form (hM.row (p := pHash) (.s (.s .z)))
                      refine ⟨fun h => absurd h (by decide), ?_⟩
                      refine d_takef (i := 7) (L' := #[tT,tT,tT,tT,tT,tT,tT,tT,fF,fF,fF,tT,fF,fF,fF]) rfl (by kernel_rfl) rfl (fun _ _ _ h => h) hA (by decide) (fun h => absurd h (by decide)) (fun a w' hA => run_move (hA.ev rfl)) ?_; clear hA; intro a hA
                      refine d_takef (i := 8) (L' := #[tT,tT,tT,tT,tT,tT,tT,tT,tT,fF,fF,tT,fF,fF,fF]) rfl (by kernel_rfl) rfl (fun _ _ _ h => h) hA (by decide) (fun h => absurd h (by decide)) (fun a w' hA => run_ext (hA.ev rfl) rfl) ?_; clear hA; intro a hA
                      refine d_takef (i := 9) (L' := #[tT,tT,tT,tT,tT,tT,tT,tT,tT,tT,fF,tT,fF,fF,fF]) rfl (by kernel_rfl) rfl (fun _ _ _ h => h) hA (by decide) (fun h => absurd h (by decide)) (fun a w' hA => run_ext (hA.ev rfl) rfl) ?_; clear hA; intro a hA
                      refine d_takef (i := 10) (L' := #[tT,tT,tT,tT,tT,tT,tT,tT,tT,tT,tT,tT,fF,fF,fF]) rfl (by kernel_rfl) rfl (fun _ _ _ h => h) hA (by decide) (fun h => absurd h (by decide)) (fun a w' hA => run_ext (hA.ev rfl) rfl) ?_; clear hA; intro a hA
                      refine d_one (i := 12) (L' := #[tT,tT,tT,tT,tT,tT,tT,tT,tT,tT,tT,tT,tT,fF,fF]) (by kernel_rfl) rfl rfl (e_store (g := g15069) (off := 0) (cur := [(.int .u32 0), (.bool false), (.slice none 0 0), (.slice none 0 0), (.slice none 0 0)]) (cs' := [(.int .u32 r14864.1.Epoch), (.bool r14864.1.Diffuse), (.slice A15075 r14864.1.Routes.length c15076), (.slice A15077 r14864.1.Stems.length c15078), (.slice A15079 r14864.1.Fluffed.length c15080)]) hM (.s (.s (.s .z))) Try.sizeOf39 hA rfl (by simp [add_mk]) rfl (by first | rfl | simp [Value.cells, Pl.len]) (by simp [Value.cells, Value.oneCell']) (by first | exact Nat.le_of_ble_eq_true rfl | (simp [Pl.len]; done)) (spl_all (by first | rfl | simp [Value.cells, Pl.len])) ?_)
                      clear hM hA; intro w15081  hM hE  a hA
                      refine ⟨fun h => absurd h (by decide), ?_⟩
                      refine d_takef (i := 13) (L' := #[tT,tT,tT,tT,tT,tT,tT,tT,tT,tT,tT,tT,tT,tT,fF]) rfl (by kernel_rfl) rfl (fun _ _ _ h => h) hA (by decide) (fun h => absurd h (by decide)) (fun a w' hA => run_assign (hA.ev rfl)) ?_; clear hA; intro a hA
                      refine d_takef (i := 14) (L' := #[tT,tT,tT,tT,tT,tT,tT,tT,tT,tT,tT,tT,tT,tT,tT]) rfl (by kernel_rfl) rfl (fun _ _ _ h => h) hA (by decide) (fun h => absurd h (by decide)) (fun a w' hA => run_assign (hA.ev rfl)) ?_; clear hA; intro a hA
                      refine d_done (by kernel_rfl) ?_
                      exact ⟨r14861.2.At_, r14864.1.Epoch, r14864.1.Diffuse, r14864.1.Routes, r14864.1.Stems, r14864.1.Fluffed, r14864.2.1, r14864.2.2, g15069, (.slice A15075 r14864.1.Routes.length c15076), (.slice A15077 r14864.1.Stems.length c15078), (.slice A15079 r14864.1.Fluffed.length c15080), Option.some.inj H14858, (hM.sel [6, 7, 8, 9, 4, 10, 11, 5, 3, 0, 1, 2] rfl (by decide)), (((((((((hA.nil.cons (hA.get 21 _ rfl)).cons (hA.get 20 _ rfl)).cons (hA.get 19 _ rfl)).cons (hA.get 10 _ rfl)).cons (hA.get 9 _ rfl)).cons (hA.get 8 _ rfl)).cons (hA.get 7 _ rfl)).cons (hA.get 6 _ rfl)).cons (hA.get 5 _ rfl))⟩
                    · refine d_op (i := 4) (L' := #[fF,tT,tT,tT,tT,tT,fF,fF,fF,fF,fF,tT,fF,fF,fF]) rfl rfl (stv hA (by decide) (run_ld (hA.ev rfl) (run_loadP Try.isAgg34 Try.sizeOf34 (hM.box (.s (.s .z))))) ?_)
                      clear hA; intro a hA
                      refine ⟨fun h => absurd h (by decide), ?_⟩
                      refine d_one (i := 0) (L' := #[tT,tT,tT,tT,tT,tT,fF,fF,fF,fF,fF,tT,fF,fF,fF]) (by kernel_rfl) rfl rfl (stv hA (by decide) (run_ld (hA.ev rfl) (run_loadW Try.isAgg39 Try.sizeOf39 (by simp [Pl.len]; try rfl) (hM.box (.s (.s (.s .z)))))) ?_)
                      clear hA; intro a hA
                      refine ⟨fun h => absurd h (by decide), ?_⟩
                      refine d_one (i := 6) (L' := #[tT,tT,tT,tT,tT,tT,tT,fF,fF,fF,fF,tT,fF,fF,fF]) (by kernel_rfl) rfl rfl (st_call Try.call25 hA [(.agg #[(.int .u32 x13448), (.bool x13449), (.slice A13452 xs13454.length c13453), (.slice A13457 xs13459.length c13458), (.slice A13462 xs13464.length c13463)]), (.int .i64 (IntKind.i64.wrap (r14861.1 - 1))), (.agg (pHash.enc (((Vector.replicate 32 0 : Vector Int 32).setIfInBounds 0 (IntKind.u8.wrap r13528.1)))).toArray), (.int .u32 (IntKind.u32.wrap (t13480 + (IntKind.u32.wrap r13525.1)))), (.int .u32 10)] rfl (by decide) (relay_Hear.calls _ (Relay.mk x13448 x13449 xs13454 xs13459 xs13464) _ _ _ _ _ _ _ _ _ _ ((hM.roV (p := (Pl.int .i64)) (Ms := []) (.s (.s (.s (.s .z)))))) ((hM.roV (p := pStem) (Ms := []) (.s (.s (.s (.s (.s .z))))))) ((hM.roV (p := pHash) (Ms := []) (.s (.s (.s (.s (.s (.s .z)))))))) (hM.front (Ms := [])) H14865) ?_)
                      clear hA; rintro _ w15082 ⟨v15083, v15084, v15085, rfl, hMc⟩ a hA
                      have hE := hMc.below; have hM := hM.call (Ms := []) hMc
                      clear hMc; simp only [List.cons_append, List.nil_append] at hM
                      obtain ⟨A15086, c15087, rfl⟩ := RowOk.form (hM.row (p := (Pl.int .i64)) .z)
                      obtain ⟨A15088, c15089, rfl⟩ := RowOk.form (hM.row (p := pStem) (.s .z))
                      obtain ⟨A15090, c15091, rfl⟩ := RowOk.form (hM.row (p := pHash) (.s (.s .z)))
                      refine ⟨fun h => absurd h (by decide), ?_⟩
                      refine d_takef (i := 7) (L' := #[tT,tT,tT,tT,tT,tT,tT,tT,fF,fF,fF,tT,fF,fF,fF]) rfl (by kernel_rfl) rfl (fun _ _ _ h => h) hA (by decide) (fun h => absurd h (by decide)) (fun a w' hA => run_move (hA.ev rfl)) ?_; clear hA; intro a hA
                      refine d_takef (i := 8) (L' := #[tT,tT,tT,tT,tT,tT,tT,tT,tT,fF,fF,tT,fF,fF,fF]) rfl (by kernel_rfl) rfl (fun _ _ _ h => h) hA (by decide) (fun h => absurd h (by decide)) (fun a w' hA => run_ext (hA.ev rfl) rfl) ?_; clear hA; intro a hA
                      refine d_takef (i := 9) (L' := #[tT,tT,tT,tT,tT,tT,tT,tT,tT,tT,fF,tT,fF,fF,fF]) rfl (by kernel_rfl) rfl (fun _ _ _ h => h) hA (by decide) (fun h => absurd h (by decide)) (fun a w' hA => run_ext (hA.ev rfl) rfl) ?_; clear hA; intro a hA
                      refine d_takef (i := 10) (L' := #[tT,tT,tT,tT,tT,tT,tT,tT,tT,tT,tT,tT,fF,fF,fF]) rfl (by kernel_rfl) rfl (fun _ _ _ h => h) hA (by decide) (fun h => absurd h (by decide)) (fun a w' hA => run_ext (hA.ev rfl) rfl) ?_; clear hA; intro a hA
                      refine d_one (i := 12) (L' := #[tT,tT,tT,tT,tT,tT,tT,tT,tT,tT,tT,tT,tT,fF,fF]) (by kernel_rfl) rfl rfl (e_store (g := g15069) (off := 0) (cur := [(.int .u32 0), (.bool false), (.slice none 0 0), (.slice none 0 0), (.slice none 0 0)]) (cs' := [(.int .u32 r14864.1.Epoch), (.bool r14864.1.Diffuse), (.slice A15086 r14864.1.Routes.length c15087), (.slice A15088 r14864.1.Stems.length c15089), (.slice A15090 r14864.1.Fluffed.length c15091)]) hM (.s (.s (.s .z))) Try.sizeOf39 hA rfl (by simp [add_mk]) rfl (by first | rfl | simp [Value.cells, Pl.len]) (by simp [Value.cells, Value.oneCell']) (by first | exact Nat.le_of_ble_eq_true rfl | (simp [Pl.len]; done)) (spl_all (by first | rfl | simp [Value.cells, Pl.len])) ?_)
                      clear hM hA; intro w15092  hM hE  a hA
                      refine ⟨fun h => absurd h (by decide), ?_⟩
                      refine d_takef (i := 13) (L' := #[tT,tT,tT,tT,tT,tT,tT,tT,tT,tT,tT,tT,tT,tT,fF]) rfl (by kernel_rfl) rfl (fun _ _ _ h => h) hA (by decide) (fun h => absurd h (by decide)) (fun a w' hA => run_assign (hA.ev rfl)) ?_; clear hA; intro a hA
                      refine d_takef (i := 14) (L' := #[tT,tT,tT,tT,tT,tT,tT,tT,tT,tT,tT,tT,tT,tT,tT]) rfl (by kernel_rfl) rfl (fun _ _ _ h => h) hA (by decide) (fun h => absurd h (by decide)) (fun a w' hA => run_assign (hA.ev rfl)) ?_; clear hA; intro a hA
                      refine d_done (by kernel_rfl) ?_
                      exact ⟨r14861.2.At_, r14864.1.Epoch, r14864.1.Diffuse, r14864.1.Routes, r14864.1.Stems, r14864.1.Fluffed, r14864.2.1, r14864.2.2, g15069, (.slice A15086 r14864.1.Routes.length c15087), (.slice A15088 r14864.1.Stems.length c15089), (.slice A15090 r14864.1.Fluffed.length c15091), Option.some.inj H14858, (hM.sel [6, 7, 8, 9, 4, 10, 11, 5, 3, 0, 1, 2] rfl (by decide)), (((((((((hA.nil.cons (hA.get 21 _ rfl)).cons (hA.get 20 _ rfl)).cons (hA.get 19 _ rfl)).cons (hA.get 10 _ rfl)).cons (hA.get 9 _ rfl)).cons (hA.get 8 _ rfl)).cons (hA.get 7 _ rfl)).cons (hA.get 6 _ rfl)).cons (hA.get 5 _ rfl))⟩
                · refine d_op (i := 4) (L' := #[fF,tT,fF,fF,tT,tT,fF,fF,fF,fF,fF,fF,fF,fF,fF]) rfl rfl (stv hA (by decide) (run_ld (hA.ev rfl) (run_loadP Try.isAgg34 Try.sizeOf34 (hM.box (.s .z)))) ?_)
                  clear hA; intro a hA
                  refine ⟨fun _ => hS, ?_⟩
                  refine d_many (is := [0, 2, 11]) (by kernel_rfl) (by decide) ⟨?_, ?_, ?_, trivial⟩
                  · refine d_op (i := 0) (L' := #[tT,tT,fF,fF,tT,tT,fF,fF,fF,fF,fF,fF,fF,fF,fF]) rfl rfl (stv hA (by decide) (run_ld (hA.ev rfl) (run_loadW Try.isAgg39 Try.sizeOf39 (by simp [Pl.len]; try rfl) (hM.box (.s (.s .z))))) ?_)
                    clear hA; intro a hA
                    refine ⟨fun _ => hS, ?_⟩
                    refine d_many (is := [2, 11]) (by kernel_rfl) (by decide) ⟨?_, ?_, trivial⟩
                    · refine d_op (i := 2) (L' := #[tT,tT,tT,fF,tT,tT,fF,fF,fF,fF,fF,fF,fF,fF,fF]) rfl rfl (st_call Try.call23 hA [(.pointer (some (⟨g7760, 0, none⟩))), (.int .i64 9)] rfl (by decide) (mill_Deck_Next.calls _ (lightclientmill_Deck.mk o_1 r13535.2.At_) _ _ _ _ _ _ ((RoV.mk (hM.roC (Ms := [_]) hr1) (Eq.refl o_1.length) hc1)) (hM.front (Ms := [_])) H14862) ?_)
                      clear hA; rintro _ w15093 ⟨rfl, hMc⟩ a hA
                      have hM := hM.call (Ms := [_]) hMc
                      clear hMc; simp only [List.cons_append, List.nil_append] at hM
                      refine ⟨fun h => absurd h (by decide), ?_⟩
                      refine d_takef (i := 3) (L' := #[tT,tT,tT,tT,tT,tT,fF,fF,fF,fF,fF,fF,fF,fF,fF]) rfl (by kernel_rfl) rfl (fun _ _ _ h => h) hA (by decide) (fun h => absurd h (by decide)) (fun a w' hA => run_bin (hA.ev rfl) (hA.ev rfl) (bin_sub _ _ _ _)) ?_; clear hA; intro a hA
                      refine d_many (is := [6, 11]) (by kernel_rfl) (by decide) ⟨?_, ?_, trivial⟩
                      · refine d_op (i := 6) (L' := #[tT,tT,tT,tT,tT,tT,tT,fF,fF,fF,fF,fF,fF,fF,fF]) rfl rfl (st_call Try.call25 hA [(.agg #[(.int .u32 x13448), (.bool x13449), (.slice A13452 xs13454.length c13453), (.slice A13457 xs13459.length c13458), (.slice A13462 xs13464.length c13463)]), (.int .i64 (IntKind.i64.wrap (r14861.1 - 1))), (.agg (pHash.enc (((Vector.replicate 32 0 : Vector Int 32).setIfInBounds 0 (IntKind.u8.wrap r13528.1)))).toArray), (.int .u32 (IntKind.u32.wrap (t13480 + (IntKind.u32.wrap r13525.1)))), (.int .u32 10)] rfl (by decide) (relay_Hear.calls _ (Relay.mk x13448 x13449 xs13454 xs13459 xs13464) _ _ _ _ _ _ _ _ _ _ ((hM.roV (p := (Pl.int .i64)) (Ms := []) (.s (.s (.s .z))))) ((hM.roV (p := pStem) (Ms := []) (.s (.s (.s (.s .z)))))) ((hM.roV (p := pHash) (Ms := []) (.s (.s (.s (.s (.s .z))))))) (hM.front (Ms := [])) H14865) ?_)
                        clear hA; rintro _ w15094 ⟨v15095, v15096, v15097, rfl, hMc⟩ a hA
                        have hE := hMc.below; have hM := hM.call (Ms := []) hMc
                        clear hMc; simp only [List.cons_append, List.nil_append] at hM
                        obtain ⟨A15098, c15099, rfl⟩ := RowOk.form (hM.row (p := (Pl.int .i64)) .z)
                        obtain ⟨A15100, c15101, rfl⟩ := RowOk.form (hM.row (p := pStem) (.s .z))
                        obtain ⟨A15102, c15103, rfl⟩ := RowOk.form (hM.row (p := pHash) (.s (.s .z)))
                        refine ⟨fun h => absurd h (by decide), ?_⟩
                        refine d_takef (i := 7) (L' := #[tT,tT,tT,tT,tT,tT,tT,tT,fF,fF,fF,fF,fF,fF,fF]) rfl (by kernel_rfl) rfl (fun _ _ _ h => h) hA (by decide) (fun h => absurd h (by decide)) (fun a w' hA => run_move (hA.ev rfl)) ?_; clear hA; intro a hA
                        refine d_takef (i := 8) (L' := #[tT,tT,tT,tT,tT,tT,tT,tT,tT,fF,fF,fF,fF,fF,fF]) rfl (by kernel_rfl) rfl (fun _ _ _ h => h) hA (by decide) (fun h => absurd h (by decide)) (fun a w' hA => run_ext (hA.ev rfl) rfl) ?_; clear hA; intro a hA
                        refine d_takef (i := 9) (L' := #[tT,tT,tT,tT,tT,tT,tT,tT,tT,tT,fF,fF,fF,fF,fF]) rfl (by kernel_rfl) rfl (fun _ _ _ h => h) hA (by decide) (fun h => absurd h (by decide)) (fun a w' hA => run_ext (hA.ev rfl) rfl) ?_; clear hA; intro a hA
                        refine d_takef (i := 10) (L' := #[tT,tT,tT,tT,tT,tT,tT,tT,tT,tT,tT,fF,fF,fF,fF]) rfl (by kernel_rfl) rfl (fun _ _ _ h => h) hA (by decide) (fun h => absurd h (by decide)) (fun a w' hA => run_ext (hA.ev rfl) rfl) ?_; clear hA; intro a hA
                        refine d_one (i := 11) (L' := #[tT,tT,tT,tT,tT,tT,tT,tT,tT,tT,tT,tT,fF,fF,fF]) (by kernel_rfl) rfl rfl (e_alloc (cs := [(.int .u32 0), (.bool false), (.slice none 0 0), (.slice none 0 0), (.slice none 0 0)]) hM zero39 rfl hA (by decide) ?_)
                        clear hM hA; intro w15105 g15104 hM hE  a hA
                        refine ⟨fun h => absurd h (by decide), ?_⟩
                        refine d_one (i := 12) (L' := #[tT,tT,tT,tT,tT,tT,tT,tT,tT,tT,tT,tT,tT,fF,fF]) (by kernel_rfl) rfl rfl (e_store (g := g15104) (off := 0) (cur := [(.int .u32 0), (.bool false), (.slice none 0 0), (.slice none 0 0), (.slice none 0 0)]) (cs' := [(.int .u32 r14864.1.Epoch), (.bool r14864.1.Diffuse), (.slice A15098 r14864.1.Routes.length c15099), (.slice A15100 r14864.1.Stems.length c15101), (.slice A15102 r14864.1.Fluffed.length c15103)]) hM .z Try.sizeOf39 hA rfl (by simp [add_mk]) rfl (by first | rfl | simp [Value.cells, Pl.len]) (by simp [Value.cells, Value.oneCell']) (by first | exact Nat.le_of_ble_eq_true rfl | (simp [Pl.len]; done)) (spl_all (by first | rfl | simp [Value.cells, Pl.len])) ?_)
                        clear hM hA; intro w15106  hM hE  a hA
                        refine ⟨fun h => absurd h (by decide), ?_⟩
                        refine d_takef (i := 13) (L' := #[tT,tT,tT,tT,tT,tT,tT,tT,tT,tT,tT,tT,tT,tT,fF]) rfl (by kernel_rfl) rfl (fun _ _ _ h => h) hA (by decide) (fun h => absurd h (by decide)) (fun a w' hA => run_assign (hA.ev rfl)) ?_; clear hA; intro a hA
                        refine d_takef (i := 14) (L' := #[tT,tT,tT,tT,tT,tT,tT,tT,tT,tT,tT,tT,tT,tT,tT]) rfl (by kernel_rfl) rfl (fun _ _ _ h => h) hA (by decide) (fun h => absurd h (by decide)) (fun a w' hA => run_assign (hA.ev rfl)) ?_; clear hA; intro a hA
                        refine d_done (by kernel_rfl) ?_
                        exact ⟨r14861.2.At_, r14864.1.Epoch, r14864.1.Diffuse, r14864.1.Routes, r14864.1.Stems, r14864.1.Fluffed, r14864.2.1, r14864.2.2, g15104, (.slice A15098 r14864.1.Routes.length c15099), (.slice A15100 r14864.1.Stems.length c15101), (.slice A15102 r14864.1.Fluffed.length c15103), Option.some.inj H14858, (hM.sel [6, 7, 8, 9, 4, 10, 11, 5, 0, 1, 2, 3] rfl (by decide)), (((((((((hA.nil.cons (hA.get 21 _ rfl)).cons (hA.get 20 _ rfl)).cons (hA.get 19 _ rfl)).cons (hA.get 10 _ rfl)).cons (hA.get 9 _ rfl)).cons (hA.get 8 _ rfl)).cons (hA.get 7 _ rfl)).cons (hA.get 6 _ rfl)).cons (hA.get 5 _ rfl))⟩
                      · refine d_op (i := 11) (L' := #[tT,tT,tT,tT,tT,tT,fF,fF,fF,fF,fF,tT,fF,fF,fF]) rfl rfl (e_alloc (cs := [(.int .u32 0), (.bool false), (.slice none 0 0), (.slice none 0 0), (.slice none 0 0)]) hM zero39 rfl hA (by decide) ?_)
                        clear hM hA; intro w15108 g15107 hM hE  a hA
                        refine ⟨fun h => absurd h (by decide), ?_⟩
                        refine d_one (i := 6) (L' := #[tT,tT,tT,tT,tT,tT,tT,fF,fF,fF,fF,tT,fF,fF,fF]) (by kernel_rfl) rfl rfl (st_call Try.call25 hA [(.agg #[(.int .u32 x13448), (.bool x13449), (.slice A13452 xs13454.length c13453), (.slice A13457 xs13459.length c13458), (.slice A13462 xs13464.length c13463)]), (.int .i64 (IntKind.i64.wrap (r14861.1 - 1))), (.agg (pHash.enc (((Vector.replicate 32 0 : Vector Int 32).setIfInBounds 0 (IntKind.u8.wrap r13528.1)))).toArray), (.int .u32 (IntKind.u32.wrap (t13480 + (IntKind.u32.wrap r13525.1)))), (.int .u32 10)] rfl (by decide) (relay_Hear.calls _ (Relay.mk x13448 x13449 xs13454 xs13459 xs13464) _ _ _ _ _ _ _ _ _ _ ((hM.roV (p := (Pl.int .i64)) (Ms := []) (.s (.s (.s (.s .z)))))) ((hM.roV (p := pStem) (Ms := []) (.s (.s (.s (.s (.s .z))))))) ((hM.roV (p := pHash) (Ms := []) (.s (.s (.s (.s (.s (.s .z)))))))) (hM.front (Ms := [])) H14865) ?_)
                        clear hA; rintro _ w15109 ⟨v15110, v15111, v15112, rfl, hMc⟩ a hA
                        have hE := hMc.below; have hM := hM.call (Ms := []) hMc
                        clear hMc; simp only [List.cons_append, List.nil_append] at hM
                        obtain ⟨A15113, c15114, rfl⟩ := RowOk.form (hM.row (p := (Pl.int .i64)) .z)
                        obtain ⟨A15115, c15116, rfl⟩ := RowOk.form (hM.row (p := pStem) (.s .z))
                        obtain ⟨A15117, c15118, rfl⟩ := RowOk.form (hM.row (p := pHash) (.s (.s .z)))
                        refine ⟨fun h => absurd h (by decide), ?_⟩
                        refine d_takef (i := 7) (L' := #[tT,tT,tT,tT,tT,tT,tT,tT,fF,fF,fF,tT,fF,fF,fF]) rfl (by kernel_rfl) rfl (fun _ _ _ h => h) hA (by decide) (fun h => absurd h (by decide)) (fun a w' hA => run_move (hA.ev rfl)) ?_; clear hA; intro a hA
                        refine d_takef (i := 8) (L' := #[tT,tT,tT,tT,tT,tT,tT,tT,tT,fF,fF,tT,fF,fF,fF]) rfl (by kernel_rfl) rfl (fun _ _ _ h => h) hA (by decide) (fun h => absurd h (by decide)) (fun a w' hA => run_ext (hA.ev rfl) rfl) ?_; clear hA; intro a hA
                        refine d_takef (i := 9) (L' := #[tT,tT,tT,tT,tT,tT,tT,tT,tT,tT,fF,tT,fF,fF,fF]) rfl (by kernel_rfl) rfl (fun _ _ _ h => h) hA (by decide) (fun h => absurd h (by decide)) (fun a w' hA => run_ext (hA.ev rfl) rfl) ?_; clear hA; intro a hA
                        refine d_takef (i := 10) (L' := #[tT,tT,tT,tT,tT,tT,tT,tT,tT,tT,tT,tT,fF,fF,fF]) rfl (by kernel_rfl) rfl (fun _ _ _ h => h) hA (by decide) (fun h => absurd h (by decide)) (fun a w' hA => run_ext (hA.ev rfl) rfl) ?_; clear hA; intro a hA
                        refine d_one (i := 12) (L' := #[tT,tT,tT,tT,tT,tT,tT,tT,tT,tT,tT,tT,tT,fF,fF]) (by kernel_rfl) rfl rfl (e_store (g := g15107) (off := 0) (cur := [(.int .u32 0), (.bool false), (.slice none 0 0), (.slice none 0 0), (.slice none 0 0)]) (cs' := [(.int .u32 r14864.1.Epoch), (.bool r14864.1.Diffuse), (.slice A15113 r14864.1.Routes.length c15114), (.slice A15115 r14864.1.Stems.length c15116), (.slice A15117 r14864.1.Fluffed.length c15118)]) hM (.s (.s (.s .z))) Try.sizeOf39 hA rfl (by simp [add_mk]) rfl (by first | rfl | simp [Value.cells, Pl.len]) (by simp [Value.cells, Value.oneCell']) (by first | exact Nat.le_of_ble_eq_true rfl | (simp [Pl.len]; done)) (spl_all (by first | rfl | simp [Value.cells, Pl.len])) ?_)
                        clear hM hA; intro w15119  hM hE  a hA
                        refine ⟨fun h => absurd h (by decide), ?_⟩
                        refine d_takef (i := 13) (L' := #[tT,tT,tT,tT,tT,tT,tT,tT,tT,tT,tT,tT,tT,tT,fF]) rfl (by kernel_rfl) rfl (fun _ _ _ h => h) hA (by decide) (fun h => absurd h (by decide)) (fun a w' hA => run_assign (hA.ev rfl)) ?_; clear hA; intro a hA
                        refine d_takef (i := 14) (L' := #[tT,tT,tT,tT,tT,tT,tT,tT,tT,tT,tT,tT,tT,tT,tT]) rfl (by kernel_rfl) rfl (fun _ _ _ h => h) hA (by decide) (fun h => absurd h (by decide)) (fun a w' hA => run_assign (hA.ev rfl)) ?_; clear hA; intro a hA
                        refine d_done (by kernel_rfl) ?_
                        exact ⟨r14861.2.At_, r14864.1.Epoch, r14864.1.Diffuse, r14864.1.Routes, r14864.1.Stems, r14864.1.Fluffed, r14864.2.1, r14864.2.2, g15107, (.slice A15113 r14864.1.Routes.length c15114), (.slice A15115 r14864.1.Stems.length c15116), (.slice A15117 r14864.1.Fluffed.length c15118), Option.some.inj H14858, (hM.sel [6, 7, 8, 9, 4, 10, 11, 5, 3, 0, 1, 2] rfl (by decide)), (((((((((hA.nil.cons (hA.get 21 _ rfl)).cons (hA.get 20 _ rfl)).cons (hA.get 19 _ rfl)).cons (hA.get 10 _ rfl)).cons (hA.get 9 _ rfl)).cons (hA.get 8 _ rfl)).cons (hA.get 7 _ rfl)).cons (hA.get 6 _ rfl)).cons (hA.get 5 _ rfl))⟩
                    · refine d_op (i := 11) (L' := #[tT,tT,fF,fF,tT,tT,fF,fF,fF,fF,fF,tT,fF,fF,fF]) rfl rfl (e_alloc (cs := [(.int .u32 0), (.bool false), (.slice none 0 0), (.slice none 0 0), (.slice none 0 0)]) hM zero39 rfl hA (by decide) ?_)
                      clear hM hA; intro w15121 g15120 hM hE  a hA
                      replace hS := hS.trans (hE.mono hS.size)
                      refine ⟨fun _ => hS, ?_⟩
                      have hM := hM.sel [1, 0, 2, 3, 4, 5, 6, 7, 8] rfl (by decide)
                      refine d_one (i := 2) (L' := #[tT,tT,tT,fF,tT,tT,fF,fF,fF,fF,fF,tT,fF,fF,fF]) (by kernel_rfl) rfl rfl (st_call Try.call23 hA [(.pointer (some (⟨g7760, 0, none⟩))), (.int .i64 9)] rfl (by decide) (mill_Deck_Next.calls _ (lightclientmill_Deck.mk o_1 r13535.2.At_) _ _ _ _ _ _ ((RoV.mk (hM.roC (Ms := [_]) hr1) (Eq.refl o_1.length) hc1)) (hM.front (Ms := [_])) H14862) ?_)
                      clear hA; rintro _ w15122 ⟨rfl, hMc⟩ a hA
                      have hM := hM.call (Ms := [_]) hMc
                      clear hMc; simp only [List.cons_append, List.nil_append] at hM
                      refine ⟨fun h => absurd h (by decide), ?_⟩
                      refine d_takef (i := 3) (L' := #[tT,tT,tT,tT,tT,tT,fF,fF,fF,fF,fF,tT,fF,fF,fF]) rfl (by kernel_rfl) rfl (fun _ _ _ h => h) hA (by decide) (fun h => absurd h (by decide)) (fun a w' hA => run_bin (hA.ev rfl) (hA.ev rfl) (bin_sub _ _ _ _)) ?_; clear hA; intro a hA
                      refine d_one (i := 6) (L' := #[tT,tT,tT,tT,tT,tT,tT,fF,fF,fF,fF,tT,fF,fF,fF]) (by kernel_rfl) rfl rfl (st_call Try.call25 hA [(.agg #[(.int .u32 x13448), (.bool x13449), (.slice A13452 xs13454.length c13453), (.slice A13457 xs13459.length c13458), (.slice A13462 xs13464.length c13463)]), (.int .i64 (IntKind.i64.wrap (r14861.1 - 1))), (.agg (pHash.enc (((Vector.replicate 32 0 : Vector Int 32).setIfInBounds 0 (IntKind.u8.wrap r13528.1)))).toArray), (.int .u32 (IntKind.u32.wrap (t13480 + (IntKind.u32.wrap r13525.1)))), (.int .u32 10)] rfl (by decide) (relay_Hear.calls _ (Relay.mk x13448 x13449 xs13454 xs13459 xs13464) _ _ _ _ _ _ _ _ _ _ ((hM.roV (p := (Pl.int .i64)) (Ms := []) (.s (.s (.s (.s .z)))))) ((hM.roV (p := pStem) (Ms := []) (.s (.s (.s (.s (.s .z))))))) ((hM.roV (p := pHash) (Ms := []) (.s (.s (.s (.s (.s (.s .z)))))))) (hM.front (Ms := [])) H14865) ?_)
                      clear hA; rintro _ w15123 ⟨v15124, v15125, v15126, rfl, hMc⟩ a hA
                      have hE := hMc.below; have hM := hM.call (Ms := []) hMc
                      clear hMc; simp only [List.cons_append, List.nil_append] at hM
                      obtain ⟨A15127, c15128, rfl⟩ := RowOk.form (hM.row (p := (Pl.int .i64)) .z)
                      obtain ⟨A15129, c15130, rfl⟩ := RowOk.form (hM.row (p := pStem) (.s .z))
                      obtain ⟨A15131, c15132, rfl⟩ := RowOk.form (hM.row (p := pHash) (.s (.s .z)))
                      refine ⟨fun h => absurd h (by decide), ?_⟩
                      refine d_takef (i := 7) (L' := #[tT,tT,tT,tT,tT,tT,tT,tT,fF,fF,fF,tT,fF,fF,fF]) rfl (by kernel_rfl) rfl (fun _ _ _ h => h) hA (by decide) (fun h => absurd h (by decide)) (fun a w' hA => run_move (hA.ev rfl)) ?_; clear hA; intro a hA
                      refine d_takef (i := 8) (L' := #[tT,tT,tT,tT,tT,tT,tT,tT,tT,fF,fF,tT,fF,fF,fF]) rfl (by kernel_rfl) rfl (fun _ _ _ h => h) hA (by decide) (fun h => absurd h (by decide)) (fun a w' hA => run_ext (hA.ev rfl) rfl) ?_; clear hA; intro a hA
                      refine d_takef (i := 9) (L' := #[tT,tT,tT,tT,tT,tT,tT,tT,tT,tT,fF,tT,fF,fF,fF]) rfl (by kernel_rfl) rfl (fun _ _ _ h => h) hA (by decide) (fun h => absurd h (by decide)) (fun a w' hA => run_ext (hA.ev rfl) rfl) ?_; clear hA; intro a hA
                      refine d_takef (i := 10) (L' := #[tT,tT,tT,tT,tT,tT,tT,tT,tT,tT,tT,tT,fF,fF,fF]) rfl (by kernel_rfl) rfl (fun _ _ _ h => h) hA (by decide) (fun h => absurd h (by decide)) (fun a w' hA => run_ext (hA.ev rfl) rfl) ?_; clear hA; intro a hA
                      refine d_one (i := 12) (L' := #[tT,tT,tT,tT,tT,tT,tT,tT,tT,tT,tT,tT,tT,fF,fF]) (by kernel_rfl) rfl rfl (e_store (g := g15120) (off := 0) (cur := [(.int .u32 0), (.bool false), (.slice none 0 0), (.slice none 0 0), (.slice none 0 0)]) (cs' := [(.int .u32 r14864.1.Epoch), (.bool r14864.1.Diffuse), (.slice A15127 r14864.1.Routes.length c15128), (.slice A15129 r14864.1.Stems.length c15130), (.slice A15131 r14864.1.Fluffed.length c15132)]) hM (.s (.s (.s (.s .z)))) Try.sizeOf39 hA rfl (by simp [add_mk]) rfl (by first | rfl | simp [Value.cells, Pl.len]) (by simp [Value.cells, Value.oneCell']) (by first | exact Nat.le_of_ble_eq_true rfl | (simp [Pl.len]; done)) (spl_all (by first | rfl | simp [Value.cells, Pl.len])) ?_)
                      clear hM hA; intro w15133  hM hE  a hA
                      refine ⟨fun h => absurd h (by decide), ?_⟩
                      refine d_takef (i := 13) (L' := #[tT,tT,tT,tT,tT,tT,tT,tT,tT,tT,tT,tT,tT,tT,fF]) rfl (by kernel_rfl) rfl (fun _ _ _ h => h) hA (by decide) (fun h => absurd h (by decide)) (fun a w' hA => run_assign (hA.ev rfl)) ?_; clear hA; intro a hA
                      refine d_takef (i := 14) (L' := #[tT,tT,tT,tT,tT,tT,tT,tT,tT,tT,tT,tT,tT,tT,tT]) rfl (by kernel_rfl) rfl (fun _ _ _ h => h) hA (by decide) (fun h => absurd h (by decide)) (fun a w' hA => run_assign (hA.ev rfl)) ?_; clear hA; intro a hA
                      refine d_done (by kernel_rfl) ?_
                      exact ⟨r14861.2.At_, r14864.1.Epoch, r14864.1.Diffuse, r14864.1.Routes, r14864.1.Stems, r14864.1.Fluffed, r14864.2.1, r14864.2.2, g15120, (.slice A15127 r14864.1.Routes.length c15128), (.slice A15129 r14864.1.Stems.length c15130), (.slice A15131 r14864.1.Fluffed.length c15132), Option.some.inj H14858, (hM.sel [6, 7, 8, 9, 3, 10, 11, 5, 4, 0, 1, 2] rfl (by decide)), (((((((((hA.nil.cons (hA.get 21 _ rfl)).cons (hA.get 20 _ rfl)).cons (hA.get 19 _ rfl)).cons (hA.get 10 _ rfl)).cons (hA.get 9 _ rfl)).cons (hA.get 8 _ rfl)).cons (hA.get 7 _ rfl)).cons (hA.get 6 _ rfl)).cons (hA.get 5 _ rfl))⟩
                  · refine d_op (i := 2) (L' := #[fF,tT,tT,fF,tT,tT,fF,fF,fF,fF,fF,fF,fF,fF,fF]) rfl rfl (st_call Try.call23 hA [(.pointer (some (⟨g7760, 0, none⟩))), (.int .i64 9)] rfl (by decide) (mill_Deck_Next.calls _ (lightclientmill_Deck.mk o_1 r13535.2.At_) _ _ _ _ _ _ ((RoV.mk (hM.roC (Ms := [_]) hr1) (Eq.refl o_1.length) hc1)) (hM.front (Ms := [_])) H14862) ?_)
                    clear hA; rintro _ w15134 ⟨rfl, hMc⟩ a hA
                    have hM := hM.call (Ms := [_]) hMc
                    clear hMc; simp only [List.cons_append, List.nil_append] at hM
                    refine ⟨fun h => absurd h (by decide), ?_⟩
                    refine d_takef (i := 3) (L' := #[fF,tT,tT,tT,tT,tT,fF,fF,fF,fF,fF,fF,fF,fF,fF]) rfl (by kernel_rfl) rfl (fun _ _ _ h => h) hA (by decide) (fun h => absurd h (by decide)) (fun a w' hA => run_bin (hA.ev rfl) (hA.ev rfl) (bin_sub _ _ _ _)) ?_; clear hA; intro a hA
                    refine d_many (is := [0, 11]) (by kernel_rfl) (by decide) ⟨?_, ?_, trivial⟩
                    · refine d_op (i := 0) (L' := #[tT,tT,tT,tT,tT,tT,fF,fF,fF,fF,fF,fF,fF,fF,fF]) rfl rfl (stv hA (by decide) (run_ld (hA.ev rfl) (run_loadW Try.isAgg39 Try.sizeOf39 (by simp [Pl.len]; try rfl) (hM.box (.s (.s .z))))) ?_)
                      clear hA; intro a hA
                      refine ⟨fun h => absurd h (by decide), ?_⟩
                      refine d_many (is := [6, 11]) (by kernel_rfl) (by decide) ⟨?_, ?_, trivial⟩
                      · refine d_op (i := 6) (L' := #[tT,tT,tT,tT,tT,tT,tT,fF,fF,fF,fF,fF,fF,fF,fF]) rfl rfl (st_call Try.call25 hA [(.agg #[(.int .u32 x13448), (.bool x13449), (.slice A13452 xs13454.length c13453), (.slice A13457 xs13459.length c13458), (.slice A13462 xs13464.length c13463)]), (.int .i64 (IntKind.i64.wrap (r14861.1 - 1))), (.agg (pHash.enc (((Vector.replicate 32 0 : Vector Int 32).setIfInBounds 0 (IntKind.u8.wrap r13528.1)))).toArray), (.int .u32 (IntKind.u32.wrap (t13480 + (IntKind.u32.wrap r13525.1)))), (.int .u32 10)] rfl (by decide) (relay_Hear.calls _ (Relay.mk x13448 x13449 xs13454 xs13459 xs13464) _ _ _ _ _ _ _ _ _ _ ((hM.roV (p := (Pl.int .i64)) (Ms := []) (.s (.s (.s .z))))) ((hM.roV (p := pStem) (Ms := []) (.s (.s (.s (.s .z)))))) ((hM.roV (p := pHash) (Ms := []) (.s (.s (.s (.s (.s .z))))))) (hM.front (Ms := [])) H14865) ?_)
                        clear hA; rintro _ w15135 ⟨v15136, v15137, v15138, rfl, hMc⟩ a hA
                        have hE := hMc.below; have hM := hM.call (Ms := []) hMc
                        clear hMc; simp only [List.cons_append, List.nil_append] at hM
                        obtain ⟨A15139, c15140, rfl⟩ := RowOk.form (hM.row (p := (Pl.int .i64)) .z)
                        obtain ⟨A15141, c15142, rfl⟩ := RowOk.form (hM.row (p := pStem) (.s .z))
                        obtain ⟨A15143, c15144, rfl⟩ := RowOk.form (hM.row (p := pHash) (.s (.s .z)))
                        refine ⟨fun h => absurd h (by decide), ?_⟩
                        refine d_takef (i := 7) (L' := #[tT,tT,tT,tT,tT,tT,tT,tT,fF,fF,fF,fF,fF,fF,fF]) rfl (by kernel_rfl) rfl (fun _ _ _ h => h) hA (by decide) (fun h => absurd h (by decide)) (fun a w' hA => run_move (hA.ev rfl)) ?_; clear hA; intro a hA
                        refine d_takef (i := 8) (L' := #[tT,tT,tT,tT,tT,tT,tT,tT,tT,fF,fF,fF,fF,fF,fF]) rfl (by kernel_rfl) rfl (fun _ _ _ h => h) hA (by decide) (fun h => absurd h (by decide)) (fun a w' hA => run_ext (hA.ev rfl) rfl) ?_; clear hA; intro a hA
                        refine d_takef (i := 9) (L' := #[tT,tT,tT,tT,tT,tT,tT,tT,tT,tT,fF,fF,fF,fF,fF]) rfl (by kernel_rfl) rfl (fun _ _ _ h => h) hA (by decide) (fun h => absurd h (by decide)) (fun a w' hA => run_ext (hA.ev rfl) rfl) ?_; clear hA; intro a hA
                        refine d_takef (i := 10) (L' := #[tT,tT,tT,tT,tT,tT,tT,tT,tT,tT,tT,fF,fF,fF,fF]) rfl (by kernel_rfl) rfl (fun _ _ _ h => h) hA (by decide) (fun h => absurd h (by decide)) (fun a w' hA => run_ext (hA.ev rfl) rfl) ?_; clear hA; intro a hA
                        refine d_one (i := 11) (L' := #[tT,tT,tT,tT,tT,tT,tT,tT,tT,tT,tT,tT,fF,fF,fF]) (by kernel_rfl) rfl rfl (e_alloc (cs := [(.int .u32 0), (.bool false), (.slice none 0 0), (.slice none 0 0), (.slice none 0 0)]) hM zero39 rfl hA (by decide) ?_)
                        clear hM hA; intro w15146 g15145 hM hE  a hA
                        refine ⟨fun h => absurd h (by decide), ?_⟩
                        refine d_one (i := 12) (L' := #[tT,tT,tT,tT,tT,tT,tT,tT,tT,tT,tT,tT,tT,fF,fF]) (by kernel_rfl) rfl rfl (e_store (g := g15145) (off := 0) (cur := [(.int .u32 0), (.bool false), (.slice none 0 0), (.slice none 0 0), (.slice none 0 0)]) (cs' := [(.int .u32 r14864.1.Epoch), (.bool r14864.1.Diffuse), (.slice A15139 r14864.1.Routes.length c15140), (.slice A15141 r14864.1.Stems.length c15142), (.slice A15143 r14864.1.Fluffed.length c15144)]) hM .z Try.sizeOf39 hA rfl (by simp [add_mk]) rfl (by first | rfl | simp [Value.cells, Pl.len]) (by simp [Value.cells, Value.oneCell']) (by first | exact Nat.le_of_ble_eq_true rfl | (simp [Pl.len]; done)) (spl_all (by first | rfl | simp [Value.cells, Pl.len])) ?_)
                        clear hM hA; intro w15147  hM hE  a hA
                        refine ⟨fun h => absurd h (by decide), ?_⟩
                        refine d_takef (i := 13) (L' := #[tT,tT,tT,tT,tT,tT,tT,tT,tT,tT,tT,tT,tT,tT,fF]) rfl (by kernel_rfl) rfl (fun _ _ _ h => h) hA (by decide) (fun h => absurd h (by decide)) (fun a w' hA => run_assign (hA.ev rfl)) ?_; clear hA; intro a hA
                        refine d_takef (i := 14) (L' := #[tT,tT,tT,tT,tT,tT,tT,tT,tT,tT,tT,tT,tT,tT,tT]) rfl (by kernel_rfl) rfl (fun _ _ _ h => h) hA (by decide) (fun h => absurd h (by decide)) (fun a w' hA => run_assign (hA.ev rfl)) ?_; clear hA; intro a hA
                        refine d_done (by kernel_rfl) ?_
                        exact ⟨r14861.2.At_, r14864.1.Epoch, r14864.1.Diffuse, r14864.1.Routes, r14864.1.Stems, r14864.1.Fluffed, r14864.2.1, r14864.2.2, g15145, (.slice A15139 r14864.1.Routes.length c15140), (.slice A15141 r14864.1.Stems.length c15142), (.slice A15143 r14864.1.Fluffed.length c15144), Option.some.inj H14858, (hM.sel [6, 7, 8, 9, 4, 10, 11, 5, 0, 1, 2, 3] rfl (by decide)), (((((((((hA.nil.cons (hA.get 21 _ rfl)).cons (hA.get 20 _ rfl)).cons (hA.get 19 _ rfl)).cons (hA.get 10 _ rfl)).cons (hA.get 9 _ rfl)).cons (hA.get 8 _ rfl)).cons (hA.get 7 _ rfl)).cons (hA.get 6 _ rfl)).cons (hA.get 5 _ rfl))⟩
                      · refine d_op (i := 11) (L' := #[tT,tT,tT,tT,tT,tT,fF,fF,fF,fF,fF,tT,fF,fF,fF]) rfl rfl (e_alloc (cs := [(.int .u32 0), (.bool false), (.slice none 0 0), (.slice none 0 0), (.slice none 0 0)]) hM zero39 rfl hA (by decide) ?_)
                        clear hM hA; intro w15149 g15148 hM hE  a hA
                        refine ⟨fun h => absurd h (by decide), ?_⟩
                        refine d_one (i := 6) (L' := #[tT,tT,tT,tT,tT,tT,tT,fF,fF,fF,fF,tT,fF,fF,fF]) (by kernel_rfl) rfl rfl (st_call Try.call25 hA [(.agg #[(.int .u32 x13448), (.bool x13449), (.slice A13452 xs13454.length c13453), (.slice A13457 xs13459.length c13458), (.slice A13462 xs13464.length c13463)]), (.int .i64 (IntKind.i64.wrap (r14861.1 - 1))), (.agg (pHash.enc (((Vector.replicate 32 0 : Vector Int 32).setIfInBounds 0 (IntKind.u8.wrap r13528.1)))).toArray), (.int .u32 (IntKind.u32.wrap (t13480 + (IntKind.u32.wrap r13525.1)))), (.int .u32 10)] rfl (by decide) (relay_Hear.calls _ (Relay.mk x13448 x13449 xs13454 xs13459 xs13464) _ _ _ _ _ _ _ _ _ _ ((hM.roV (p := (Pl.int .i64)) (Ms := []) (.s (.s (.s (.s .z)))))) ((hM.roV (p := pStem) (Ms := []) (.s (.s (.s (.s (.s .z))))))) ((hM.roV (p := pHash) (Ms := []) (.s (.s (.s (.s (.s (.s .z)))))))) (hM.front (Ms := [])) H14865) ?_)
                        clear hA; rintro _ w15150 ⟨v15151, v15152, v15153, rfl, hMc⟩ a hA
                        have hE := hMc.below; have hM := hM.call (Ms := []) hMc
                        clear hMc; simp only [List.cons_append, List.nil_append] at hM
                        obtain ⟨A15154, c15155, rfl⟩ := RowOk.form (hM.row (p := (Pl.int .i64)) .z)
                        obtain ⟨A15156, c15157, rfl⟩ := RowOk.form (hM.row (p := pStem) (.s .z))
                        obtain ⟨A15158, c15159, rfl⟩ := RowOk.form (hM.row (p := pHash) (.s (.s .z)))
                        refine ⟨fun h => absurd h (by decide), ?_⟩
                        refine d_takef (i := 7) (L' := #[tT,tT,tT,tT,tT,tT,tT,tT,fF,fF,fF,tT,fF,fF,fF]) rfl (by kernel_rfl) rfl (fun _ _ _ h => h) hA (by decide) (fun h => absurd h (by decide)) (fun a w' hA => run_move (hA.ev rfl)) ?_; clear hA; intro a hA
                        refine d_takef (i := 8) (L' := #[tT,tT,tT,tT,tT,tT,tT,tT,tT,fF,fF,tT,fF,fF,fF]) rfl (by kernel_rfl) rfl (fun _ _ _ h => h) hA (by decide) (fun h => absurd h (by decide)) (fun a w' hA => run_ext (hA.ev rfl) rfl) ?_; clear hA; intro a hA
                        refine d_takef (i := 9) (L' := #[tT,tT,tT,tT,tT,tT,tT,tT,tT,tT,fF,tT,fF,fF,fF]) rfl (by kernel_rfl) rfl (fun _ _ _ h => h) hA (by decide) (fun h => absurd h (by decide)) (fun a w' hA => run_ext (hA.ev rfl) rfl) ?_; clear hA; intro a hA
                        refine d_takef (i := 10) (L' := #[tT,tT,tT,tT,tT,tT,tT,tT,tT,tT,tT,tT,fF,fF,fF]) rfl (by kernel_rfl) rfl (fun _ _ _ h => h) hA (by decide) (fun h => absurd h (by decide)) (fun a w' hA => run_ext (hA.ev rfl) rfl) ?_; clear hA; intro a hA
                        refine d_one (i := 12) (L' := #[tT,tT,tT,tT,tT,tT,tT,tT,tT,tT,tT,tT,tT,fF,fF]) (by kernel_rfl) rfl rfl (e_store (g := g15148) (off := 0) (cur := [(.int .u32 0), (.bool false), (.slice none 0 0), (.slice none 0 0), (.slice none 0 0)]) (cs' := [(.int .u32 r14864.1.Epoch), (.bool r14864.1.Diffuse), (.slice A15154 r14864.1.Routes.length c15155), (.slice A15156 r14864.1.Stems.length c15157), (.slice A15158 r14864.1.Fluffed.length c15159)]) hM (.s (.s (.s .z))) Try.sizeOf39 hA rfl (by simp [add_mk]) rfl (by first | rfl | simp [Value.cells, Pl.len]) (by simp [Value.cells, Value.oneCell']) (by first | exact Nat.le_of_ble_eq_true rfl | (simp [Pl.len]; done)) (spl_all (by first | rfl | simp [Value.cells, Pl.len])) ?_)
                        clear hM hA; intro w15160  hM hE  a hA
                        refine ⟨fun h => absurd h (by decide), ?_⟩
                        refine d_takef (i := 13) (L' := #[tT,tT,tT,tT,tT,tT,tT,tT,tT,tT,tT,tT,tT,tT,fF]) rfl (by kernel_rfl) rfl (fun _ _ _ h => h) hA (by decide) (fun h => absurd h (by decide)) (fun a w' hA => run_assign (hA.ev rfl)) ?_; clear hA; intro a hA
                        refine d_takef (i := 14) (L' := #[tT,tT,tT,tT,tT,tT,tT,tT,tT,tT,tT,tT,tT,tT,tT]) rfl (by kernel_rfl) rfl (fun _ _ _ h => h) hA (by decide) (fun h => absurd h (by decide)) (fun a w' hA => run_assign (hA.ev rfl)) ?_; clear hA; intro a hA
                        refine d_done (by kernel_rfl) ?_
                        exact ⟨r14861.2.At_, r14864.1.Epoch, r14864.1.Diffuse, r14864.1.Routes, r14864.1.Stems, r14864.1.Fluffed, r14864.2.1, r14864.2.2, g15148, (.slice A15154 r14864.1.Routes.length c15155), (.slice A15156 r14864.1.Stems.length c15157), (.slice A15158 r14864.1.Fluffed.length c15159), Option.some.inj H14858, (hM.sel [6, 7, 8, 9, 4, 10, 11, 5, 3, 0, 1, 2] rfl (by decide)), (((((((((hA.nil.cons (hA.get 21 _ rfl)).cons (hA.get 20 _ rfl)).cons (hA.get 19 _ rfl)).cons (hA.get 10 _ rfl)).cons (hA.get 9 _ rfl)).cons (hA.get 8 _ rfl)).cons (hA.get 7 _ rfl)).cons (hA.get 6 _ rfl)).cons (hA.get 5 _ rfl))⟩
                    · refine d_op (i := 11) (L' := #[fF,tT,tT,tT,tT,tT,fF,fF,fF,fF,fF,tT,fF,fF,fF]) rfl rfl (e_alloc (cs := [(.int .u32 0), (.bool false), (.slice none 0 0), (.slice none 0 0), (.slice none 0 0)]) hM zero39 rfl hA (by decide) ?_)
                      clear hM hA; intro w15162 g15161 hM hE  a hA
                      refine ⟨fun h => absurd h (by decide), ?_⟩
                      refine d_one (i := 0) (L' := #[tT,tT,tT,tT,tT,tT,fF,fF,fF,fF,fF,tT,fF,fF,fF]) (by kernel_rfl) rfl rfl (stv hA (by decide) (run_ld (hA.ev rfl) (run_loadW Try.isAgg39 Try.sizeOf39 (by simp [Pl.len]; try rfl) (hM.box (.s (.s (.s .z)))))) ?_)
                      clear hA; intro a hA
                      refine ⟨fun h => absurd h (by decide), ?_⟩
                      refine d_one (i := 6) (L' := #[tT,tT,tT,tT,tT,tT,tT,fF,fF,fF,fF,tT,fF,fF,fF]) (by kernel_rfl) rfl rfl (st_call Try.call25 hA [(.agg #[(.int .u32 x13448), (.bool x13449), (.slice A13452 xs13454.length c13453), (.slice A13457 xs13459.length c13458), (.slice A13462 xs13464.length c13463)]), (.int .i64 (IntKind.i64.wrap (r14861.1 - 1))), (.agg (pHash.enc (((Vector.replicate 32 0 : Vector Int 32).setIfInBounds 0 (IntKind.u8.wrap r13528.1)))).toArray), (.int .u32 (IntKind.u32.wrap (t13480 + (IntKind.u32.wrap r13525.1)))), (.int .u32 10)] rfl (by decide) (relay_Hear.calls _ (Relay.mk x13448 x13449 xs13454 xs13459 xs13464) _ _ _ _ _ _ _ _ _ _ ((hM.roV (p := (Pl.int .i64)) (Ms := []) (.s (.s (.s (.s .z)))))) ((hM.roV (p := pStem) (Ms := []) (.s (.s (.s (.s (.s .z))))))) ((hM.roV (p := pHash) (Ms := []) (.s (.s (.s (.s (.s (.s .z)))))))) (hM.front (Ms := [])) H14865) ?_)
                      clear hA; rintro _ w15163 ⟨v15164, v15165, v15166, rfl, hMc⟩ a hA
                      have hE := hMc.below; have hM := hM.call (Ms := []) hMc
                      clear hMc; simp only [List.cons_append, List.nil_append] at hM
                      obtain ⟨A15167, c15168, rfl⟩ := RowOk.form (hM.row (p := (Pl.int .i64)) .z)
                      obtain ⟨A15169, c15170, rfl⟩ := RowOk.form (hM.row (p := pStem) (.s .z))
                      obtain ⟨A15171, c15172, rfl⟩ := RowOk.form (hM.row (p := pHash) (.s (.s .z)))
                      refine ⟨fun h => absurd h (by decide), ?_⟩
                      refine d_takef (i := 7) (L' := #[tT,tT,tT,tT,tT,tT,tT,tT,fF,fF,fF,tT,fF,fF,fF]) rfl (by kernel_rfl) rfl (fun _ _ _ h => h) hA (by decide) (fun h => absurd h (by decide)) (fun a w' hA => run_move (hA.ev rfl)) ?_; clear hA; intro a hA
                      refine d_takef (i := 8) (L' := #[tT,tT,tT,tT,tT,tT,tT,tT,tT,fF,fF,tT,fF,fF,fF]) rfl (by kernel_rfl) rfl (fun _ _ _ h => h) hA (by decide) (fun h => absurd h (by decide)) (fun a w' hA => run_ext (hA.ev rfl) rfl) ?_; clear hA; intro a hA
                      refine d_takef (i := 9) (L' := #[tT,tT,tT,tT,tT,tT,tT,tT,tT,tT,fF,tT,fF,fF,fF]) rfl (by kernel_rfl) rfl (fun _ _ _ h => h) hA (by decide) (fun h => absurd h (by decide)) (fun a w' hA => run_ext (hA.ev rfl) rfl) ?_; clear hA; intro a hA
                      refine d_takef (i := 10) (L' := #[tT,tT,tT,tT,tT,tT,tT,tT,tT,tT,tT,tT,fF,fF,fF]) rfl (by kernel_rfl) rfl (fun _ _ _ h => h) hA (by decide) (fun h => absurd h (by decide)) (fun a w' hA => run_ext (hA.ev rfl) rfl) ?_; clear hA; intro a hA
                      refine d_one (i := 12) (L' := #[tT,tT,tT,tT,tT,tT,tT,tT,tT,tT,tT,tT,tT,fF,fF]) (by kernel_rfl) rfl rfl (e_store (g := g15161) (off := 0) (cur := [(.int .u32 0), (.bool false), (.slice none 0 0), (.slice none 0 0), (.slice none 0 0)]) (cs' := [(.int .u32 r14864.1.Epoch), (.bool r14864.1.Diffuse), (.slice A15167 r14864.1.Routes.length c15168), (.slice A15169 r14864.1.Stems.length c15170), (.slice A15171 r14864.1.Fluffed.length c15172)]) hM (.s (.s (.s .z))) Try.sizeOf39 hA rfl (by simp [add_mk]) rfl (by first | rfl | simp [Value.cells, Pl.len]) (by simp [Value.cells, Value.oneCell']) (by first | exact Nat.le_of_ble_eq_true rfl | (simp [Pl.len]; done)) (spl_all (by first | rfl | simp [Value.cells, Pl.len])) ?_)
                      clear hM hA; intro w15173  hM hE  a hA
                      refine ⟨fun h => absurd h (by decide), ?_⟩
                      refine d_takef (i := 13) (L' := #[tT,tT,tT,tT,tT,tT,tT,tT,tT,tT,tT,tT,tT,tT,fF]) rfl (by kernel_rfl) rfl (fun _ _ _ h => h) hA (by decide) (fun h => absurd h (by decide)) (fun a w' hA => run_assign (hA.ev rfl)) ?_; clear hA; intro a hA
                      refine d_takef (i := 14) (L' := #[tT,tT,tT,tT,tT,tT,tT,tT,tT,tT,tT,tT,tT,tT,tT]) rfl (by kernel_rfl) rfl (fun _ _ _ h => h) hA (by decide) (fun h => absurd h (by decide)) (fun a w' hA => run_assign (hA.ev rfl)) ?_; clear hA; intro a hA
                      refine d_done (by kernel_rfl) ?_
                      exact ⟨r14861.2.At_, r14864.1.Epoch, r14864.1.Diffuse, r14864.1.Routes, r14864.1.Stems, r14864.1.Fluffed, r14864.2.1, r14864.2.2, g15161, (.slice A15167 r14864.1.Routes.length c15168), (.slice A15169 r14864.1.Stems.length c15170), (.slice A15171 r14864.1.Fluffed.length c15172), Option.some.inj H14858, (hM.sel [6, 7, 8, 9, 4, 10, 11, 5, 3, 0, 1, 2] rfl (by decide)), (((((((((hA.nil.cons (hA.get 21 _ rfl)).cons (hA.get 20 _ rfl)).cons (hA.get 19 _ rfl)).cons (hA.get 10 _ rfl)).cons (hA.get 9 _ rfl)).cons (hA.get 8 _ rfl)).cons (hA.get 7 _ rfl)).cons (hA.get 6 _ rfl)).cons (hA.get 5 _ rfl))⟩
                  · refine d_op (i := 11) (L' := #[fF,tT,fF,fF,tT,tT,fF,fF,fF,fF,fF,tT,fF,fF,fF]) rfl rfl (e_alloc (cs := [(.int .u32 0), (.bool false), (.slice none 0 0), (.slice none 0 0), (.slice none 0 0)]) hM zero39 rfl hA (by decide) ?_)
                    clear hM hA; intro w15175 g15174 hM hE  a hA
                    replace hS := hS.trans (hE.mono hS.size)
                    refine ⟨fun _ => hS, ?_⟩
                    refine d_many (is := [0, 2]) (by kernel_rfl) (by decide) ⟨?_, ?_, trivial⟩
                    · refine d_op (i := 0) (L' := #[tT,tT,fF,fF,tT,tT,fF,fF,fF,fF,fF,tT,fF,fF,fF]) rfl rfl (stv hA (by decide) (run_ld (hA.ev rfl) (run_loadW Try.isAgg39 Try.sizeOf39 (by simp [Pl.len]; try rfl) (hM.box (.s (.s (.s .z)))))) ?_)
                      clear hA; intro a hA
                      refine ⟨fun _ => hS, ?_⟩
                      have hM := hM.sel [1, 0, 2, 3, 4, 5, 6, 7, 8] rfl (by decide)
                      refine d_one (i := 2) (L' := #[tT,tT,tT,fF,tT,tT,fF,fF,fF,fF,fF,tT,fF,fF,fF]) (by kernel_rfl) rfl rfl (st_call Try.call23 hA [(.pointer (some (⟨g7760, 0, none⟩))), (.int .i64 9)] rfl (by decide) (mill_Deck_Next.calls _ (lightclientmill_Deck.mk o_1 r13535.2.At_) _ _ _ _ _ _ ((RoV.mk (hM.roC (Ms := [_]) hr1) (Eq.refl o_1.length) hc1)) (hM.front (Ms := [_])) H14862) ?_)
                      clear hA; rintro _ w15176 ⟨rfl, hMc⟩ a hA
                      have hM := hM.call (Ms := [_]) hMc
                      clear hMc; simp only [List.cons_append, List.nil_append] at hM
                      refine ⟨fun h => absurd h (by decide), ?_⟩
                      refine d_takef (i := 3) (L' := #[tT,tT,tT,tT,tT,tT,fF,fF,fF,fF,fF,tT,fF,fF,fF]) rfl (by kernel_rfl) rfl (fun _ _ _ h => h) hA (by decide) (fun h => absurd h (by decide)) (fun a w' hA => run_bin (hA.ev rfl) (hA.ev rfl) (bin_sub _ _ _ _)) ?_; clear hA; intro a hA
                      refine d_one (i := 6) (L' := #[tT,tT,tT,tT,tT,tT,tT,fF,fF,fF,fF,tT,fF,fF,fF]) (by kernel_rfl) rfl rfl (st_call Try.call25 hA [(.agg #[(.int .u32 x13448), (.bool x13449), (.slice A13452 xs13454.length c13453), (.slice A13457 xs13459.length c13458), (.slice A13462 xs13464.length c13463)]), (.int .i64 (IntKind.i64.wrap (r14861.1 - 1))), (.agg (pHash.enc (((Vector.replicate 32 0 : Vector Int 32).setIfInBounds 0 (IntKind.u8.wrap r13528.1)))).toArray), (.int .u32 (IntKind.u32.wrap (t13480 + (IntKind.u32.wrap r13525.1)))), (.int .u32 10)] rfl (by decide) (relay_Hear.calls _ (Relay.mk x13448 x13449 xs13454 xs13459 xs13464) _ _ _ _ _ _ _ _ _ _ ((hM.roV (p := (Pl.int .i64)) (Ms := []) (.s (.s (.s (.s .z)))))) ((hM.roV (p := pStem) (Ms := []) (.s (.s (.s (.s (.s .z))))))) ((hM.roV (p := pHash) (Ms := []) (.s (.s (.s (.s (.s (.s .z)))))))) (hM.front (Ms := [])) H14865) ?_)
                      clear hA; rintro _ w15177 ⟨v15178, v15179, v15180, rfl, hMc⟩ a hA
                      have hE := hMc.below; have hM := hM.call (Ms := []) hMc
                      clear hMc; simp only [List.cons_append, List.nil_append] at hM
                      obtain ⟨A15181, c15182, rfl⟩ := RowOk.form (hM.row (p := (Pl.int .i64)) .z)
                      obtain ⟨A15183, c15184, rfl⟩ := RowOk.form (hM.row (p := pStem) (.s .z))
                      obtain ⟨A15185, c15186, rfl⟩ := RowOk.form (hM.row (p := pHash) (.s (.s .z)))
                      refine ⟨fun h => absurd h (by decide), ?_⟩
                      refine d_takef (i := 7) (L' := #[tT,tT,tT,tT,tT,tT,tT,tT,fF,fF,fF,tT,fF,fF,fF]) rfl (by kernel_rfl) rfl (fun _ _ _ h => h) hA (by decide) (fun h => absurd h (by decide)) (fun a w' hA => run_move (hA.ev rfl)) ?_; clear hA; intro a hA
                      refine d_takef (i := 8) (L' := #[tT,tT,tT,tT,tT,tT,tT,tT,tT,fF,fF,tT,fF,fF,fF]) rfl (by kernel_rfl) rfl (fun _ _ _ h => h) hA (by decide) (fun h => absurd h (by decide)) (fun a w' hA => run_ext (hA.ev rfl) rfl) ?_; clear hA; intro a hA
                      refine d_takef (i := 9) (L' := #[tT,tT,tT,tT,tT,tT,tT,tT,tT,tT,fF,tT,fF,fF,fF]) rfl (by kernel_rfl) rfl (fun _ _ _ h => h) hA (by decide) (fun h => absurd h (by decide)) (fun a w' hA => run_ext (hA.ev rfl) rfl) ?_; clear hA; intro a hA
                      refine d_takef (i := 10) (L' := #[tT,tT,tT,tT,tT,tT,tT,tT,tT,tT,tT,tT,fF,fF,fF]) rfl (by kernel_rfl) rfl (fun _ _ _ h => h) hA (by decide) (fun h => absurd h (by decide)) (fun a w' hA => run_ext (hA.ev rfl) rfl) ?_; clear hA; intro a hA
                      refine d_one (i := 12) (L' := #[tT,tT,tT,tT,tT,tT,tT,tT,tT,tT,tT,tT,tT,fF,fF]) (by kernel_rfl) rfl rfl (e_store (g := g15174) (off := 0) (cur := [(.int .u32 0), (.bool false), (.slice none 0 0), (.slice none 0 0), (.slice none 0 0)]) (cs' := [(.int .u32 r14864.1.Epoch), (.bool r14864.1.Diffuse), (.slice A15181 r14864.1.Routes.length c15182), (.slice A15183 r14864.1.Stems.length c15184), (.slice A15185 r14864.1.Fluffed.length c15186)]) hM (.s (.s (.s (.s .z)))) Try.sizeOf39 hA rfl (by simp [add_mk]) rfl (by first | rfl | simp [Value.cells, Pl.len]) (by simp [Value.cells, Value.oneCell']) (by first | exact Nat.le_of_ble_eq_true rfl | (simp [Pl.len]; done)) (spl_all (by first | rfl | simp [Value.cells, Pl.len])) ?_)
                      clear hM hA; intro w15187  hM hE  a hA
                      refine ⟨fun h => absurd h (by decide), ?_⟩
                      refine d_takef (i := 13) (L' := #[tT,tT,tT,tT,tT,tT,tT,tT,tT,tT,tT,tT,tT,tT,fF]) rfl (by kernel_rfl) rfl (fun _ _ _ h => h) hA (by decide) (fun h => absurd h (by decide)) (fun a w' hA => run_assign (hA.ev rfl)) ?_; clear hA; intro a hA
                      refine d_takef (i := 14) (L' := #[tT,tT,tT,tT,tT,tT,tT,tT,tT,tT,tT,tT,tT,tT,tT]) rfl (by kernel_rfl) rfl (fun _ _ _ h => h) hA (by decide) (fun h => absurd h (by decide)) (fun a w' hA => run_assign (hA.ev rfl)) ?_; clear hA; intro a hA
                      refine d_done (by kernel_rfl) ?_
                      exact ⟨r14861.2.At_, r14864.1.Epoch, r14864.1.Diffuse, r14864.1.Routes, r14864.1.Stems, r14864.1.Fluffed, r14864.2.1, r14864.2.2, g15174, (.slice A15181 r14864.1.Routes.length c15182), (.slice A15183 r14864.1.Stems.length c15184), (.slice A15185 r14864.1.Fluffed.length c15186), Option.some.inj H14858, (hM.sel [6, 7, 8, 9, 3, 10, 11, 5, 4, 0, 1, 2] rfl (by decide)), (((((((((hA.nil.cons (hA.get 21 _ rfl)).cons (hA.get 20 _ rfl)).cons (hA.get 19 _ rfl)).cons (hA.get 10 _ rfl)).cons (hA.get 9 _ rfl)).cons (hA.get 8 _ rfl)).cons (hA.get 7 _ rfl)).cons (hA.get 6 _ rfl)).cons (hA.get 5 _ rfl))⟩
                    · have hM := hM.sel [1, 0, 2, 3, 4, 5, 6, 7, 8] rfl (by decide)
                      refine d_op (i := 2) (L' := #[fF,tT,tT,fF,tT,tT,fF,fF,fF,fF,fF,tT,fF,fF,fF]) rfl rfl (st_call Try.call23 hA [(.pointer (some (⟨g7760, 0, none⟩))), (.int .i64 9)] rfl (by decide) (mill_Deck_Next.calls _ (lightclientmill_Deck.mk o_1 r13535.2.At_) _ _ _ _ _ _ ((RoV.mk (hM.roC (Ms := [_]) hr1) (Eq.refl o_1.length) hc1)) (hM.front (Ms := [_])) H14862) ?_)
                      clear hA; rintro _ w15188 ⟨rfl, hMc⟩ a hA
                      have hM := hM.call (Ms := [_]) hMc
                      clear hMc; simp only [List.cons_append, List.nil_append] at hM
                      refine ⟨fun h => absurd h (by decide), ?_⟩
                      refine d_takef (i := 3) (L' := #[fF,tT,tT,tT,tT,tT,fF,fF,fF,fF,fF,tT,fF,fF,fF]) rfl (by kernel_rfl) rfl (fun _ _ _ h => h) hA (by decide) (fun h => absurd h (by decide)) (fun a w' hA => run_bin (hA.ev rfl) (hA.ev rfl) (bin_sub _ _ _ _)) ?_; clear hA; intro a hA
                      refine d_one (i := 0) (L' := #[tT,tT,tT,tT,tT,tT,fF,fF,fF,fF,fF,tT,fF,fF,fF]) (by kernel_rfl) rfl rfl (stv hA (by decide) (run_ld (hA.ev rfl) (run_loadW Try.isAgg39 Try.sizeOf39 (by simp [Pl.len]; try rfl) (hM.box (.s (.s (.s .z)))))) ?_)
                      clear hA; intro a hA
                      refine ⟨fun h => absurd h (by decide), ?_⟩
                      refine d_one (i := 6) (L' := #[tT,tT,tT,tT,tT,tT,tT,fF,fF,fF,fF,tT,fF,fF,fF]) (by kernel_rfl) rfl rfl (st_call Try.call25 hA [(.agg #[(.int .u32 x13448), (.bool x13449), (.slice A13452 xs13454.length c13453), (.slice A13457 xs13459.length c13458), (.slice A13462 xs13464.length c13463)]), (.int .i64 (IntKind.i64.wrap (r14861.1 - 1))), (.agg (pHash.enc (((Vector.replicate 32 0 : Vector Int 32).setIfInBounds 0 (IntKind.u8.wrap r13528.1)))).toArray), (.int .u32 (IntKind.u32.wrap (t13480 + (IntKind.u32.wrap r13525.1)))), (.int .u32 10)] rfl (by decide) (relay_Hear.calls _ (Relay.mk x13448 x13449 xs13454 xs13459 xs13464) _ _ _ _ _ _ _ _ _ _ ((hM.roV (p := (Pl.int .i64)) (Ms := []) (.s (.s (.s (.s .z)))))) ((hM.roV (p := pStem) (Ms := []) (.s (.s (.s (.s (.s .z))))))) ((hM.roV (p := pHash) (Ms := []) (.s (.s (.s (.s (.s (.s .z)))))))) (hM.front (Ms := [])) H14865) ?_)
                      clear hA; rintro _ w15189 ⟨v15190, v15191, v15192, rfl, hMc⟩ a hA
                      have hE := hMc.below; have hM := hM.call (Ms := []) hMc
                      clear hMc; simp only [List.cons_append, List.nil_append] at hM
                      obtain ⟨A15193, c15194, rfl⟩ := RowOk.form (hM.row (p := (Pl.int .i64)) .z)
                      obtain ⟨A15195, c15196, rfl⟩ := RowOk.form (hM.row (p := pStem) (.s .z))
                      obtain ⟨A15197, c15198, rfl⟩ := RowOk.form (hM.row (p := pHash) (.s (.s .z)))
                      refine ⟨fun h => absurd h (by decide), ?_⟩
                      refine d_takef (i := 7) (L' := #[tT,tT,tT,tT,tT,tT,tT,tT,fF,fF,fF,tT,fF,fF,fF]) rfl (by kernel_rfl) rfl (fun _ _ _ h => h) hA (by decide) (fun h => absurd h (by decide)) (fun a w' hA => run_move (hA.ev rfl)) ?_; clear hA; intro a hA
                      refine d_takef (i := 8) (L' := #[tT,tT,tT,tT,tT,tT,tT,tT,tT,fF,fF,tT,fF,fF,fF]) rfl (by kernel_rfl) rfl (fun _ _ _ h => h) hA (by decide) (fun h => absurd h (by decide)) (fun a w' hA => run_ext (hA.ev rfl) rfl) ?_; clear hA; intro a hA
                      refine d_takef (i := 9) (L' := #[tT,tT,tT,tT,tT,tT,tT,tT,tT,tT,fF,tT,fF,fF,fF]) rfl (by kernel_rfl) rfl (fun _ _ _ h => h) hA (by decide) (fun h => absurd h (by decide)) (fun a w' hA => run_ext (hA.ev rfl) rfl) ?_; clear hA; intro a hA
                      refine d_takef (i := 10) (L' := #[tT,tT,tT,tT,tT,tT,tT,tT,tT,tT,tT,tT,fF,fF,fF]) rfl (by kernel_rfl) rfl (fun _ _ _ h => h) hA (by decide) (fun h => absurd h (by decide)) (fun a w' hA => run_ext (hA.ev rfl) rfl) ?_; clear hA; intro a hA
                      refine d_one (i := 12) (L' := #[tT,tT,tT,tT,tT,tT,tT,tT,tT,tT,tT,tT,tT,fF,fF]) (by kernel_rfl) rfl rfl (e_store (g := g15174) (off := 0) (cur := [(.int .u32 0), (.bool false), (.slice none 0 0), (.slice none 0 0), (.slice none 0 0)]) (cs' := [(.int .u32 r14864.1.Epoch), (.bool r14864.1.Diffuse), (.slice A15193 r14864.1.Routes.length c15194), (.slice A15195 r14864.1.Stems.length c15196), (.slice A15197 r14864.1.Fluffed.length c15198)]) hM (.s (.s (.s (.s .z)))) Try.sizeOf39 hA rfl (by simp [add_mk]) rfl (by first | rfl | simp [Value.cells, Pl.len]) (by simp [Value.cells, Value.oneCell']) (by first | exact Nat.le_of_ble_eq_true rfl | (simp [Pl.len]; done)) (spl_all (by first | rfl | simp [Value.cells, Pl.len])) ?_)
                      clear hM hA; intro w15199  hM hE  a hA
                      refine ⟨fun h => absurd h (by decide), ?_⟩
                      refine d_takef (i := 13) (L' := #[tT,tT,tT,tT,tT,tT,tT,tT,tT,tT,tT,tT,tT,tT,fF]) rfl (by kernel_rfl) rfl (fun _ _ _ h => h) hA (by decide) (fun h => absurd h (by decide)) (fun a w' hA => run_assign (hA.ev rfl)) ?_; clear hA; intro a hA
                      refine d_takef (i := 14) (L' := #[tT,tT,tT,tT,tT,tT,tT,tT,tT,tT,tT,tT,tT,tT,tT]) rfl (by kernel_rfl) rfl (fun _ _ _ h => h) hA (by decide) (fun h => absurd h (by decide)) (fun a w' hA => run_assign (hA.ev rfl)) ?_; clear hA; intro a hA
                      refine d_done (by kernel_rfl) ?_
                      exact ⟨r14861.2.At_, r14864.1.Epoch, r14864.1.Diffuse, r14864.1.Routes, r14864.1.Stems, r14864.1.Fluffed, r14864.2.1, r14864.2.2, g15174, (.slice A15193 r14864.1.Routes.length c15194), (.slice A15195 r14864.1.Stems.length c15196), (.slice A15197 r14864.1.Fluffed.length c15198), Option.some.inj H14858, (hM.sel [6, 7, 8, 9, 3, 10, 11, 5, 4, 0, 1, 2] rfl (by decide)), (((((((((hA.nil.cons (hA.get 21 _ rfl)).cons (hA.get 20 _ rfl)).cons (hA.get 19 _ rfl)).cons (hA.get 10 _ rfl)).cons (hA.get 9 _ rfl)).cons (hA.get 8 _ rfl)).cons (hA.get 7 _ rfl)).cons (hA.get 6 _ rfl)).cons (hA.get 5 _ rfl))⟩
                · refine d_op (i := 11) (L' := #[fF,tT,fF,fF,fF,tT,fF,fF,fF,fF,fF,tT,fF,fF,fF]) rfl rfl (e_alloc (cs := [(.int .u32 0), (.bool false), (.slice none 0 0), (.slice none 0 0), (.slice none 0 0)]) hM zero39 rfl hA (by decide) ?_)
                  clear hM hA; intro w15201 g15200 hM hE  a hA
                  replace hS := hS.trans (hE.mono hS.size)
                  refine ⟨fun _ => hS, ?_⟩
                  refine d_many (is := [0, 2, 4]) (by kernel_rfl) (by decide) ⟨?_, ?_, ?_, trivial⟩
                  · refine d_op (i := 0) (L' := #[tT,tT,fF,fF,fF,tT,fF,fF,fF,fF,fF,tT,fF,fF,fF]) rfl rfl (stv hA (by decide) (run_ld (hA.ev rfl) (run_loadW Try.isAgg39 Try.sizeOf39 (by simp [Pl.len]; try rfl) (hM.box (.s (.s (.s .z)))))) ?_)
                    clear hA; intro a hA
                    refine ⟨fun _ => hS, ?_⟩
                    refine d_many (is := [2, 4]) (by kernel_rfl) (by decide) ⟨?_, ?_, trivial⟩
                    · have hM := hM.sel [1, 0, 2, 3, 4, 5, 6, 7, 8] rfl (by decide)
                      refine d_op (i := 2) (L' := #[tT,tT,tT,fF,fF,tT,fF,fF,fF,fF,fF,tT,fF,fF,fF]) rfl rfl (st_call Try.call23 hA [(.pointer (some (⟨g7760, 0, none⟩))), (.int .i64 9)] rfl (by decide) (mill_Deck_Next.calls _ (lightclientmill_Deck.mk o_1 r13535.2.At_) _ _ _ _ _ _ ((RoV.mk (hM.roC (Ms := [_]) hr1) (Eq.refl o_1.length) hc1)) (hM.front (Ms := [_])) H14862) ?_)
                      clear hA; rintro _ w15202 ⟨rfl, hMc⟩ a hA
                      have hM := hM.call (Ms := [_]) hMc
                      clear hMc; simp only [List.cons_append, List.nil_append] at hM
                      refine ⟨fun h => absurd h (by decide), ?_⟩
                      refine d_takef (i := 3) (L' := #[tT,tT,tT,tT,fF,tT,fF,fF,fF,fF,fF,tT,fF,fF,fF]) rfl (by kernel_rfl) rfl (fun _ _ _ h => h) hA (by decide) (fun h => absurd h (by decide)) (fun a w' hA => run_bin (hA.ev rfl) (hA.ev rfl) (bin_sub _ _ _ _)) ?_; clear hA; intro a hA
                      refine d_one (i := 4) (L' := #[tT,tT,tT,tT,tT,tT,fF,fF,fF,fF,fF,tT,fF,fF,fF]) (by kernel_rfl) rfl rfl (stv hA (by decide) (run_ld (hA.ev rfl) (run_loadP Try.isAgg34 Try.sizeOf34 (hM.box (.s (.s .z))))) ?_)
                      clear hA; intro a hA
                      refine ⟨fun h => absurd h (by decide), ?_⟩
                      refine d_one (i := 6) (L' := #[tT,tT,tT,tT,tT,tT,tT,fF,fF,fF,fF,tT,fF,fF,fF]) (by kernel_rfl) rfl rfl (st_call Try.call25 hA [(.agg #[(.int .u32 x13448), (.bool x13449), (.slice A13452 xs13454.length c13453), (.slice A13457 xs13459.length c13458), (.slice A13462 xs13464.length c13463)]), (.int .i64 (IntKind.i64.wrap (r14861.1 - 1))), (.agg (pHash.enc (((Vector.replicate 32 0 : Vector Int 32).setIfInBounds 0 (IntKind.u8.wrap r13528.1)))).toArray), (.int .u32 (IntKind.u32.wrap (t13480 + (IntKind.u32.wrap r13525.1)))), (.int .u32 10)] rfl (by decide) (relay_Hear.calls _ (Relay.mk x13448 x13449 xs13454 xs13459 xs13464) _ _ _ _ _ _ _ _ _ _ ((hM.roV (p := (Pl.int .i64)) (Ms := []) (.s (.s (.s (.s .z)))))) ((hM.roV (p := pStem) (Ms := []) (.s (.s (.s (.s (.s .z))))))) ((hM.roV (p := pHash) (Ms := []) (.s (.s (.s (.s (.s (.s .z)))))))) (hM.front (Ms := [])) H14865) ?_)
                      clear hA; rintro _ w15203 ⟨v15204, v15205, v15206, rfl, hMc⟩ a hA
                      have hE := hMc.below; have hM := hM.call (Ms := []) hMc
                      clear hMc; simp only [List.cons_append, List.nil_append] at hM
                      obtain ⟨A15207, c15208, rfl⟩ := RowOk.form (hM.row (p := (Pl.int .i64)) .z)
                      obtain ⟨A15209, c15210, rfl⟩ := RowOk.form (hM.row (p := pStem) (.s .z))
                      obtain ⟨A15211, c15212, rfl⟩ := RowOk.form (hM.row (p := pHash) (.s (.s .z)))
                      refine ⟨fun h => absurd h (by decide), ?_⟩
                      refine d_takef (i := 7) (L' := #[tT,tT,tT,tT,tT,tT,tT,tT,fF,fF,fF,tT,fF,fF,fF]) rfl (by kernel_rfl) rfl (fun _ _ _ h => h) hA (by decide) (fun h => absurd h (by decide)) (fun a w' hA => run_move (hA.ev rfl)) ?_; clear hA; intro a hA
                      refine d_takef (i := 8) (L' := #[tT,tT,tT,tT,tT,tT,tT,tT,tT,fF,fF,tT,fF,fF,fF]) rfl (by kernel_rfl) rfl (fun _ _ _ h => h) hA (by decide) (fun h => absurd h (by decide)) (fun a w' hA => run_ext (hA.ev rfl) rfl) ?_; clear hA; intro a hA
                      refine d_takef (i := 9) (L' := #[tT,tT,tT,tT,tT,tT,tT,tT,tT,tT,fF,tT,fF,fF,fF]) rfl (by kernel_rfl) rfl (fun _ _ _ h => h) hA (by decide) (fun h => absurd h (by decide)) (fun a w' hA => run_ext (hA.ev rfl) rfl) ?_; clear hA; intro a hA
                      refine d_takef (i := 10) (L' := #[tT,tT,tT,tT,tT,tT,tT,tT,tT,tT,tT,tT,fF,fF,fF]) rfl (by kernel_rfl) rfl (fun _ _ _ h => h) hA (by decide) (fun h => absurd h (by decide)) (fun a w' hA => run_ext (hA.ev rfl) rfl) ?_; clear hA; intro a hA
                      refine d_one (i := 12) (L' := #[tT,tT,tT,tT,tT,tT,tT,tT,tT,tT,tT,tT,tT,fF,fF]) (by kernel_rfl) rfl rfl (e_store (g := g15200) (off := 0) (cur := [(.int .u32 0), (.bool false), (.slice none 0 0), (.slice none 0 0), (.slice none 0 0)]) (cs' := [(.int .u32 r14864.1.Epoch), (.bool r14864.1.Diffuse), (.slice A15207 r14864.1.Routes.length c15208), (.slice A15209 r14864.1.Stems.length c15210), (.slice A15211 r14864.1.Fluffed.length c15212)]) hM (.s (.s (.s (.s .z)))) Try.sizeOf39 hA rfl (by simp [add_mk]) rfl (by first | rfl | simp [Value.cells, Pl.len]) (by simp [Value.cells, Value.oneCell']) (by first | exact Nat.le_of_ble_eq_true rfl | (simp [Pl.len]; done)) (spl_all (by first | rfl | simp [Value.cells, Pl.len])) ?_)
                      clear hM hA; intro w15213  hM hE  a hA
                      refine ⟨fun h => absurd h (by decide), ?_⟩
                      refine d_takef (i := 13) (L' := #[tT,tT,tT,tT,tT,tT,tT,tT,tT,tT,tT,tT,tT,tT,fF]) rfl (by kernel_rfl) rfl (fun _ _ _ h => h) hA (by decide) (fun h => absurd h (by decide)) (fun a w' hA => run_assign (hA.ev rfl)) ?_; clear hA; intro a hA
                      refine d_takef (i := 14) (L' := #[tT,tT,tT,tT,tT,tT,tT,tT,tT,tT,tT,tT,tT,tT,tT]) rfl (by kernel_rfl) rfl (fun _ _ _ h => h) hA (by decide) (fun h => absurd h (by decide)) (fun a w' hA => run_assign (hA.ev rfl)) ?_; clear hA; intro a hA
                      refine d_done (by kernel_rfl) ?_
                      exact ⟨r14861.2.At_, r14864.1.Epoch, r14864.1.Diffuse, r14864.1.Routes, r14864.1.Stems, r14864.1.Fluffed, r14864.2.1, r14864.2.2, g15200, (.slice A15207 r14864.1.Routes.length c15208), (.slice A15209 r14864.1.Stems.length c15210), (.slice A15211 r14864.1.Fluffed.length c15212), Option.some.inj H14858, (hM.sel [6, 7, 8, 9, 3, 10, 11, 5, 4, 0, 1, 2] rfl (by decide)), (((((((((hA.nil.cons (hA.get 21 _ rfl)).cons (hA.get 20 _ rfl)).cons (hA.get 19 _ rfl)).cons (hA.get 10 _ rfl)).cons (hA.get 9 _ rfl)).cons (hA.get 8 _ rfl)).cons (hA.get 7 _ rfl)).cons (hA.get 6 _ rfl)).cons (hA.get 5 _ rfl))⟩
                    · refine d_op (i := 4) (L' := #[tT,tT,fF,fF,tT,tT,fF,fF,fF,fF,fF,tT,fF,fF,fF]) rfl rfl (stv hA (by decide) (run_ld (hA.ev rfl) (run_loadP Try.isAgg34 Try.sizeOf34 (hM.box (.s (.s .z))))) ?_)
                      clear hA; intro a hA
                      refine ⟨fun _ => hS, ?_⟩
                      have hM := hM.sel [1, 0, 2, 3, 4, 5, 6, 7, 8] rfl (by decide)
                      refine d_one (i := 2) (L' := #[tT,tT,tT,fF,tT,tT,fF,fF,fF,fF,fF,tT,fF,fF,fF]) (by kernel_rfl) rfl rfl (st_call Try.call23 hA [(.pointer (some (⟨g7760, 0, none⟩))), (.int .i64 9)] rfl (by decide) (mill_Deck_Next.calls _ (lightclientmill_Deck.mk o_1 r13535.2.At_) _ _ _ _ _ _ ((RoV.mk (hM.roC (Ms := [_]) hr1) (Eq.refl o_1.length) hc1)) (hM.front (Ms := [_])) H14862) ?_)
                      clear hA; rintro _ w15214 ⟨rfl, hMc⟩ a hA
                      have hM := hM.call (Ms := [_]) hMc
                      clear hMc; simp only [List.cons_append, List.nil_append] at hM
                      refine ⟨fun h => absurd h (by decide), ?_⟩
                      refine d_takef (i := 3) (L' := #[tT,tT,tT,tT,tT,tT,fF,fF,fF,fF,fF,tT,fF,fF,fF]) rfl (by kernel_rfl) rfl (fun _ _ _ h => h) hA (by decide) (fun h => absurd h (by decide)) (fun a w' hA => run_bin (hA.ev rfl) (hA.ev rfl) (bin_sub _ _ _ _)) ?_; clear hA; intro a hA
                      refine d_one (i := 6) (L' := #[tT,tT,tT,tT,tT,tT,tT,fF,fF,fF,fF,tT,fF,fF,fF]) (by kernel_rfl) rfl rfl (st_call Try.call25 hA [(.agg #[(.int .u32 x13448), (.bool x13449), (.slice A13452 xs13454.length c13453), (.slice A13457 xs13459.length c13458), (.slice A13462 xs13464.length c13463)]), (.int .i64 (IntKind.i64.wrap (r14861.1 - 1))), (.agg (pHash.enc (((Vector.replicate 32 0 : Vector Int 32).setIfInBounds 0 (IntKind.u8.wrap r13528.1)))).toArray), (.int .u32 (IntKind.u32.wrap (t13480 + (IntKind.u32.wrap r13525.1)))), (.int .u32 10)] rfl (by decide) (relay_Hear.calls _ (Relay.mk x13448 x13449 xs13454 xs13459 xs13464) _ _ _ _ _ _ _ _ _ _ ((hM.roV (p := (Pl.int .i64)) (Ms := []) (.s (.s (.s (.s .z)))))) ((hM.roV (p := pStem) (Ms := []) (.s (.s (.s (.s (.s .z))))))) ((hM.roV (p := pHash) (Ms := []) (.s (.s (.s (.s (.s (.s .z)))))))) (hM.front (Ms := [])) H14865) ?_)
                      clear hA; rintro _ w15215 ⟨v15216, v15217, v15218, rfl, hMc⟩ a hA
                      have hE := hMc.below; have hM := hM.call (Ms := []) hMc
                      clear hMc; simp only [List.cons_append, List.nil_append] at hM
                      obtain ⟨A15219, c15220, rfl⟩ := RowOk.form (hM.row (p := (Pl.int .i64)) .z)
                      obtain ⟨A15221, c15222, rfl⟩ := RowOk.form (hM.row (p := pStem) (.s .z))
                      obtain ⟨A15223, c15224, rfl⟩ := RowOk.form (hM.row (p := pHash) (.s (.s .z)))
                      refine ⟨fun h => absurd h (by decide), ?_⟩
                      refine d_takef (i := 7) (L' := #[tT,tT,tT,tT,tT,tT,tT,tT,fF,fF,fF,tT,fF,fF,fF]) rfl (by kernel_rfl) rfl (fun _ _ _ h => h) hA (by decide) (fun h => absurd h (by decide)) (fun a w' hA => run_move (hA.ev rfl)) ?_; clear hA; intro a hA
                      refine d_takef (i := 8) (L' := #[tT,tT,tT,tT,tT,tT,tT,tT,tT,fF,fF,tT,fF,fF,fF]) rfl (by kernel_rfl) rfl (fun _ _ _ h => h) hA (by decide) (fun h => absurd h (by decide)) (fun a w' hA => run_ext (hA.ev rfl) rfl) ?_; clear hA; intro a hA
                      refine d_takef (i := 9) (L' := #[tT,tT,tT,tT,tT,tT,tT,tT,tT,tT,fF,tT,fF,fF,fF]) rfl (by kernel_rfl) rfl (fun _ _ _ h => h) hA (by decide) (fun h => absurd h (by decide)) (fun a w' hA => run_ext (hA.ev rfl) rfl) ?_; clear hA; intro a hA
                      refine d_takef (i := 10) (L' := #[tT,tT,tT,tT,tT,tT,tT,tT,tT,tT,tT,tT,fF,fF,fF]) rfl (by kernel_rfl) rfl (fun _ _ _ h => h) hA (by decide) (fun h => absurd h (by decide)) (fun a w' hA => run_ext (hA.ev rfl) rfl) ?_; clear hA; intro a hA
                      refine d_one (i := 12) (L' := #[tT,tT,tT,tT,tT,tT,tT,tT,tT,tT,tT,tT,tT,fF,fF]) (by kernel_rfl) rfl rfl (e_store (g := g15200) (off := 0) (cur := [(.int .u32 0), (.bool false), (.slice none 0 0), (.slice none 0 0), (.slice none 0 0)]) (cs' := [(.int .u32 r14864.1.Epoch), (.bool r14864.1.Diffuse), (.slice A15219 r14864.1.Routes.length c15220), (.slice A15221 r14864.1.Stems.length c15222), (.slice A15223 r14864.1.Fluffed.length c15224)]) hM (.s (.s (.s (.s .z)))) Try.sizeOf39 hA rfl (by simp [add_mk]) rfl (by first | rfl | simp [Value.cells, Pl.len]) (by simp [Value.cells, Value.oneCell']) (by first | exact Nat.le_of_ble_eq_true rfl | (simp [Pl.len]; done)) (spl_all (by first | rfl | simp [Value.cells, Pl.len])) ?_)
                      clear hM hA; intro w15225  hM hE  a hA
                      refine ⟨fun h => absurd h (by decide), ?_⟩
                      refine d_takef (i := 13) (L' := #[tT,tT,tT,tT,tT,tT,tT,tT,tT,tT,tT,tT,tT,tT,fF]) rfl (by kernel_rfl) rfl (fun _ _ _ h => h) hA (by decide) (fun h => absurd h (by decide)) (fun a w' hA => run_assign (hA.ev rfl)) ?_; clear hA; intro a hA
                      refine d_takef (i := 14) (L' := #[tT,tT,tT,tT,tT,tT,tT,tT,tT,tT,tT,tT,tT,tT,tT]) rfl (by kernel_rfl) rfl (fun _ _ _ h => h) hA (by decide) (fun h => absurd h (by decide)) (fun a w' hA => run_assign (hA.ev rfl)) ?_; clear hA; intro a hA
                      refine d_done (by kernel_rfl) ?_
                      exact ⟨r14861.2.At_, r14864.1.Epoch, r14864.1.Diffuse, r14864.1.Routes, r14864.1.Stems, r14864.1.Fluffed, r14864.2.1, r14864.2.2, g15200, (.slice A15219 r14864.1.Routes.length c15220), (.slice A15221 r14864.1.Stems.length c15222), (.slice A15223 r14864.1.Fluffed.length c15224), Option.some.inj H14858, (hM.sel [6, 7, 8, 9, 3, 10, 11, 5, 4, 0, 1, 2] rfl (by decide)), (((((((((hA.nil.cons (hA.get 21 _ rfl)).cons (hA.get 20 _ rfl)).cons (hA.get 19 _ rfl)).cons (hA.get 10 _ rfl)).cons (hA.get 9 _ rfl)).cons (hA.get 8 _ rfl)).cons (hA.get 7 _ rfl)).cons (hA.get 6 _ rfl)).cons (hA.get 5 _ rfl))⟩
                  · have hM := hM.sel [1, 0, 2, 3, 4, 5, 6, 7, 8] rfl (by decide)
                    refine d_op (i := 2) (L' := #[fF,tT,tT,fF,fF,tT,fF,fF,fF,fF,fF,tT,fF,fF,fF]) rfl rfl (st_call Try.call23 hA [(.pointer (some (⟨g7760, 0, none⟩))), (.int .i64 9)] rfl (by decide) (mill_Deck_Next.calls _ (lightclientmill_Deck.mk o_1 r13535.2.At_) _ _ _ _ _ _ ((RoV.mk (hM.roC (Ms := [_]) hr1) (Eq.refl o_1.length) hc1)) (hM.front (Ms := [_])) H14862) ?_)
                    clear hA; rintro _ w15226 ⟨rfl, hMc⟩ a hA
                    have hM := hM.call (Ms := [_]) hMc
                    clear hMc; simp only [List.cons_append, List.nil_append] at hM
                    refine ⟨fun h => absurd h (by decide), ?_⟩
                    refine d_takef (i := 3) (L' := #[fF,tT,tT,tT,fF,tT,fF,fF,fF,fF,fF,tT,fF,fF,fF]) rfl (by kernel_rfl) rfl (fun _ _ _ h => h) hA (by decide) (fun h => absurd h (by decide)) (fun a w' hA => run_bin (hA.ev rfl) (hA.ev rfl) (bin_sub _ _ _ _)) ?_; clear hA; intro a hA
                    refine d_many (is := [0, 4]) (by kernel_rfl) (by decide) ⟨?_, ?_, trivial⟩
                    · refine d_op (i := 0) (L' := #[tT,tT,tT,tT,fF,tT,fF,fF,fF,fF,fF,tT,fF,fF,fF]) rfl rfl (stv hA (by decide) (run_ld (hA.ev rfl) (run_loadW Try.isAgg39 Try.sizeOf39 (by simp [Pl.len]; try rfl) (hM.box (.s (.s (.s .z)))))) ?_)
                      clear hA; intro a hA
                      refine ⟨fun h => absurd h (by decide), ?_⟩
                      refine d_one (i := 4) (L' := #[tT,tT,tT,tT,tT,tT,fF,fF,fF,fF,fF,tT,fF,fF,fF]) (by kernel_rfl) rfl rfl (stv hA (by decide) (run_ld (hA.ev rfl) (run_loadP Try.isAgg34 Try.sizeOf34 (hM.box (.s (.s .z))))) ?_)
                      clear hA; intro a hA
                      refine ⟨fun h => absurd h (by decide), ?_⟩
                      refine d_one (i := 6) (L' := #[tT,tT,tT,tT,tT,tT,tT,fF,fF,fF,fF,tT,fF,fF,fF]) (by kernel_rfl) rfl rfl (st_call Try.call25 hA [(.agg #[(.int .u32 x13448), (.bool x13449), (.slice A13452 xs13454.length c13453), (.slice A13457 xs13459.length c13458), (.slice A13462 xs13464.length c13463)]), (.int .i64 (IntKind.i64.wrap (r14861.1 - 1))), (.agg (pHash.enc (((Vector.replicate 32 0 : Vector Int 32).setIfInBounds 0 (IntKind.u8.wrap r13528.1)))).toArray), (.int .u32 (IntKind.u32.wrap (t13480 + (IntKind.u32.wrap r13525.1)))), (.int .u32 10)] rfl (by decide) (relay_Hear.calls _ (Relay.mk x13448 x13449 xs13454 xs13459 xs13464) _ _ _ _ _ _ _ _ _ _ ((hM.roV (p := (Pl.int .i64)) (Ms := []) (.s (.s (.s (.s .z)))))) ((hM.roV (p := pStem) (Ms := []) (.s (.s (.s (.s (.s .z))))))) ((hM.roV (p := pHash) (Ms := []) (.s (.s (.s (.s (.s (.s .z)))))))) (hM.front (Ms := [])) H14865) ?_)
                      clear hA; rintro _ w15227 ⟨v15228, v15229, v15230, rfl, hMc⟩ a hA
                      have hE := hMc.below; have hM := hM.call (Ms := []) hMc
                      clear hMc; simp only [List.cons_append, List.nil_append] at hM
                      obtain ⟨A15231, c15232, rfl⟩ := RowOk.form (hM.row (p := (Pl.int .i64)) .z)
                      obtain ⟨A15233, c15234, rfl⟩ := RowOk.form (hM.row (p := pStem) (.s .z))
                      obtain ⟨A15235, c15236, rfl⟩ := RowOk.form (hM.row (p := pHash) (.s (.s .z)))
                      refine ⟨fun h => absurd h (by decide), ?_⟩
                      refine d_takef (i := 7) (L' := #[tT,tT,tT,tT,tT,tT,tT,tT,fF,fF,fF,tT,fF,fF,fF]) rfl (by kernel_rfl) rfl (fun _ _ _ h => h) hA (by decide) (fun h => absurd h (by decide)) (fun a w' hA => run_move (hA.ev rfl)) ?_; clear hA; intro a hA
                      refine d_takef (i := 8) (L' := #[tT,tT,tT,tT,tT,tT,tT,tT,tT,fF,fF,tT,fF,fF,fF]) rfl (by kernel_rfl) rfl (fun _ _ _ h => h) hA (by decide) (fun h => absurd h (by decide)) (fun a w' hA => run_ext (hA.ev rfl) rfl) ?_; clear hA; intro a hA
                      refine d_takef (i := 9) (L' := #[tT,tT,tT,tT,tT,tT,tT,tT,tT,tT,fF,tT,fF,fF,fF]) rfl (by kernel_rfl) rfl (fun _ _ _ h => h) hA (by decide) (fun h => absurd h (by decide)) (fun a w' hA => run_ext (hA.ev rfl) rfl) ?_; clear hA; intro a hA
                      refine d_takef (i := 10) (L' := #[tT,tT,tT,tT,tT,tT,tT,tT,tT,tT,tT,tT,fF,fF,fF]) rfl (by kernel_rfl) rfl (fun _ _ _ h => h) hA (by decide) (fun h => absurd h (by decide)) (fun a w' hA => run_ext (hA.ev rfl) rfl) ?_; clear hA; intro a hA
                      refine d_one (i := 12) (L' := #[tT,tT,tT,tT,tT,tT,tT,tT,tT,tT,tT,tT,tT,fF,fF]) (by kernel_rfl) rfl rfl (e_store (g := g15200) (off := 0) (cur := [(.int .u32 0), (.bool false), (.slice none 0 0), (.slice none 0 0), (.slice none 0 0)]) (cs' := [(.int .u32 r14864.1.Epoch), (.bool r14864.1.Diffuse), (.slice A15231 r14864.1.Routes.length c15232), (.slice A15233 r14864.1.Stems.length c15234), (.slice A15235 r14864.1.Fluffed.length c15236)]) hM (.s (.s (.s (.s .z)))) Try.sizeOf39 hA rfl (by simp [add_mk]) rfl (by first | rfl | simp [Value.cells, Pl.len]) (by simp [Value.cells, Value.oneCell']) (by first | exact Nat.le_of_ble_eq_true rfl | (simp [Pl.len]; done)) (spl_all (by first | rfl | simp [Value.cells, Pl.len])) ?_)
                      clear hM hA; intro w15237  hM hE  a hA
                      refine ⟨fun h => absurd h (by decide), ?_⟩
                      refine d_takef (i := 13) (L' := #[tT,tT,tT,tT,tT,tT,tT,tT,tT,tT,tT,tT,tT,tT,fF]) rfl (by kernel_rfl) rfl (fun _ _ _ h => h) hA (by decide) (fun h => absurd h (by decide)) (fun a w' hA => run_assign (hA.ev rfl)) ?_; clear hA; intro a hA
                      refine d_takef (i := 14) (L' := #[tT,tT,tT,tT,tT,tT,tT,tT,tT,tT,tT,tT,tT,tT,tT]) rfl (by kernel_rfl) rfl (fun _ _ _ h => h) hA (by decide) (fun h => absurd h (by decide)) (fun a w' hA => run_assign (hA.ev rfl)) ?_; clear hA; intro a hA
                      refine d_done (by kernel_rfl) ?_
                      exact ⟨r14861.2.At_, r14864.1.Epoch, r14864.1.Diffuse, r14864.1.Routes, r14864.1.Stems, r14864.1.Fluffed, r14864.2.1, r14864.2.2, g15200, (.slice A15231 r14864.1.Routes.length c15232), (.slice A15233 r14864.1.Stems.length c15234), (.slice A15235 r14864.1.Fluffed.length c15236), Option.some.inj H14858, (hM.sel [6, 7, 8, 9, 3, 10, 11, 5, 4, 0, 1, 2] rfl (by decide)), (((((((((hA.nil.cons (hA.get 21 _ rfl)).cons (hA.get 20 _ rfl)).cons (hA.get 19 _ rfl)).cons (hA.get 10 _ rfl)).cons (hA.get 9 _ rfl)).cons (hA.get 8 _ rfl)).cons (hA.get 7 _ rfl)).cons (hA.get 6 _ rfl)).cons (hA.get 5 _ rfl))⟩
                    · refine d_op (i := 4) (L' := #[fF,tT,tT,tT,tT,tT,fF,fF,fF,fF,fF,tT,fF,fF,fF]) rfl rfl (stv hA (by decide) (run_ld (hA.ev rfl) (run_loadP Try.isAgg34 Try.sizeOf34 (hM.box (.s (.s .z))))) ?_)
                      clear hA; intro a hA
                      refine ⟨fun h => absurd h (by decide), ?_⟩
                      refine d_one (i := 0) (L' := #[tT,tT,tT,tT,tT,tT,fF,fF,fF,fF,fF,tT,fF,fF,fF]) (by kernel_rfl) rfl rfl (stv hA (by decide) (run_ld (hA.ev rfl) (run_loadW Try.isAgg39 Try.sizeOf39 (by simp [Pl.len]; try rfl) (hM.box (.s (.s (.s .z)))))) ?_)
                      clear hA; intro a hA
                      refine ⟨fun h => absurd h (by decide), ?_⟩
                      refine d_one (i := 6) (L' := #[tT,tT,tT,tT,tT,tT,tT,fF,fF,fF,fF,tT,fF,fF,fF]) (by kernel_rfl) rfl rfl (st_call Try.call25 hA [(.agg #[(.int .u32 x13448), (.bool x13449), (.slice A13452 xs13454.length c13453), (.slice A13457 xs13459.length c13458), (.slice A13462 xs13464.length c13463)]), (.int .i64 (IntKind.i64.wrap (r14861.1 - 1))), (.agg (pHash.enc (((Vector.replicate 32 0 : Vector Int 32).setIfInBounds 0 (IntKind.u8.wrap r13528.1)))).toArray), (.int .u32 (IntKind.u32.wrap (t13480 + (IntKind.u32.wrap r13525.1)))), (.int .u32 10)] rfl (by decide) (relay_Hear.calls _ (Relay.mk x13448 x13449 xs13454 xs13459 xs13464) _ _ _ _ _ _ _ _ _ _ ((hM.roV (p := (Pl.int .i64)) (Ms := []) (.s (.s (.s (.s .z)))))) ((hM.roV (p := pStem) (Ms := []) (.s (.s (.s (.s (.s .z))))))) ((hM.roV (p := pHash) (Ms := []) (.s (.s (.s (.s (.s (.s .z)))))))) (hM.front (Ms := [])) H14865) ?_)
                      clear hA; rintro _ w15238 ⟨v15239, v15240, v15241, rfl, hMc⟩ a hA
                      have hE := hMc.below; have hM := hM.call (Ms := []) hMc
                      clear hMc; simp only [List.cons_append, List.nil_append] at hM
                      obtain ⟨A15242, c15243, rfl⟩ := RowOk.form (hM.row (p := (Pl.int .i64)) .z)
                      obtain ⟨A15244, c15245, rfl⟩ := RowOk.form (hM.row (p := pStem) (.s .z))
                      obtain ⟨A15246, c15247, rfl⟩ := RowOk.form (hM.row (p := pHash) (.s (.s .z)))
                      refine ⟨fun h => absurd h (by decide), ?_⟩
                      refine d_takef (i := 7) (L' := #[tT,tT,tT,tT,tT,tT,tT,tT,fF,fF,fF,tT,fF,fF,fF]) rfl (by kernel_rfl) rfl (fun _ _ _ h => h) hA (by decide) (fun h => absurd h (by decide)) (fun a w' hA => run_move (hA.ev rfl)) ?_; clear hA; intro a hA
                      refine d_takef (i := 8) (L' := #[tT,tT,tT,tT,tT,tT,tT,tT,tT,fF,fF,tT,fF,fF,fF]) rfl (by kernel_rfl) rfl (fun _ _ _ h => h) hA (by decide) (fun h => absurd h (by decide)) (fun a w' hA => run_ext (hA.ev rfl) rfl) ?_; clear hA; intro a hA
                      refine d_takef (i := 9) (L' := #[tT,tT,tT,tT,tT,tT,tT,tT,tT,tT,fF,tT,fF,fF,fF]) rfl (by kernel_rfl) rfl (fun _ _ _ h => h) hA (by decide) (fun h => absurd h (by decide)) (fun a w' hA => run_ext (hA.ev rfl) rfl) ?_; clear hA; intro a hA
                      refine d_takef (i := 10) (L' := #[tT,tT,tT,tT,tT,tT,tT,tT,tT,tT,tT,tT,fF,fF,fF]) rfl (by kernel_rfl) rfl (fun _ _ _ h => h) hA (by decide) (fun h => absurd h (by decide)) (fun a w' hA => run_ext (hA.ev rfl) rfl) ?_; clear hA; intro a hA
                      refine d_one (i := 12) (L' := #[tT,tT,tT,tT,tT,tT,tT,tT,tT,tT,tT,tT,tT,fF,fF]) (by kernel_rfl) rfl rfl (e_store (g := g15200) (off := 0) (cur := [(.int .u32 0), (.bool false), (.slice none 0 0), (.slice none 0 0), (.slice none 0 0)]) (cs' := [(.int .u32 r14864.1.Epoch), (.bool r14864.1.Diffuse), (.slice A15242 r14864.1.Routes.length c15243), (.slice A15244 r14864.1.Stems.length c15245), (.slice A15246 r14864.1.Fluffed.length c15247)]) hM (.s (.s (.s (.s .z)))) Try.sizeOf39 hA rfl (by simp [add_mk]) rfl (by first | rfl | simp [Value.cells, Pl.len]) (by simp [Value.cells, Value.oneCell']) (by first | exact Nat.le_of_ble_eq_true rfl | (simp [Pl.len]; done)) (spl_all (by first | rfl | simp [Value.cells, Pl.len])) ?_)
                      clear hM hA; intro w15248  hM hE  a hA
                      refine ⟨fun h => absurd h (by decide), ?_⟩
                      refine d_takef (i := 13) (L' := #[tT,tT,tT,tT,tT,tT,tT,tT,tT,tT,tT,tT,tT,tT,fF]) rfl (by kernel_rfl) rfl (fun _ _ _ h => h) hA (by decide) (fun h => absurd h (by decide)) (fun a w' hA => run_assign (hA.ev rfl)) ?_; clear hA; intro a hA
                      refine d_takef (i := 14) (L' := #[tT,tT,tT,tT,tT,tT,tT,tT,tT,tT,tT,tT,tT,tT,tT]) rfl (by kernel_rfl) rfl (fun _ _ _ h => h) hA (by decide) (fun h => absurd h (by decide)) (fun a w' hA => run_assign (hA.ev rfl)) ?_; clear hA; intro a hA
                      refine d_done (by kernel_rfl) ?_
                      exact ⟨r14861.2.At_, r14864.1.Epoch, r14864.1.Diffuse, r14864.1.Routes, r14864.1.Stems, r14864.1.Fluffed, r14864.2.1, r14864.2.2, g15200, (.slice A15242 r14864.1.Routes.length c15243), (.slice A15244 r14864.1.Stems.length c15245), (.slice A15246 r14864.1.Fluffed.length c15247), Option.some.inj H14858, (hM.sel [6, 7, 8, 9, 3, 10, 11, 5, 4, 0, 1, 2] rfl (by decide)), (((((((((hA.nil.cons (hA.get 21 _ rfl)).cons (hA.get 20 _ rfl)).cons (hA.get 19 _ rfl)).cons (hA.get 10 _ rfl)).cons (hA.get 9 _ rfl)).cons (hA.get 8 _ rfl)).cons (hA.get 7 _ rfl)).cons (hA.get 6 _ rfl)).cons (hA.get 5 _ rfl))⟩
                  · refine d_op (i := 4) (L' := #[fF,tT,fF,fF,tT,tT,fF,fF,fF,fF,fF,tT,fF,fF,fF]) rfl rfl (stv hA (by decide) (run_ld (hA.ev rfl) (run_loadP Try.isAgg34 Try.sizeOf34 (hM.box (.s (.s .z))))) ?_)
                    clear hA; intro a hA
                    refine ⟨fun _ => hS, ?_⟩
                    refine d_many (is := [0, 2]) (by kernel_rfl) (by decide) ⟨?_, ?_, trivial⟩
                    · refine d_op (i := 0) (L' := #[tT,tT,fF,fF,tT,tT,fF,fF,fF,fF,fF,tT,fF,fF,fF]) rfl rfl (stv hA (by decide) (run_ld (hA.ev rfl) (run_loadW Try.isAgg39 Try.sizeOf39 (by simp [Pl.len]; try rfl) (hM.box (.s (.s (.s .z)))))) ?_)
                      clear hA; intro a hA
                      refine ⟨fun _ => hS, ?_⟩
                      have hM := hM.sel [1, 0, 2, 3, 4, 5, 6, 7, 8] rfl (by decide)
                      refine d_one (i := 2) (L' := #[tT,tT,tT,fF,tT,tT,fF,fF,fF,fF,fF,tT,fF,fF,fF]) (by kernel_rfl) rfl rfl (st_call Try.call23 hA [(.pointer (some (⟨g7760, 0, none⟩))), (.int .i64 9)] rfl (by decide) (mill_Deck_Next.calls _ (lightclientmill_Deck.mk o_1 r13535.2.At_) _ _ _ _ _ _ ((RoV.mk (hM.roC (Ms := [_]) hr1) (Eq.refl o_1.length) hc1)) (hM.front (Ms := [_])) H14862) ?_)
                      clear hA; rintro _ w15249 ⟨rfl, hMc⟩ a hA
                      have hM := hM.call (Ms := [_]) hMc
                      clear hMc; simp only [List.cons_append, List.nil_append] at hM
                      refine ⟨fun h => absurd h (by decide), ?_⟩
                      refine d_takef (i := 3) (L' := #[tT,tT,tT,tT,tT,tT,fF,fF,fF,fF,fF,tT,fF,fF,fF]) rfl (by kernel_rfl) rfl (fun _ _ _ h => h) hA (by decide) (fun h => absurd h (by decide)) (fun a w' hA => run_bin (hA.ev rfl) (hA.ev rfl) (bin_sub _ _ _ _)) ?_; clear hA; intro a hA
                      refine d_one (i := 6) (L' := #[tT,tT,tT,tT,tT,tT,tT,fF,fF,fF,fF,tT,fF,fF,fF]) (by kernel_rfl) rfl rfl (st_call Try.call25 hA [(.agg #[(.int .u32 x13448), (.bool x13449), (.slice A13452 xs13454.length c13453), (.slice A13457 xs13459.length c13458), (.slice A13462 xs13464.length c13463)]), (.int .i64 (IntKind.i64.wrap (r14861.1 - 1))), (.agg (pHash.enc (((Vector.replicate 32 0 : Vector Int 32).setIfInBounds 0 (IntKind.u8.wrap r13528.1)))).toArray), (.int .u32 (IntKind.u32.wrap (t13480 + (IntKind.u32.wrap r13525.1)))), (.int .u32 10)] rfl (by decide) (relay_Hear.calls _ (Relay.mk x13448 x13449 xs13454 xs13459 xs13464) _ _ _ _ _ _ _ _ _ _ ((hM.roV (p := (Pl.int .i64)) (Ms := []) (.s (.s (.s (.s .z)))))) ((hM.roV (p := pStem) (Ms := []) (.s (.s (.s (.s (.s .z))))))) ((hM.roV (p := pHash) (Ms := []) (.s (.s (.s (.s (.s (.s .z)))))))) (hM.front (Ms := [])) H14865) ?_)
                      clear hA; rintro _ w15250 ⟨v15251, v15252, v15253, rfl, hMc⟩ a hA
                      have hE := hMc.below; have hM := hM.call (Ms := []) hMc
                      clear hMc; simp only [List.cons_append, List.nil_append] at hM
                      obtain ⟨A15254, c15255, rfl⟩ := RowOk.form (hM.row (p := (Pl.int .i64)) .z)
                      obtain ⟨A15256, c15257, rfl⟩ := RowOk.form (hM.row (p := pStem) (.s .z))
                      obtain ⟨A15258, c15259, rfl⟩ := RowOk.form (hM.row (p := pHash) (.s (.s .z)))
                      refine ⟨fun h => absurd h (by decide), ?_⟩
                      refine d_takef (i := 7) (L' := #[tT,tT,tT,tT,tT,tT,tT,tT,fF,fF,fF,tT,fF,fF,fF]) rfl (by kernel_rfl) rfl (fun _ _ _ h => h) hA (by decide) (fun h => absurd h (by decide)) (fun a w' hA => run_move (hA.ev rfl)) ?_; clear hA; intro a hA
                      refine d_takef (i := 8) (L' := #[tT,tT,tT,tT,tT,tT,tT,tT,tT,fF,fF,tT,fF,fF,fF]) rfl (by kernel_rfl) rfl (fun _ _ _ h => h) hA (by decide) (fun h => absurd h (by decide)) (fun a w' hA => run_ext (hA.ev rfl) rfl) ?_; clear hA; intro a hA
                      refine d_takef (i := 9) (L' := #[tT,tT,tT,tT,tT,tT,tT,tT,tT,tT,fF,tT,fF,fF,fF]) rfl (by kernel_rfl) rfl (fun _ _ _ h => h) hA (by decide) (fun h => absurd h (by decide)) (fun a w' hA => run_ext (hA.ev rfl) rfl) ?_; clear hA; intro a hA
                      refine d_takef (i := 10) (L' := #[tT,tT,tT,tT,tT,tT,tT,tT,tT,tT,tT,tT,fF,fF,fF]) rfl (by kernel_rfl) rfl (fun _ _ _ h => h) hA (by decide) (fun h => absurd h (by decide)) (fun a w' hA => run_ext (hA.ev rfl) rfl) ?_; clear hA; intro a hA
                      refine d_one (i := 12) (L' := #[tT,tT,tT,tT,tT,tT,tT,tT,tT,tT,tT,tT,tT,fF,fF]) (by kernel_rfl) rfl rfl (e_store (g := g15200) (off := 0) (cur := [(.int .u32 0), (.bool false), (.slice none 0 0), (.slice none 0 0), (.slice none 0 0)]) (cs' := [(.int .u32 r14864.1.Epoch), (.bool r14864.1.Diffuse), (.slice A15254 r14864.1.Routes.length c15255), (.slice A15256 r14864.1.Stems.length c15257), (.slice A15258 r14864.1.Fluffed.length c15259)]) hM (.s (.s (.s (.s .z)))) Try.sizeOf39 hA rfl (by simp [add_mk]) rfl (by first | rfl | simp [Value.cells, Pl.len]) (by simp [Value.cells, Value.oneCell']) (by first | exact Nat.le_of_ble_eq_true rfl | (simp [Pl.len]; done)) (spl_all (by first | rfl | simp [Value.cells, Pl.len])) ?_)
                      clear hM hA; intro w15260  hM hE  a hA
                      refine ⟨fun h => absurd h (by decide), ?_⟩
                      refine d_takef (i := 13) (L' := #[tT,tT,tT,tT,tT,tT,tT,tT,tT,tT,tT,tT,tT,tT,fF]) rfl (by kernel_rfl) rfl (fun _ _ _ h => h) hA (by decide) (fun h => absurd h (by decide)) (fun a w' hA => run_assign (hA.ev rfl)) ?_; clear hA; intro a hA
                      refine d_takef (i := 14) (L' := #[tT,tT,tT,tT,tT,tT,tT,tT,tT,tT,tT,tT,tT,tT,tT]) rfl (by kernel_rfl) rfl (fun _ _ _ h => h) hA (by decide) (fun h => absurd h (by decide)) (fun a w' hA => run_assign (hA.ev rfl)) ?_; clear hA; intro a hA
                      refine d_done (by kernel_rfl) ?_
                      exact ⟨r14861.2.At_, r14864.1.Epoch, r14864.1.Diffuse, r14864.1.Routes, r14864.1.Stems, r14864.1.Fluffed, r14864.2.1, r14864.2.2, g15200, (.slice A15254 r14864.1.Routes.length c15255), (.slice A15256 r14864.1.Stems.length c15257), (.slice A15258 r14864.1.Fluffed.length c15259), Option.some.inj H14858, (hM.sel [6, 7, 8, 9, 3, 10, 11, 5, 4, 0, 1, 2] rfl (by decide)), (((((((((hA.nil.cons (hA.get 21 _ rfl)).cons (hA.get 20 _ rfl)).cons (hA.get 19 _ rfl)).cons (hA.get 10 _ rfl)).cons (hA.get 9 _ rfl)).cons (hA.get 8 _ rfl)).cons (hA.get 7 _ rfl)).cons (hA.get 6 _ rfl)).cons (hA.get 5 _ rfl))⟩
                    · have hM := hM.sel [1, 0, 2, 3, 4, 5, 6, 7, 8] rfl (by decide)
                      refine d_op (i := 2) (L' := #[fF,tT,tT,fF,tT,tT,fF,fF,fF,fF,fF,tT,fF,fF,fF]) rfl rfl (st_call Try.call23 hA [(.pointer (some (⟨g7760, 0, none⟩))), (.int .i64 9)] rfl (by decide) (mill_Deck_Next.calls _ (lightclientmill_Deck.mk o_1 r13535.2.At_) _ _ _ _ _ _ ((RoV.mk (hM.roC (Ms := [_]) hr1) (Eq.refl o_1.length) hc1)) (hM.front (Ms := [_])) H14862) ?_)
                      clear hA; rintro _ w15261 ⟨rfl, hMc⟩ a hA
                      have hM := hM.call (Ms := [_]) hMc
                      clear hMc; simp only [List.cons_append, List.nil_append] at hM
                      refine ⟨fun h => absurd h (by decide), ?_⟩
                      refine d_takef (i := 3) (L' := #[fF,tT,tT,tT,tT,tT,fF,fF,fF,fF,fF,tT,fF,fF,fF]) rfl (by kernel_rfl) rfl (fun _ _ _ h => h) hA (by decide) (fun h => absurd h (by decide)) (fun a w' hA => run_bin (hA.ev rfl) (hA.ev rfl) (bin_sub _ _ _ _)) ?_; clear hA; intro a hA
                      refine d_one (i := 0) (L' := #[tT,tT,tT,tT,tT,tT,fF,fF,fF,fF,fF,tT,fF,fF,fF]) (by kernel_rfl) rfl rfl (stv hA (by decide) (run_ld (hA.ev rfl) (run_loadW Try.isAgg39 Try.sizeOf39 (by simp [Pl.len]; try rfl) (hM.box (.s (.s (.s .z)))))) ?_)
                      clear hA; intro a hA
                      refine ⟨fun h => absurd h (by decide), ?_⟩
                      refine d_one (i := 6) (L' := #[tT,tT,tT,tT,tT,tT,tT,fF,fF,fF,fF,tT,fF,fF,fF]) (by kernel_rfl) rfl rfl (st_call Try.call25 hA [(.agg #[(.int .u32 x13448), (.bool x13449), (.slice A13452 xs13454.length c13453), (.slice A13457 xs13459.length c13458), (.slice A13462 xs13464.length c13463)]), (.int .i64 (IntKind.i64.wrap (r14861.1 - 1))), (.agg (pHash.enc (((Vector.replicate 32 0 : Vector Int 32).setIfInBounds 0 (IntKind.u8.wrap r13528.1)))).toArray), (.int .u32 (IntKind.u32.wrap (t13480 + (IntKind.u32.wrap r13525.1)))), (.int .u32 10)] rfl (by decide) (relay_Hear.calls _ (Relay.mk x13448 x13449 xs13454 xs13459 xs13464) _ _ _ _ _ _ _ _ _ _ ((hM.roV (p := (Pl.int .i64)) (Ms := []) (.s (.s (.s (.s .z)))))) ((hM.roV (p := pStem) (Ms := []) (.s (.s (.s (.s (.s .z))))))) ((hM.roV (p := pHash) (Ms := []) (.s (.s (.s (.s (.s (.s .z)))))))) (hM.front (Ms := [])) H14865) ?_)
                      clear hA; rintro _ w15262 ⟨v15263, v15264, v15265, rfl, hMc⟩ a hA
                      have hE := hMc.below; have hM := hM.call (Ms := []) hMc
                      clear hMc; simp only [List.cons_append, List.nil_append] at hM
                      obtain ⟨A15266, c15267, rfl⟩ := RowOk.form (hM.row (p := (Pl.int .i64)) .z)
                      obtain ⟨A15268, c15269, rfl⟩ := RowOk.form (hM.row (p := pStem) (.s .z))
                      obtain ⟨A15270, c15271, rfl⟩ := RowOk.form (hM.row (p := pHash) (.s (.s .z)))
                      refine ⟨fun h => absurd h (by decide), ?_⟩
                      refine d_takef (i := 7) (L' := #[tT,tT,tT,tT,tT,tT,tT,tT,fF,fF,fF,tT,fF,fF,fF]) rfl (by kernel_rfl) rfl (fun _ _ _ h => h) hA (by decide) (fun h => absurd h (by decide)) (fun a w' hA => run_move (hA.ev rfl)) ?_; clear hA; intro a hA
                      refine d_takef (i := 8) (L' := #[tT,tT,tT,tT,tT,tT,tT,tT,tT,fF,fF,tT,fF,fF,fF]) rfl (by kernel_rfl) rfl (fun _ _ _ h => h) hA (by decide) (fun h => absurd h (by decide)) (fun a w' hA => run_ext (hA.ev rfl) rfl) ?_; clear hA; intro a hA
                      refine d_takef (i := 9) (L' := #[tT,tT,tT,tT,tT,tT,tT,tT,tT,tT,fF,tT,fF,fF,fF]) rfl (by kernel_rfl) rfl (fun _ _ _ h => h) hA (by decide) (fun h => absurd h (by decide)) (fun a w' hA => run_ext (hA.ev rfl) rfl) ?_; clear hA; intro a hA
                      refine d_takef (i := 10) (L' := #[tT,tT,tT,tT,tT,tT,tT,tT,tT,tT,tT,tT,fF,fF,fF]) rfl (by kernel_rfl) rfl (fun _ _ _ h => h) hA (by decide) (fun h => absurd h (by decide)) (fun a w' hA => run_ext (hA.ev rfl) rfl) ?_; clear hA; intro a hA
                      refine d_one (i := 12) (L' := #[tT,tT,tT,tT,tT,tT,tT,tT,tT,tT,tT,tT,tT,fF,fF]) (by kernel_rfl) rfl rfl (e_store (g := g15200) (off := 0) (cur := [(.int .u32 0), (.bool false), (.slice none 0 0), (.slice none 0 0), (.slice none 0 0)]) (cs' := [(.int .u32 r14864.1.Epoch), (.bool r14864.1.Diffuse), (.slice A15266 r14864.1.Routes.length c15267), (.slice A15268 r14864.1.Stems.length c15269), (.slice A15270 r14864.1.Fluffed.length c15271)]) hM (.s (.s (.s (.s .z)))) Try.sizeOf39 hA rfl (by simp [add_mk]) rfl (by first | rfl | simp [Value.cells, Pl.len]) (by simp [Value.cells, Value.oneCell']) (by first | exact Nat.le_of_ble_eq_true rfl | (simp [Pl.len]; done)) (spl_all (by first | rfl | simp [Value.cells, Pl.len])) ?_)
                      clear hM hA; intro w15272  hM hE  a hA
                      refine ⟨fun h => absurd h (by decide), ?_⟩
                      refine d_takef (i := 13) (L' := #[tT,tT,tT,tT,tT,tT,tT,tT,tT,tT,tT,tT,tT,tT,fF]) rfl (by kernel_rfl) rfl (fun _ _ _ h => h) hA (by decide) (fun h => absurd h (by decide)) (fun a w' hA => run_assign (hA.ev rfl)) ?_; clear hA; intro a hA
                      refine d_takef (i := 14) (L' := #[tT,tT,tT,tT,tT,tT,tT,tT,tT,tT,tT,tT,tT,tT,tT]) rfl (by kernel_rfl) rfl (fun _ _ _ h => h) hA (by decide) (fun h => absurd h (by decide)) (fun a w' hA => run_assign (hA.ev rfl)) ?_; clear hA; intro a hA
                      refine d_done (by kernel_rfl) ?_
                      exact ⟨r14861.2.At_, r14864.1.Epoch, r14864.1.Diffuse, r14864.1.Routes, r14864.1.Stems, r14864.1.Fluffed, r14864.2.1, r14864.2.2, g15200, (.slice A15266 r14864.1.Routes.length c15267), (.slice A15268 r14864.1.Stems.length c15269), (.slice A15270 r14864.1.Fluffed.length c15271), Option.some.inj H14858, (hM.sel [6, 7, 8, 9, 3, 10, 11, 5, 4, 0, 1, 2] rfl (by decide)), (((((((((hA.nil.cons (hA.get 21 _ rfl)).cons (hA.get 20 _ rfl)).cons (hA.get 19 _ rfl)).cons (hA.get 10 _ rfl)).cons (hA.get 9 _ rfl)).cons (hA.get 8 _ rfl)).cons (hA.get 7 _ rfl)).cons (hA.get 6 _ rfl)).cons (hA.get 5 _ rfl))⟩
              clear hM hA
              rintro a w15273 ⟨x14832, x14839, x14840, xs14845, xs14850, xs14855, x14856, x14857, g14838, v14842, v14847, v14852, rfl, hM, hA⟩
              try dsimp only at H13513
              obtain ⟨A14843, c14844, rfl⟩ := RowOk.form (hM.row (p := (Pl.int .i64)) (.s (.s (.s (.s (.s (.s (.s (.s (.s .z))))))))))
              obtain ⟨A14848, c14849, rfl⟩ := RowOk.form (hM.row (p := pStem) (.s (.s (.s (.s (.s (.s (.s (.s (.s (.s .z)))))))))))
              obtain ⟨A14853, c14854, rfl⟩ := RowOk.form (hM.row (p := pHash) (.s (.s (.s (.s (.s (.s (.s (.s (.s (.s (.s .z))))))))))))
              refine TN ?_
              refine wp_seq ?_
              obtain ⟨o15283, H15282, H13513⟩ := Option.bind_eq_some_iff.1 H13513
              refine cutC (fun a w => ∃ (x15281 : Bool), x15281 = o15283 ∧ Mem F w0 w [.box g7753 39 [(.int .u32 x13448), (.bool x13449), (.slice A13452 xs13454.length c13453), (.slice A13457 xs13459.length c13458), (.slice A13462 xs13464.length c13463)], .row 3 (Pl.int .i64).sz (.slice A13452 xs13454.length c13453) ((Pl.int .i64).flat xs13454), .row 61 pStem.sz (.slice A13457 xs13459.length c13458) (pStem.flat xs13459), .row 34 pHash.sz (.slice A13462 xs13464.length c13463) (pHash.flat xs13464), .box g7760 63 [(.slice A1 o_1.length c1), (.int .i64 x14832)], .row 34 pHash.sz (.slice A13470 xs13472.length c13471) (pHash.flat xs13472), .row 34 pHash.sz (.slice A13476 xs13478.length c13477) (pHash.flat xs13478), .box g13531 34 (pHash.enc (((Vector.replicate 32 0 : Vector Int 32).setIfInBounds 0 (IntKind.u8.wrap r13528.1)))), .box g14838 39 [(.int .u32 x14839), (.bool x14840), (.slice A14843 xs14845.length c14844), (.slice A14848 xs14850.length c14849), (.slice A14853 xs14855.length c14854)], .row 3 (Pl.int .i64).sz (.slice A14843 xs14845.length c14844) ((Pl.int .i64).flat xs14845), .row 61 pStem.sz (.slice A14848 xs14850.length c14849) (pStem.flat xs14850), .row 34 pHash.sz (.slice A14853 xs14855.length c14854) (pHash.flat xs14855)] ∧ Has 148 [(5, (.pointer (some (⟨g7753, 0, none⟩)))), (6, (.pointer (some (⟨g7760, 0, none⟩)))), (7, (.slice A13470 xs13472.length c13471)), (8, (.slice A13476 xs13478.length c13477)), (9, (.int .u32 (IntKind.u32.wrap (t13480 + (IntKind.u32.wrap r13525.1))))), (10, (.pointer (some (⟨g13531, 0, none⟩)))), (19, (.pointer (some (⟨g14838, 0, none⟩)))), (64, (.bool x15281))] a) ?_ ?_
              · refine wp_region_lit ?_
                refine L1 (stv hA (by decide) (run_move (hA.ev rfl)) ?_)
                clear hA; intro a hA
                refine L1 (stv hA (by decide) (run_bin (hA.ev rfl) (hA.ev rfl) (bin_eql _ _ _ _)) ?_)
                clear hA; intro a hA
                refine L1 (stv hA (by decide) (run_move (hA.ev rfl)) ?_)
                clear hA; intro a hA
                refine bsplit (b := (x14857 == 0)) (fun hb15284 => ?_) (fun hb15284 => ?_)
                · replace H15282 := ite_t hb15284 H15282
                  have hA := hA.re (t := 61) rfl (congrArg Value.bool hb15284)
                  refine L1 (gate_on rfl rfl hA (by decide) rfl (stv hA (by decide) (run_move (hA.ev rfl)) ?_))
                  clear hA; intro a hA
                  refine L1 (gate_on rfl rfl hA (by decide) rfl (stv hA (by decide) (run_bin (hA.ev rfl) (hA.ev rfl) (bin_geq _ _ _ _)) ?_))
                  clear hA; intro a hA
                  refine L1 (stv hA (by decide) (run_pick (hA.ev rfl) (fun _ => hA.ev rfl) (fun h => Bool.noConfusion h)) ?_)
                  clear hA; intro a hA
                  refine LQ ?_
                  exact ⟨(decide (x14856 ≥ 0)), Option.some.inj H15282, hM, ((((((((hA.nil.cons (hA.get 64 _ rfl)).cons (hA.get 19 _ rfl)).cons (hA.get 10 _ rfl)).cons (hA.get 9 _ rfl)).cons (hA.get 8 _ rfl)).cons (hA.get 7 _ rfl)).cons (hA.get 6 _ rfl)).cons (hA.get 5 _ rfl))⟩
                · replace H15282 := ite_f hb15284 H15282
                  have hA := hA.re (t := 61) rfl (congrArg Value.bool hb15284)
                  refine L1 (gate_off rfl (by decide) rfl hA (by decide) rfl rfl ?_); clear hA; intro a hA
                  refine L1 (gate_off rfl (by decide) rfl hA (by decide) rfl rfl ?_); clear hA; intro a hA
                  refine L1 (stv hA (by decide) (run_pick (hA.ev rfl) (fun h => Bool.noConfusion h) (fun _ => hA.ev rfl)) ?_)
                  clear hA; intro a hA
                  refine LQ ?_
                  exact ⟨false, Option.some.inj H15282, hM, ((((((((hA.nil.cons (hA.get 64 _ rfl)).cons (hA.get 19 _ rfl)).cons (hA.get 10 _ rfl)).cons (hA.get 9 _ rfl)).cons (hA.get 8 _ rfl)).cons (hA.get 7 _ rfl)).cons (hA.get 6 _ rfl)).cons (hA.get 5 _ rfl))⟩
              clear hM hA
              rintro a w15285 ⟨x15281, rfl, hM, hA⟩
              try dsimp only at H13513
              refine TN ?_
              refine tcond (b := x15281) hA rfl (fun hb15286 => ?_) (fun hb15286 => ?_)
              · replace H13513 := ite_t hb15286 H13513
                obtain ⟨o15341, H15340, H13513⟩ := Option.bind_eq_some_iff.1 H13513
                refine cutC (fun a w => ∃ (xs15337 : (List (Vector Int 32))) (v15334 : Value), xs15337 = o15341 ∧ Mem F w0 w [.box g7753 39 [(.int .u32 x14839), (.bool x14840), (.slice A14843 xs14845.length c14844), (.slice A14848 xs14850.length c14849), (.slice A14853 xs14855.length c14854)], .row 3 (Pl.int .i64).sz (.slice A14843 xs14845.length c14844) ((Pl.int .i64).flat xs14845), .row 61 pStem.sz (.slice A14848 xs14850.length c14849) (pStem.flat xs14850), .row 34 pHash.sz (.slice A14853 xs14855.length c14854) (pHash.flat xs14855), .box g7760 63 [(.slice A1 o_1.length c1), (.int .i64 x14832)], .row 34 pHash.sz v15334 (pHash.flat xs15337), .row 34 pHash.sz (.slice A13476 xs13478.length c13477) (pHash.flat xs13478)] ∧ Has 148 [(5, (.pointer (some (⟨g7753, 0, none⟩)))), (6, (.pointer (some (⟨g7760, 0, none⟩)))), (7, v15334), (8, (.slice A13476 xs13478.length c13477)), (9, (.int .u32 (IntKind.u32.wrap (t13480 + (IntKind.u32.wrap r13525.1)))))] a) ?_ ?_
                · obtain ⟨hl15349, H15340⟩ := ite_some H15340
                  refine draw (fun w' => Below w15285.heap.size w15285 w') [4, 5] rfl ?_
                  intro w15353 hw hS; replace hM := hM.ext hS; clear hw
                  refine d_takef (i := 1) (L' := #[fF,tT,fF,fF,fF,fF,fF]) rfl (by kernel_rfl) rfl (fun _ _ _ h => h) hA (by decide) (fun _ => hS) (fun a w' hA => run_move (hA.ev rfl)) ?_; clear hA; intro a hA
                  refine d_many (is := [0, 2]) (by kernel_rfl) (by decide) ⟨?_, ?_, trivial⟩
                  · refine d_op (i := 0) (L' := #[tT,tT,fF,fF,fF,fF,fF]) rfl rfl (stv hA (by decide) (run_ld (hA.ev rfl) (run_loadW Try.isAgg39 Try.sizeOf39 (by simp [Pl.len]; try rfl) (hM.box (.s (.s (.s (.s (.s (.s (.s (.s .z))))))))))) ?_)
                    clear hA; intro a hA
                    refine ⟨fun _ => hS, ?_⟩
                    refine d_one (i := 2) (L' := #[tT,tT,tT,fF,fF,fF,fF]) (by kernel_rfl) rfl rfl (stv hA (by decide) (run_ld (hA.ev rfl) (run_loadP Try.isAgg34 Try.sizeOf34 (hM.box (.s (.s (.s (.s (.s (.s (.s .z)))))))))) ?_)
                    clear hA; intro a hA
                    refine ⟨fun _ => hS, ?_⟩
                    refine d_one (i := 3) (L' := #[tT,tT,tT,tT,fF,fF,fF]) (by kernel_rfl) rfl rfl (e_litNL [(((Vector.replicate 32 0 : Vector Int 32).setIfInBounds 0 (IntKind.u8.wrap r13528.1)))] [(.agg (pHash.enc (((Vector.replicate 32 0 : Vector Int 32).setIfInBounds 0 (IntKind.u8.wrap r13528.1)))).toArray)] elt37 hM rfl (by decide) hA rfl rfl (List.cons_ne_nil _ _) (by decide) ?_)
                    clear hM hA; intro w15355 g15354 hM hE hlo15356 a hA
                    have hlw15357 : ∀ k, Value.ownBlock (.slice (some ⟨g15354, 0, none⟩) 1 1) = some k → w15285.heap.size ≤ k := fun k hk => by cases hk; exact Nat.le_trans hS.size hlo15356
                    replace hS := hS.trans (hE.mono hS.size)
                    refine ⟨fun _ => hS, ?_⟩
                    refine d_one (i := 4) (L' := #[tT,tT,tT,tT,tT,fF,fF]) (by kernel_rfl) rfl rfl (e_appendL elt37 hM (fun _ => (.s (.s (.s (.s (.s (.s .z))))))) (Src.row Try.underlying37 (RowOk.row (hM.row (p := pHash) .z)) (RowOk.len (hM.row (p := pHash) .z))) hl15349 hA rfl rfl (by decide) ?_)
                    clear hM hA; intro w15360 A15358 c15359 hM hE hlo15361 a hA
                    refine ⟨fun h => absurd h (by decide), ?_⟩
                    refine d_one (i := 5) (L' := #[tT,tT,tT,tT,tT,tT,fF]) (by kernel_rfl) rfl rfl (e_store (g := g7753) (off := 0) (cur := [(.int .u32 x13448), (.bool x13449), (.slice A13452 xs13454.length c13453), (.slice A13457 xs13459.length c13458), (.slice A13462 xs13464.length c13463)]) (cs' := [(.int .u32 x14839), (.bool x14840), (.slice A14843 xs14845.length c14844), (.slice A14848 xs14850.length c14849), (.slice A14853 xs14855.length c14854)]) hM (.s .z) Try.sizeOf39 hA rfl (by simp [add_mk]) rfl (by first | rfl | simp [Value.cells, Pl.len]) (by simp [Value.cells, Value.oneCell']) (by first | exact Nat.le_of_ble_eq_true rfl | (simp [Pl.len]; done)) (spl_all (by first | rfl | simp [Value.cells, Pl.len])) ?_)
                    clear hM hA; intro w15362  hM hE  a hA
                    refine ⟨fun h => absurd h (by decide), ?_⟩
                    refine d_takef (i := 6) (L' := #[tT,tT,tT,tT,tT,tT,tT]) rfl (by kernel_rfl) rfl (fun _ _ _ h => h) hA (by decide) (fun h => absurd h (by decide)) (fun a w' hA => run_assign (hA.ev rfl)) ?_; clear hA; intro a hA
                    refine d_done (by kernel_rfl) ?_
                    exact ⟨(xs13472 ++ [(((Vector.replicate 32 0 : Vector Int 32).setIfInBounds 0 (IntKind.u8.wrap r13528.1)))]), (.slice A15358 (xs13472.length + 1) c15359), Option.some.inj H15340, (hM.sel [1, 10, 11, 12, 5, 6, 7] rfl (by decide)), (((((hA.nil.cons (hA.get 9 _ rfl)).cons (hA.get 8 _ rfl)).cons (hA.get 7 _ rfl)).cons (hA.get 6 _ rfl)).cons (hA.get 5 _ rfl))⟩
                  · refine d_op (i := 2) (L' := #[fF,tT,tT,fF,fF,fF,fF]) rfl rfl (stv hA (by decide) (run_ld (hA.ev rfl) (run_loadP Try.isAgg34 Try.sizeOf34 (hM.box (.s (.s (.s (.s (.s (.s (.s .z)))))))))) ?_)
                    clear hA; intro a hA
                    refine ⟨fun _ => hS, ?_⟩
                    refine d_many (is := [0, 3]) (by kernel_rfl) (by decide) ⟨?_, ?_, trivial⟩
                    · refine d_op (i := 0) (L' := #[tT,tT,tT,fF,fF,fF,fF]) rfl rfl (stv hA (by decide) (run_ld (hA.ev rfl) (run_loadW Try.isAgg39 Try.sizeOf39 (by simp [Pl.len]; try rfl) (hM.box (.s (.s (.s (.s (.s (.s (.s (.s .z))))))))))) ?_)
                      clear hA; intro a hA
                      refine ⟨fun _ => hS, ?_⟩
                      refine d_one (i := 3) (L' := #[tT,tT,tT,tT,fF,fF,fF]) (by kernel_rfl) rfl rfl (e_litNL [(((Vector.replicate 32 0 : Vector Int 32).setIfInBounds 0 (IntKind.u8.wrap r13528.1)))] [(.agg (pHash.enc (((Vector.replicate 32 0 : Vector Int 32).setIfInBounds 0 (IntKind.u8.wrap r13528.1)))).toArray)] elt37 hM rfl (by decide) hA rfl rfl (List.cons_ne_nil _ _) (by decide) ?_)
                      clear hM hA; intro w15364 g15363 hM hE hlo15365 a hA
                      have hlw15366 : ∀ k, Value.ownBlock (.slice (some ⟨g15363, 0, none⟩) 1 1) = some k → w15285.heap.size ≤ k := fun k hk => by cases hk; exact Nat.le_trans hS.size hlo15365
                      replace hS := hS.trans (hE.mono hS.size)
                      refine ⟨fun _ => hS, ?_⟩
                      refine d_one (i := 4) (L' := #[tT,tT,tT,tT,tT,fF,fF]) (by kernel_rfl) rfl rfl (e_appendL elt37 hM (fun _ => (.s (.s (.s (.s (.s (.s .z))))))) (Src.row Try.underlying37 (RowOk.row (hM.row (p := pHash) .z)) (RowOk.len (hM.row (p := pHash) .z))) hl15349 hA rfl rfl (by decide) ?_)
                      clear hM hA; intro w15369 A15367 c15368 hM hE hlo15370 a hA
                      refine ⟨fun h => absurd h (by decide), ?_⟩
                      refine d_one (i := 5) (L' := #[tT,tT,tT,tT,tT,tT,fF]) (by kernel_rfl) rfl rfl (e_store (g := g7753) (off := 0) (cur := [(.int .u32 x13448), (.bool x13449), (.slice A13452 xs13454.length c13453), (.slice A13457 xs13459.length c13458), (.slice A13462 xs13464.length c13463)]) (cs' := [(.int .u32 x14839), (.bool x14840), (.slice A14843 xs14845.length c14844), (.slice A14848 xs14850.length c14849), (.slice A14853 xs14855.length c14854)]) hM (.s .z) Try.sizeOf39 hA rfl (by simp [add_mk]) rfl (by first | rfl | simp [Value.cells, Pl.len]) (by simp [Value.cells, Value.oneCell']) (by first | exact Nat.le_of_ble_eq_true rfl | (simp [Pl.len]; done)) (spl_all (by first | rfl | simp [Value.cells, Pl.len])) ?_)
                      clear hM hA; intro w15371  hM hE  a hA
                      refine ⟨fun h => absurd h (by decide), ?_⟩
                      refine d_takef (i := 6) (L' := #[tT,tT,tT,tT,tT,tT,tT]) rfl (by kernel_rfl) rfl (fun _ _ _ h => h) hA (by decide) (fun h => absurd h (by decide)) (fun a w' hA => run_assign (hA.ev rfl)) ?_; clear hA; intro a hA
                      refine d_done (by kernel_rfl) ?_
                      exact ⟨(xs13472 ++ [(((Vector.replicate 32 0 : Vector Int 32).setIfInBounds 0 (IntKind.u8.wrap r13528.1)))]), (.slice A15367 (xs13472.length + 1) c15368), Option.some.inj H15340, (hM.sel [1, 10, 11, 12, 5, 6, 7] rfl (by decide)), (((((hA.nil.cons (hA.get 9 _ rfl)).cons (hA.get 8 _ rfl)).cons (hA.get 7 _ rfl)).cons (hA.get 6 _ rfl)).cons (hA.get 5 _ rfl))⟩
                    · refine d_op (i := 3) (L' := #[fF,tT,tT,tT,fF,fF,fF]) rfl rfl (e_litNL [(((Vector.replicate 32 0 : Vector Int 32).setIfInBounds 0 (IntKind.u8.wrap r13528.1)))] [(.agg (pHash.enc (((Vector.replicate 32 0 : Vector Int 32).setIfInBounds 0 (IntKind.u8.wrap r13528.1)))).toArray)] elt37 hM rfl (by decide) hA rfl rfl (List.cons_ne_nil _ _) (by decide) ?_)
                      clear hM hA; intro w15373 g15372 hM hE hlo15374 a hA
                      have hlw15375 : ∀ k, Value.ownBlock (.slice (some ⟨g15372, 0, none⟩) 1 1) = some k → w15285.heap.size ≤ k := fun k hk => by cases hk; exact Nat.le_trans hS.size hlo15374
                      replace hS := hS.trans (hE.mono hS.size)
                      refine ⟨fun _ => hS, ?_⟩
                      refine d_many (is := [0, 4]) (by kernel_rfl) (by decide) ⟨?_, ?_, trivial⟩
                      · refine d_op (i := 0) (L' := #[tT,tT,tT,tT,fF,fF,fF]) rfl rfl (stv hA (by decide) (run_ld (hA.ev rfl) (run_loadW Try.isAgg39 Try.sizeOf39 (by simp [Pl.len]; try rfl) (hM.box (.s (.s (.s (.s (.s (.s (.s (.s (.s .z)))))))))))) ?_)
                        clear hA; intro a hA
                        refine ⟨fun _ => hS, ?_⟩
                        refine d_one (i := 4) (L' := #[tT,tT,tT,tT,tT,fF,fF]) (by kernel_rfl) rfl rfl (e_appendL elt37 hM (fun _ => (.s (.s (.s (.s (.s (.s .z))))))) (Src.row Try.underlying37 (RowOk.row (hM.row (p := pHash) .z)) (RowOk.len (hM.row (p := pHash) .z))) hl15349 hA rfl rfl (by decide) ?_)
                        clear hM hA; intro w15378 A15376 c15377 hM hE hlo15379 a hA
                        refine ⟨fun h => absurd h (by decide), ?_⟩
                        refine d_one (i := 5) (L' := #[tT,tT,tT,tT,tT,tT,fF]) (by kernel_rfl) rfl rfl (e_store (g := g7753) (off := 0) (cur := [(.int .u32 x13448), (.bool x13449), (.slice A13452 xs13454.length c13453), (.slice A13457 xs13459.length c13458), (.slice A13462 xs13464.length c13463)]) (cs' := [(.int .u32 x14839), (.bool x14840), (.slice A14843 xs14845.length c14844), (.slice A14848 xs14850.length c14849), (.slice A14853 xs14855.length c14854)]) hM (.s .z) Try.sizeOf39 hA rfl (by simp [add_mk]) rfl (by first | rfl | simp [Value.cells, Pl.len]) (by simp [Value.cells, Value.oneCell']) (by first | exact Nat.le_of_ble_eq_true rfl | (simp [Pl.len]; done)) (spl_all (by first | rfl | simp [Value.cells, Pl.len])) ?_)
                        clear hM hA; intro w15380  hM hE  a hA
                        refine ⟨fun h => absurd h (by decide), ?_⟩
                        refine d_takef (i := 6) (L' := #[tT,tT,tT,tT,tT,tT,tT]) rfl (by kernel_rfl) rfl (fun _ _ _ h => h) hA (by decide) (fun h => absurd h (by decide)) (fun a w' hA => run_assign (hA.ev rfl)) ?_; clear hA; intro a hA
                        refine d_done (by kernel_rfl) ?_
                        exact ⟨(xs13472 ++ [(((Vector.replicate 32 0 : Vector Int 32).setIfInBounds 0 (IntKind.u8.wrap r13528.1)))]), (.slice A15376 (xs13472.length + 1) c15377), Option.some.inj H15340, (hM.sel [1, 10, 11, 12, 5, 6, 7] rfl (by decide)), (((((hA.nil.cons (hA.get 9 _ rfl)).cons (hA.get 8 _ rfl)).cons (hA.get 7 _ rfl)).cons (hA.get 6 _ rfl)).cons (hA.get 5 _ rfl))⟩
                      · refine d_op (i := 4) (L' := #[fF,tT,tT,tT,tT,fF,fF]) rfl rfl (e_appendL elt37 hM (fun _ => (.s (.s (.s (.s (.s (.s .z))))))) (Src.row Try.underlying37 (RowOk.row (hM.row (p := pHash) .z)) (RowOk.len (hM.row (p := pHash) .z))) hl15349 hA rfl rfl (by decide) ?_)
                        clear hM hA; intro w15383 A15381 c15382 hM hE hlo15384 a hA
                        refine ⟨fun h => absurd h (by decide), ?_⟩
                        refine d_one (i := 0) (L' := #[tT,tT,tT,tT,tT,fF,fF]) (by kernel_rfl) rfl rfl (stv hA (by decide) (run_ld (hA.ev rfl) (run_loadW Try.isAgg39 Try.sizeOf39 (by simp [Pl.len]; try rfl) (hM.box (.s (.s (.s (.s (.s (.s (.s (.s (.s .z)))))))))))) ?_)
                        clear hA; intro a hA
                        refine ⟨fun h => absurd h (by decide), ?_⟩
                        refine d_one (i := 5) (L' := #[tT,tT,tT,tT,tT,tT,fF]) (by kernel_rfl) rfl rfl (e_store (g := g7753) (off := 0) (cur := [(.int .u32 x13448), (.bool x13449), (.slice A13452 xs13454.length c13453), (.slice A13457 xs13459.length c13458), (.slice A13462 xs13464.length c13463)]) (cs' := [(.int .u32 x14839), (.bool x14840), (.slice A14843 xs14845.length c14844), (.slice A14848 xs14850.length c14849), (.slice A14853 xs14855.length c14854)]) hM (.s .z) Try.sizeOf39 hA rfl (by simp [add_mk]) rfl (by first | rfl | simp [Value.cells, Pl.len]) (by simp [Value.cells, Value.oneCell']) (by first | exact Nat.le_of_ble_eq_true rfl | (simp [Pl.len]; done)) (spl_all (by first | rfl | simp [Value.cells, Pl.len])) ?_)
                        clear hM hA; intro w15385  hM hE  a hA
                        refine ⟨fun h => absurd h (by decide), ?_⟩
                        refine d_takef (i := 6) (L' := #[tT,tT,tT,tT,tT,tT,tT]) rfl (by kernel_rfl) rfl (fun _ _ _ h => h) hA (by decide) (fun h => absurd h (by decide)) (fun a w' hA => run_assign (hA.ev rfl)) ?_; clear hA; intro a hA
                        refine d_done (by kernel_rfl) ?_
                        exact ⟨(xs13472 ++ [(((Vector.replicate 32 0 : Vector Int 32).setIfInBounds 0 (IntKind.u8.wrap r13528.1)))]), (.slice A15381 (xs13472.length + 1) c15382), Option.some.inj H15340, (hM.sel [1, 10, 11, 12, 5, 6, 7] rfl (by decide)), (((((hA.nil.cons (hA.get 9 _ rfl)).cons (hA.get 8 _ rfl)).cons (hA.get 7 _ rfl)).cons (hA.get 6 _ rfl)).cons (hA.get 5 _ rfl))⟩
                clear hM hA
                rintro a w15386 ⟨xs15337, v15334, rfl, hM, hA⟩
                try dsimp only at H13513
                obtain ⟨A15335, c15336, rfl⟩ := RowOk.form (hM.row (p := pHash) (.s (.s (.s (.s (.s .z))))))
                refine BN ?_
                refine BN ?_
                exact ⟨_, Nat.lt_succ_self m13519, x14839, x14840, xs14845, xs14850, xs14855, x14832, xs15337, xs13478, IntKind.u32.wrap (t13480 + (IntKind.u32.wrap r13525.1)), (.slice A14843 xs14845.length c14844), (.slice A14848 xs14850.length c14849), (.slice A14853 xs14855.length c14854), (.slice A15335 xs15337.length c15336), (.slice A13476 xs13478.length c13477), H13513, hM, (((((hA.nil.cons (hA.get 9 _ rfl)).cons (hA.get 8 _ rfl)).cons (hA.get 7 _ rfl)).cons (hA.get 6 _ rfl)).cons (hA.get 5 _ rfl))⟩
              · replace H13513 := ite_f hb15286 H13513
                refine wp_skip ?_
                refine BN ?_
                refine BN ?_
                exact ⟨_, Nat.lt_succ_self m13519, x13448, x13449, xs13454, xs13459, xs13464, x14832, xs13472, xs13478, IntKind.u32.wrap (t13480 + (IntKind.u32.wrap r13525.1)), (.slice A13452 xs13454.length c13453), (.slice A13457 xs13459.length c13458), (.slice A13462 xs13464.length c13463), (.slice A13470 xs13472.length c13471), (.slice A13476 xs13478.length c13477), H13513, (hM.sel [0, 1, 2, 3, 4, 5, 6] rfl (by decide)), (((((hA.nil.cons (hA.get 9 _ rfl)).cons (hA.get 8 _ rfl)).cons (hA.get 7 _ rfl)).cons (hA.get 6 _ rfl)).cons (hA.get 5 _ rfl))⟩
        · replace H13513 := ite_f hb13524 H13513
          refine wp_exit ?_
          refine TX ?_
          refine TX ?_
          refine BX ?_
          exact ⟨x13448, x13449, xs13454, xs13459, xs13464, xs13472, xs13478, t13480, (.slice A13452 xs13454.length c13453), (.slice A13457 xs13459.length c13458), (.slice A13462 xs13464.length c13463), (.slice A13470 xs13472.length c13471), (.slice A13476 xs13478.length c13477), Option.some.inj H13513, (hM.sel [1, 2, 3, 4, 5, 6] rfl (by decide)), ((((hA.nil.cons (hA.get 9 _ rfl)).cons (hA.get 8 _ rfl)).cons (hA.get 7 _ rfl)).cons (hA.get 5 _ rfl))⟩
      clear hM hA
      rintro a w15387 ⟨x13482, x13483, xs13488, xs13493, xs13498, xs13504, xs13510, t13512, v13485, v13490, v13495, v13501, v13507, rfl, hM, hA⟩
      try dsimp only at H
      obtain ⟨A13486, c13487, rfl⟩ := RowOk.form (hM.row (p := (Pl.int .i64)) (.s .z))
      obtain ⟨A13491, c13492, rfl⟩ := RowOk.form (hM.row (p := pStem) (.s (.s .z)))
      obtain ⟨A13496, c13497, rfl⟩ := RowOk.form (hM.row (p := pHash) (.s (.s (.s .z))))
      obtain ⟨A13502, c13503, rfl⟩ := RowOk.form (hM.row (p := pHash) (.s (.s (.s (.s .z)))))
      obtain ⟨A13508, c13509, rfl⟩ := RowOk.form (hM.row (p := pHash) (.s (.s (.s (.s (.s .z))))))
      refine TN ?_
      refine wp_seq ?_
      refine wp_region_lit ?_
      refine L1 (stv hA (by decide) (run_ld (hA.ev rfl) (run_loadW Try.isAgg39 Try.sizeOf39 (by simp [Pl.len]; try rfl) (hM.box .z))) ?_)
      clear hA; intro a hA
      refine L1 (stv hA (by decide) (run_move (hA.ev rfl)) ?_)
      clear hA; intro a hA
      refine L1 (stv hA (by decide) (run_bin (hA.ev rfl) (hA.ev rfl) (bin_add _ _ _ _)) ?_)
      clear hA; intro a hA
      obtain ⟨r15388, H15389, H⟩ := Option.bind_eq_some_iff.1 H
      refine L1 (st_call Try.call18 hA [(.agg #[(.int .u32 x13482), (.bool x13483), (.slice A13486 xs13488.length c13487), (.slice A13491 xs13493.length c13492), (.slice A13496 xs13498.length c13497)]), (.int .u32 (IntKind.u32.wrap (t13512 + 10)))] rfl (by decide) (relay_Due.calls _ (Relay.mk x13482 x13483 xs13488 xs13493 xs13498) _ _ _ _ _ _ _ ((hM.roV (p := (Pl.int .i64)) (Ms := []) (.s .z))) ((hM.roV (p := pStem) (Ms := []) (.s (.s .z)))) ((hM.roV (p := pHash) (Ms := []) (.s (.s (.s .z))))) (hM.front (Ms := [])) H15389) ?_)
      clear hA; rintro _ w15390 ⟨v15391, v15392, v15393, v15394, rfl, hMc⟩ a hA
      have hE := hMc.below; have hM := hM.call (Ms := []) hMc
      clear hMc; simp only [List.cons_append, List.nil_append] at hM
      obtain ⟨A15396, c15397, rfl⟩ := RowOk.form (hM.row (p := (Pl.int .i64)) .z)
      obtain ⟨A15399, c15400, rfl⟩ := RowOk.form (hM.row (p := pStem) (.s .z))
      obtain ⟨A15402, c15403, rfl⟩ := RowOk.form (hM.row (p := pHash) (.s (.s .z)))
      obtain ⟨A15405, c15406, rfl⟩ := RowOk.form (hM.row (p := pHash) (.s (.s (.s .z))))
      refine L1 (stv hA (by decide) (run_move (hA.ev rfl)) ?_)
      clear hA; intro a hA
      refine L1 (stv hA (by decide) (run_ext (hA.ev rfl) rfl) ?_)
      clear hA; intro a hA
      refine L1 (stv hA (by decide) (run_ext (hA.ev rfl) rfl) ?_)
      clear hA; intro a hA
      refine L1 (e_alloc (cs := [(.int .u32 0), (.bool false), (.slice none 0 0), (.slice none 0 0), (.slice none 0 0)]) hM zero39 rfl hA (by decide) ?_)
      clear hM hA; intro w15408 g15407 hM hE  a hA
      refine L1 (e_store (g := g15407) (off := 0) (cur := [(.int .u32 0), (.bool false), (.slice none 0 0), (.slice none 0 0), (.slice none 0 0)]) (cs' := [(.int .u32 r15388.1.Epoch), (.bool r15388.1.Diffuse), (.slice A15396 r15388.1.Routes.length c15397), (.slice A15399 r15388.1.Stems.length c15400), (.slice A15402 r15388.1.Fluffed.length c15403)]) hM .z Try.sizeOf39 hA rfl (by simp [add_mk]) rfl (by first | rfl | simp [Value.cells, Pl.len]) (by simp [Value.cells, Value.oneCell']) (by first | exact Nat.le_of_ble_eq_true rfl | (simp [Pl.len]; done)) (spl_all (by first | rfl | simp [Value.cells, Pl.len])) ?_)
      clear hM hA; intro w15410  hM hE  a hA
      refine L1 (stv hA (by decide) (run_assign (hA.ev rfl)) ?_)
      clear hA; intro a hA
      refine LQ ?_
      refine TN ?_
      refine wp_seq ?_
      refine wp_region_lit ?_
      refine L1 (stv hA (by decide) (run_move (hA.ev rfl)) ?_)
      clear hA; intro a hA
      refine L1 (stv hA (by decide) (run_move (hA.ev rfl)) ?_)
      clear hA; intro a hA
      obtain ⟨hl15413, H⟩ := ite_some H
      refine L1 (e_append elt37 hM (fun _ => (.s (.s (.s (.s (.s (.s (.s (.s (.s (.s .z))))))))))) (Src.row Try.underlying37 (RowOk.row (hM.row (p := pHash) (.s (.s (.s (.s .z)))))) (RowOk.len (hM.row (p := pHash) (.s (.s (.s (.s .z))))))) hl15413 hA rfl rfl (by decide) ?_)
      clear hM hA; intro w15414 A15411 c15412 hM hE  a hA
      refine L1 (stv hA (by decide) (run_assign (hA.ev rfl)) ?_)
      clear hA; intro a hA
      refine LQ ?_
      refine TN ?_
      refine wp_seq ?_
      refine wp_seq ?_
      refine wp_region_lit ?_
      refine L1 (stv hA (by decide) (run_move (hA.ev rfl)) ?_)
      clear hA; intro a hA
      refine L1 (stv hA (by decide) (run_len_slice Try.underlying37 (hA.ev rfl)) ?_)
      clear hA; intro a hA
      refine L1 (stv hA (by decide) (run_move (hA.ev rfl)) ?_)
      clear hA; intro a hA
      refine LQ ?_
      refine TN ?_
      obtain ⟨o15465, H15464, H⟩ := Option.bind_eq_some_iff.1 H
      refine cutC (fun a w => (.go ()) = o15465 ∧ Mem F w0 w [.box g15407 39 [(.int .u32 r15388.1.Epoch), (.bool r15388.1.Diffuse), (.slice A15396 r15388.1.Routes.length c15397), (.slice A15399 r15388.1.Stems.length c15400), (.slice A15402 r15388.1.Fluffed.length c15403)], .row 3 (Pl.int .i64).sz (.slice A15396 r15388.1.Routes.length c15397) ((Pl.int .i64).flat r15388.1.Routes), .row 61 pStem.sz (.slice A15399 r15388.1.Stems.length c15400) (pStem.flat r15388.1.Stems), .row 34 pHash.sz (.slice A15402 r15388.1.Fluffed.length c15403) (pHash.flat r15388.1.Fluffed)] ∧ Has 148 [(22, (.pointer (some (⟨g15407, 0, none⟩))))] a) ?_ ?_
      · refine wp_block ?_
        refine wp_loop_ghost (fun m a w => ∃ (x15463 : Int), law40_RelayEnds.l2 xs13504 xs13510 r15388 m x15463 = some o15465 ∧ Mem F w0 w [.row 34 pHash.sz (.slice A15411 (xs13510.length + r15388.2.length) c15412) (pHash.flat (xs13510 ++ r15388.2)), .box g15407 39 [(.int .u32 r15388.1.Epoch), (.bool r15388.1.Diffuse), (.slice A15396 r15388.1.Routes.length c15397), (.slice A15399 r15388.1.Stems.length c15400), (.slice A15402 r15388.1.Fluffed.length c15403)], .row 3 (Pl.int .i64).sz (.slice A15396 r15388.1.Routes.length c15397) ((Pl.int .i64).flat r15388.1.Routes), .row 61 pStem.sz (.slice A15399 r15388.1.Stems.length c15400) (pStem.flat r15388.1.Stems), .row 34 pHash.sz (.slice A15402 r15388.1.Fluffed.length c15403) (pHash.flat r15388.1.Fluffed), .row 34 pHash.sz (.slice A13502 xs13504.length c13503) (pHash.flat xs13504)] ∧ Has 148 [(8, (.slice A15411 (xs13510.length + r15388.2.length) c15412)), (22, (.pointer (some (⟨g15407, 0, none⟩)))), (133, (.slice A13502 xs13504.length c13503)), (134, (.int .i64 ((xs13504.length : Nat) : Int))), (135, (.int .i64 x15463))] a) k ⟨0, H15464, (hM.sel [10, 0, 1, 2, 3, 9] rfl (by decide)), (((((hA.nil.cons (hA.get 135 _ rfl)).cons (hA.get 134 _ rfl)).cons (hA.get 133 _ rfl)).cons (hA.get 22 _ rfl)).cons (hA.get 8 _ rfl))⟩ ?_
        clear hM hA; rintro m15466 a w15467 ⟨x15463, H15464, hM, hA⟩
        cases m15466 with
        | zero => exact absurd H15464 (by simp [law40_RelayEnds.l2])
        | succ m15466 =>
        rw [law40_RelayEnds.l2] at H15464
        refine wp_seq ?_
        refine wp_region_lit ?_
        refine L1 (stv hA (by decide) (run_bin (hA.ev rfl) (hA.ev rfl) (bin_lss _ _ _ _)) ?_)
        clear hA; intro a hA
        refine LQ ?_
        refine TN ?_
        refine wp_seq ?_
        refine tcond (b := (decide (x15463 < ((xs13504.length : Nat) : Int)))) hA rfl (fun hb15468 => ?_) (fun hb15468 => ?_)
        · replace H15464 := ite_t hb15468 H15464
          refine wp_skip ?_
          refine TN ?_
          refine wp_seq ?_
          refine wp_block ?_
          refine wp_seq ?_
          refine wp_region_lit ?_
          obtain ⟨⟨hi15469, hj15470⟩, H15464⟩ := ite_some H15464
          obtain ⟨ad15471, hq15472, hat15473⟩ := Row.elem' (p := pHash) (RowOk.row (hM.row (p := pHash) (.s (.s (.s (.s (.s .z))))))) (RowOk.len (hM.row (p := pHash) (.s (.s (.s (.s (.s .z))))))) (Vector.replicate 32 0 : Vector Int 32) x15463 hi15469 hj15470
          refine L1 (stv hA (by decide) (run_idx Try.underlying37 Try.sizeOf34 (hA.ev rfl) hq15472 (hA.ev rfl) hi15469 hj15470) ?_)
          clear hA; intro a hA
          refine L1 (stv hA (by decide) (run_ld (hA.ev rfl) (run_loadP Try.isAgg34 Try.sizeOf34 hat15473)) ?_)
          clear hA; intro a hA
          refine L1 (e_alloc (cs := (pHash.enc (Vector.replicate 32 0 : Vector Int 32))) hM zero34 rfl hA (by decide) ?_)
          clear hM hA; intro w15475 g15474 hM hE  a hA
          refine L1 (e_store (g := g15474) (off := 0) (cur := (pHash.enc (Vector.replicate 32 0 : Vector Int 32))) (cs' := (pHash.enc (xs13504.getD x15463.toNat (Vector.replicate 32 0 : Vector Int 32)))) hM .z Try.sizeOf34 hA rfl (by simp [add_mk]) rfl (agg_size _ _) (agg_one _ _) (Nat.le_of_ble_eq_true (enc_fitL _ _ rfl)) (spl_all (by first | rfl | simp [Value.cells, Pl.len])) ?_)
          clear hM hA; intro w15477  hM hE  a hA
          refine LQ ?_
          refine TN ?_
          refine wp_seq ?_
          refine wp_region_lit ?_
          refine L1 (stv hA (by decide) (run_move (hA.ev rfl)) ?_)
          clear hA; intro a hA
          refine L1 (stv hA (by decide) (run_ld (hA.ev rfl) (run_loadP Try.isAgg34 Try.sizeOf34 (hM.box .z))) ?_)
          clear hA; intro a hA
          obtain ⟨r15478, H15479, H15464⟩ := Option.bind_eq_some_iff.1 H15464
          refine L1 (st_call Try.call24 hA [(.slice A15411 (xs13510.length + r15388.2.length) c15412), (.agg (pHash.enc (xs13504.getD x15463.toNat (Vector.replicate 32 0 : Vector Int 32))).toArray)] rfl (by decide) (law40_has.calls _ _ _ _ _ _ _ ((hM.roV (p := pHash) (Ms := []) (.s .z))) (hM.front (Ms := [])) H15479) ?_)
          clear hA; rintro _ w15480 ⟨rfl, hMc⟩ a hA
          have hE := hMc.below; have hM := hM.call (Ms := []) hMc
          clear hMc; simp only [List.cons_append, List.nil_append] at hM
          refine L1 (stv hA (by decide) (run_not (hA.ev rfl)) ?_)
          clear hA; intro a hA
          refine LQ ?_
          refine TN ?_
          refine tcond (b := (!r15478)) hA rfl (fun hb15481 => ?_) (fun hb15481 => ?_)
          · replace H15464 := ite_t hb15481 H15464
            refine wp_seq ?_
            refine wp_region_lit ?_
            refine L1 (stv hA (by decide) (run_assign (hA.ev rfl)) ?_)
            clear hA; intro a hA
            refine LQ ?_
            refine TN ?_
            refine wp_ret ?_
            obtain rfl := Option.some.inj H15464
            dsimp only at H
            obtain rfl := Option.some.inj H
            refine BR ?_
            refine TR ?_
            refine TR ?_
            refine BR ?_
            refine TR ?_
            refine TR ?_
            exact ret_post1 (fn := Try.f6) hA rfl rfl ⟨_, rfl, rfl, (hM.sel [] rfl (by decide))⟩
          · replace H15464 := ite_f hb15481 H15464
            refine wp_skip ?_
            refine BN ?_
            refine TN ?_
            refine wp_region_lit ?_
            refine L1 (stv hA (by decide) (run_bin (hA.ev rfl) (hA.ev rfl) (bin_add _ _ _ _)) ?_)
            clear hA; intro a hA
            refine L1 (stv hA (by decide) (run_move (hA.ev rfl)) ?_)
            clear hA; intro a hA
            refine LQ ?_
            exact ⟨_, Nat.lt_succ_self m15466, IntKind.i64.wrap (x15463 + 1), H15464, (hM.sel [1, 2, 3, 4, 5, 6] rfl (by decide)), (((((hA.nil.cons (hA.get 135 _ rfl)).cons (hA.get 134 _ rfl)).cons (hA.get 133 _ rfl)).cons (hA.get 22 _ rfl)).cons (hA.get 8 _ rfl))⟩
        · replace H15464 := ite_f hb15468 H15464
          refine wp_exit ?_
          refine TX ?_
          refine TX ?_
          refine BX ?_
          exact ⟨Option.some.inj H15464, (hM.sel [1, 2, 3, 4] rfl (by decide)), (hA.nil.cons (hA.get 22 _ rfl))⟩
      clear hM hA
      rintro a w15482 ⟨rfl, hM, hA⟩
      try dsimp only at H
      refine TN ?_
      refine wp_seq ?_
      refine wp_region_lit ?_
      refine L1 (stv hA (by decide) (run_field' Try.underlying39 rfl rfl Try.sizeOf36 (by decide) (hA.ev rfl)) ?_)
      clear hA; intro a hA
      refine L1 (stv hA (by decide) (run_ld (hA.ev rfl) (run_loadS Try.isAgg36 (At.seg1 (hM.box .z) 3 rfl))) ?_)
      clear hA; intro a hA
      refine L1 (stv hA (by decide) (run_len_slice Try.underlying36 (hA.ev rfl)) ?_)
      clear hA; intro a hA
      refine L1 (stv hA (by decide) (run_bin (hA.ev rfl) (hA.ev rfl) (bin_eql _ _ _ _)) ?_)
      clear hA; intro a hA
      refine L1 (stv hA (by decide) (run_assign (hA.ev rfl)) ?_)
      clear hA; intro a hA
      refine LQ ?_
      refine TN ?_
      refine wp_ret ?_
      obtain rfl := Option.some.inj H
      exact ret_post1 (fn := Try.f6) hA rfl rfl ⟨_, rfl, rfl, (hM.sel [] rfl (by decide))⟩

end Go.Proofs.Ytnhgfdinnbadeaa.G
