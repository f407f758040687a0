/- The functions that a law of this seat reaches: what each comes to, as a plain function, and that its code comes to it. Conditions: the plain function gives a value (enough fuel, no panic). -/
import Derived.Test.YtoogcdmdbogkeaaFConnectFairx3
set_option linter.unusedVariables false
set_option linter.unusedSimpArgs false
namespace Go.Proofs.Ytoogcdmdbogkeaa.G
open Go Go.RowKit Go.Proofs
def law39_ConnectFair.l0 (first_1 : Int) (evil_2 : Int) (r364 : (Book × lightclientmill_Deck)) (r379 : (List NAddr)) : Nat → Int → Int → Int → Option (Out Bool (Int × Int))
  | 0, _, _, _ => none
  | k + 1, has619, got621, t624 => (if (decide (t624 < ((r379.length : Nat) : Int))) = true then ((connect_Choose.f k (Book.mk r364.1.Salt r364.1.Heard r364.1.Tried) ([] : List NAddr) ([] : List Link) (IntKind.u64.wrap ((first_1.tmod 1152921504606846976) + (IntKind.u64.wrap t624)))).bind fun r636 => (Option.bind (α := Bool) (if (r636.2 != 0) = true then (some true) else (some (r636.1.Kind != 2))) (fun t655 => (if t655 = true then (some (.ret false)) else (if 0 ≤ t624 ∧ t624 < ((r379.length : Nat) : Int) then ((addrbook_Group.f k (r379.getD t624.toNat NAddr.z)).bind fun r666 => (Option.bind (α := Int) (if ((r666.tmod 3) == (evil_2.tmod 3)) = true then (some (IntKind.i64.wrap (has619 + 1))) else (some has619)) (fun has675 => ((addrbook_Group.f k r636.1.Addr_).bind fun r684 => (Option.bind (α := Int) (if ((r684.tmod 3) == (evil_2.tmod 3)) = true then (some (IntKind.i64.wrap (got621 + 1))) else (some got621)) (fun got694 => (law39_ConnectFair.l0 first_1 evil_2 r364 r379 k has675 got694 (IntKind.i64.wrap (t624 + 1))))))))) else none))))) else (some (.go (has619, got621))))
def law39_ConnectFair.f (k : Nat) (l_0 : (List Int)) (first_1 : Int) (evil_2 : Int) : Option Bool := ((law39_sane.f k ).bind fun r355 => (if (!r355) = true then (some false) else ((mill_New.f k l_0).bind fun r359 => ((mill_Book.f k (lightclientmill_Deck.mk l_0 r359.At_)).bind fun r364 => ((connect_Candidates.f k (Book.mk r364.1.Salt r364.1.Heard r364.1.Tried) ([] : List Link) 2).bind fun r379 => (Option.bind (α := Out Bool (Int × Int)) (law39_ConnectFair.l0 first_1 evil_2 r364 r379 k 0 0 0) (fun o => match o with | .ret r => some r | .go (has628, got630) => (Option.bind (α := Bool) (if (has628 == got630) = true then (some (((r379.length : Nat) : Int) == (IntKind.i64.wrap (((r364.1.Heard.length : Nat) : Int) + ((r364.1.Tried.length : Nat) : Int))))) else (some false)) (fun t704 => (some t704))))))))))
set_option maxHeartbeats 2000000 in
set_option maxRecDepth 100000 in
theorem law39_ConnectFair.calls (k : Nat) (l_0 : (List Int)) (first_1 : Int) (evil_2 : Int) (F : List (Option Nat)) (v0 : Value) (r : Bool) (w0 : World) (h0 : RoV F (Pl.int .i64) w0 v0 l_0) (hM : Mem F w0 w0 []) (H : law39_ConnectFair.f k l_0 first_1 evil_2 = some r) :
    Calls Try.prog 8 #[v0, (.int .u64 first_1), (.int .u32 evil_2)] w0 fun e w' => ∃ v, e = .returned v ∧ v = (.bool r) ∧ Mem F w0 w' [] := by
  unfold law39_ConnectFair.f at H
  obtain ⟨A0, c0, rfl, hr0, hc0⟩ := h0
  refine enterL (n := 81) [(.slice A0 l_0.length c0), (.int .u64 first_1), (.int .u32 evil_2)] Try.func8 rfl rfl rfl ?_
  intro a hA
  refine wp_seq ?_
  refine wp_region_lit ?_
  refine L1 (stv hA (by decide) (run_assign (hA.ev rfl)) ?_)
  clear hA; intro a hA
  refine LQ ?_
  refine TN ?_
  refine wp_seq ?_
  refine wp_seq ?_
  refine wp_region_lit ?_
  obtain ⟨r355, H356, H⟩ := Option.bind_eq_some_iff.1 H
  refine L1 (st_call Try.call19 hA [] rfl (by decide) (law39_sane.calls _ _ _ _ (hM.front (Ms := [])) H356) ?_)
  clear hA; rintro _ w357 ⟨rfl, hMc⟩ a hA
  have hE := hMc.below; have hM := hM.call (Ms := []) hMc
  clear hMc; simp only [List.cons_append, List.nil_append] at hM
  refine L1 (stv hA (by decide) (run_not (hA.ev rfl)) ?_)
  clear hA; intro a hA
  refine LQ ?_
  refine TN ?_
  refine tcond (b := (!r355)) hA rfl (fun hb358 => ?_) (fun hb358 => ?_)
  · replace H := ite_t hb358 H
    refine wp_seq ?_
    refine wp_region_lit ?_
    refine L1 (stv hA (by decide) (run_assign (hA.ev rfl)) ?_)
    clear hA; intro a hA
    refine LQ ?_
    refine TN ?_
    refine wp_ret ?_
    obtain rfl := Option.some.inj H
    refine TR ?_
    exact ret_post1 (fn := Try.f8) hA rfl rfl ⟨_, rfl, rfl, hM⟩
  · replace H := ite_f hb358 H
    refine wp_skip ?_
    refine TN ?_
    refine wp_seq ?_
    refine wp_region_lit ?_
    refine L1 (stv hA (by decide) (run_move (hA.ev rfl)) ?_)
    clear hA; intro a hA
    obtain ⟨r359, H360, H⟩ := Option.bind_eq_some_iff.1 H
    refine L1 (st_call Try.call20 hA [(.slice A0 l_0.length c0)] rfl (by decide) (mill_New.calls _ _ _ _ _ _ ((RoV.mk (hM.roC (Ms := []) hr0) (Eq.refl l_0.length) hc0)) (hM.front (Ms := [])) H360) ?_)
    clear hA; rintro _ w361 ⟨g362, rfl, hMc⟩ a hA
    have hE := hMc.below; have hM := hM.call (Ms := []) hMc
    clear hMc; simp only [List.cons_append, List.nil_append] at hM
    refine L1 (stv hA (by decide) (run_assign (hA.ev rfl)) ?_)
    clear hA; intro a hA
    refine LQ ?_
    refine TN ?_
    refine wp_seq ?_
    refine wp_region_lit ?_
    refine L1 (stv hA (by decide) (run_move (hA.ev rfl)) ?_)
    clear hA; intro a hA
    obtain ⟨r364, H365, H⟩ := Option.bind_eq_some_iff.1 H
    refine L1 (st_call Try.call21 hA [(.pointer (some (⟨g362, 0, none⟩)))] rfl (by decide) (mill_Book.calls _ (lightclientmill_Deck.mk l_0 r359.At_) _ _ _ _ _ ((RoV.mk (hM.roC (Ms := [_]) hr0) (Eq.refl l_0.length) hc0)) (hM.front (Ms := [_])) H365) ?_)
    clear hA; rintro _ w366 ⟨v367, v368, rfl, hMc⟩ a hA
    have hM := hM.call (Ms := [_]) hMc
    clear hMc; simp only [List.cons_append, List.nil_append] at hM
    obtain ⟨A370, c371, rfl⟩ := RowOk.form (hM.row (p := pPlace) (.s .z))
    obtain ⟨A373, c374, rfl⟩ := RowOk.form (hM.row (p := pPlace) (.s (.s .z)))
    refine L1 (e_alloc (cs := (List.flatten [pHash.enc (Vector.replicate 32 0 : Vector Int 32), [(.slice none 0 0)], [(.slice none 0 0)]])) hM zero41 rfl hA (by decide) ?_)
    clear hM hA; intro w376 g375 hM hE  a hA
    refine L1 (e_store (g := g375) (off := 0) (cur := (List.flatten [pHash.enc (Vector.replicate 32 0 : Vector Int 32), [(.slice none 0 0)], [(.slice none 0 0)]])) (cs' := (List.flatten [pHash.enc r364.1.Salt, [(.slice A370 r364.1.Heard.length c371)], [(.slice A373 r364.1.Tried.length c374)]])) hM .z Try.sizeOf41 hA rfl (by simp [add_mk]) rfl (by first | rfl | (simp [Value.cells, Pl.len]; done) | (simp [Value.cells, Pl.len]; rfl)) (one_flat (one_cons (Pl.one _ _) (one_cons (by simp [Value.oneCell']) (one_cons (by simp [Value.oneCell']) one_nil)))) (by first | exact Nat.le_of_ble_eq_true rfl | (simp [Pl.len]; done) | (simp [Pl.len]; decide)) (spl_all (by first | rfl | (simp [Value.cells, Pl.len]; done) | (simp [Value.cells, Pl.len]; rfl))) ?_)
    clear hM hA; intro w378  hM hE  a hA
    refine LQ ?_
    refine TN ?_
    refine wp_seq ?_
    refine wp_region_lit ?_
    refine L1 (stv hA (by decide) (run_ld (hA.ev rfl) (run_loadW Try.isAgg41 Try.sizeOf41 (by simp [Pl.len]; try rfl) (hM.box .z))) ?_)
    clear hA; intro a hA
    obtain ⟨r379, H380, H⟩ := Option.bind_eq_some_iff.1 H
    refine L1 (st_call Try.call26 hA [(.agg (List.flatten [pHash.enc r364.1.Salt, [(.slice A370 r364.1.Heard.length c371)], [(.slice A373 r364.1.Tried.length c374)]]).toArray), (.slice none 0 0), (.int .i64 2)] rfl (by decide) (connect_Candidates.calls _ (Book.mk r364.1.Salt r364.1.Heard r364.1.Tried) _ _ _ _ _ _ _ _ ((hM.roV (p := pPlace) (Ms := []) (.s (.s .z)))) ((hM.roV (p := pPlace) (Ms := []) (.s (.s (.s .z))))) ((RoV.nil _ _ _)) (hM.front (Ms := [])) H380) ?_)
    clear hA; rintro _ w381 ⟨v382, rfl, hMc⟩ a hA
    have hE := hMc.below; have hM := hM.call (Ms := []) hMc
    clear hMc; simp only [List.cons_append, List.nil_append] at hM
    obtain ⟨A384, c385, rfl⟩ := RowOk.form (hM.row (p := pNAddr) .z)
    refine L1 (stv hA (by decide) (run_assign (hA.ev rfl)) ?_)
    clear hA; intro a hA
    refine LQ ?_
    refine TN ?_
    refine wp_seq ?_
    refine wp_region_lit ?_
    refine L1 (stv hA (by decide) (run_assign (hA.ev rfl)) ?_)
    clear hA; intro a hA
    refine L1 (stv hA (by decide) (run_assign (hA.ev rfl)) ?_)
    clear hA; intro a hA
    refine LQ ?_
    refine TN ?_
    refine wp_seq ?_
    refine wp_seq ?_
    refine wp_region_lit ?_
    refine L1 (stv hA (by decide) (run_move (hA.ev rfl)) ?_)
    clear hA; intro a hA
    refine L1 (stv hA (by decide) (run_len_slice Try.underlying48 (hA.ev rfl)) ?_)
    clear hA; intro a hA
    refine L1 (stv hA (by decide) (run_move (hA.ev rfl)) ?_)
    clear hA; intro a hA
    refine LQ ?_
    refine TN ?_
    obtain ⟨o632, H631, H⟩ := Option.bind_eq_some_iff.1 H
    refine cutC (fun a w => ∃ (has628 : Int) (got630 : Int), (.go (has628, got630)) = o632 ∧ Mem F w0 w [.box g375 41 (List.flatten [pHash.enc r364.1.Salt, [(.slice A370 r364.1.Heard.length c371)], [(.slice A373 r364.1.Tried.length c374)]]), .row 70 pPlace.sz (.slice A370 r364.1.Heard.length c371) (pPlace.flat r364.1.Heard), .row 70 pPlace.sz (.slice A373 r364.1.Tried.length c374) (pPlace.flat r364.1.Tried), .row 46 pNAddr.sz (.slice A384 r379.length c385) (pNAddr.flat r379)] ∧ Has 81 [(8, (.pointer (some (⟨g375, 0, none⟩)))), (9, (.slice A384 r379.length c385)), (10, (.int .i64 has628)), (11, (.int .i64 got630))] a) ?_ ?_
    · refine wp_block ?_
      refine wp_loop_ghost (fun m a w => ∃ (has619 : Int) (got621 : Int) (t624 : Int), law39_ConnectFair.l0 first_1 evil_2 r364 r379 m has619 got621 t624 = some o632 ∧ Mem F w0 w [.box g375 41 (List.flatten [pHash.enc r364.1.Salt, [(.slice A370 r364.1.Heard.length c371)], [(.slice A373 r364.1.Tried.length c374)]]), .row 70 pPlace.sz (.slice A370 r364.1.Heard.length c371) (pPlace.flat r364.1.Heard), .row 70 pPlace.sz (.slice A373 r364.1.Tried.length c374) (pPlace.flat r364.1.Tried), .row 46 pNAddr.sz (.slice A384 r379.length c385) (pNAddr.flat r379)] ∧ Has 81 [(1, (.int .u64 first_1)), (2, (.int .u32 evil_2)), (8, (.pointer (some (⟨g375, 0, none⟩)))), (9, (.slice A384 r379.length c385)), (10, (.int .i64 has619)), (11, (.int .i64 got621)), (24, (.int .i64 ((r379.length : Nat) : Int))), (25, (.int .i64 t624))] a) k ⟨0, 0, 0, H631, (hM.sel [1, 3, 4, 0] rfl (by decide)), ((((((((hA.nil.cons (hA.get 25 _ rfl)).cons (hA.get 24 _ rfl)).cons (hA.get 11 _ rfl)).cons (hA.get 10 _ rfl)).cons (hA.get 9 _ rfl)).cons (hA.get 8 _ rfl)).cons (hA.get 2 _ rfl)).cons (hA.get 1 _ rfl))⟩ ?_
      clear hM hA; rintro m633 a w634 ⟨has619, got621, t624, H631, hM, hA⟩
      cases m633 with
      | zero => exact absurd H631 (by simp [law39_ConnectFair.l0])
      | succ m633 =>
      rw [law39_ConnectFair.l0] at H631
      refine wp_seq ?_
      refine wp_region_lit ?_
      refine L1 (stv hA (by decide) (run_bin (hA.ev rfl) (hA.ev rfl) (bin_lss _ _ _ _)) ?_)
      clear hA; intro a hA
      refine LQ ?_
      refine TN ?_
      refine wp_seq ?_
      refine tcond (b := (decide (t624 < ((r379.length : Nat) : Int)))) hA rfl (fun hb635 => ?_) (fun hb635 => ?_)
      · replace H631 := ite_t hb635 H631
        refine wp_skip ?_
        refine TN ?_
        refine wp_seq ?_
        refine wp_block ?_
        refine wp_seq ?_
        refine wp_region_lit ?_
        refine L1 (stv hA (by decide) (run_move (hA.ev rfl)) ?_)
        clear hA; intro a hA
        refine L1 (stv hA (by decide) (run_assign (hA.ev rfl)) ?_)
        clear hA; intro a hA
        refine LQ ?_
        refine TN ?_
        refine wp_seq ?_
        refine wp_region_lit ?_
        refine L1 (stv hA (by decide) (run_ld (hA.ev rfl) (run_loadW Try.isAgg41 Try.sizeOf41 (by simp [Pl.len]; try rfl) (hM.box .z))) ?_)
        clear hA; intro a hA
        refine L1 (stv hA (by decide) (run_move (hA.ev rfl)) ?_)
        clear hA; intro a hA
        refine L1 (stv hA (by decide) (run_bin (hA.ev rfl) (hA.ev rfl) (bin_rem _ _ _ _ (by decide))) ?_)
        clear hA; intro a hA
        refine L1 (stv hA (by decide) (run_move (hA.ev rfl)) ?_)
        clear hA; intro a hA
        refine L1 (stv hA (by decide) (run_conv Try.underlying3 Try.underlying22 (hA.ev rfl)) ?_)
        clear hA; intro a hA
        refine L1 (stv hA (by decide) (run_bin (hA.ev rfl) (hA.ev rfl) (bin_add _ _ _ _)) ?_)
        clear hA; intro a hA
        obtain ⟨r636, H637, H631⟩ := Option.bind_eq_some_iff.1 H631
        refine L1 (st_call Try.call27 hA [(.agg (List.flatten [pHash.enc r364.1.Salt, [(.slice A370 r364.1.Heard.length c371)], [(.slice A373 r364.1.Tried.length c374)]]).toArray), (.slice none 0 0), (.slice none 0 0), (.int .u64 (IntKind.u64.wrap ((first_1.tmod 1152921504606846976) + (IntKind.u64.wrap t624))))] rfl (by decide) (connect_Choose.calls _ (Book.mk r364.1.Salt r364.1.Heard r364.1.Tried) _ _ _ _ _ _ _ _ _ _ ((hM.roV (p := pPlace) (Ms := []) (.s .z))) ((hM.roV (p := pPlace) (Ms := []) (.s (.s .z)))) ((RoV.nil _ _ _)) ((RoV.nil _ _ _)) (hM.front (Ms := [])) H637) ?_)
        clear hA; rintro _ w638 ⟨rfl, hMc⟩ a hA
        have hE := hMc.below; have hM := hM.call (Ms := []) hMc
        clear hMc; simp only [List.cons_append, List.nil_append] at hM
        refine L1 (stv hA (by decide) (run_move (hA.ev rfl)) ?_)
        clear hA; intro a hA
        refine L1 (stv hA (by decide) (run_ext (hA.ev rfl) rfl) ?_)
        clear hA; intro a hA
        refine L1 (stv hA (by decide) (run_ext (hA.ev rfl) rfl) ?_)
        clear hA; intro a hA
        refine L1 (e_alloc (cs := (pLink.enc Link.z)) hM zero53 rfl hA (by decide) ?_)
        clear hM hA; intro w640 g639 hM hE  a hA
        refine L1 (e_store (g := g639) (off := 0) (cur := (pLink.enc Link.z)) (cs' := (pLink.enc r636.1)) hM .z Try.sizeOf53 hA rfl (by simp [add_mk]) rfl (agg_size _ _) (agg_one _ _) (Nat.le_of_ble_eq_true (enc_fitL _ _ rfl)) (spl_all (by first | rfl | (simp [Value.cells, Pl.len]; done) | (simp [Value.cells, Pl.len]; rfl))) ?_)
        clear hM hA; intro w642  hM hE  a hA
        refine L1 (stv hA (by decide) (run_assign (hA.ev rfl)) ?_)
        clear hA; intro a hA
        refine LQ ?_
        refine TN ?_
        refine wp_seq ?_
        refine wp_seq ?_
        obtain ⟨o657, H656, H631⟩ := Option.bind_eq_some_iff.1 H631
        refine cutC (fun a w => ∃ (t655 : Bool), t655 = o657 ∧ Mem F w0 w [.box g375 41 (List.flatten [pHash.enc r364.1.Salt, [(.slice A370 r364.1.Heard.length c371)], [(.slice A373 r364.1.Tried.length c374)]]), .row 70 pPlace.sz (.slice A370 r364.1.Heard.length c371) (pPlace.flat r364.1.Heard), .row 70 pPlace.sz (.slice A373 r364.1.Tried.length c374) (pPlace.flat r364.1.Tried), .row 46 pNAddr.sz (.slice A384 r379.length c385) (pNAddr.flat r379), .box g639 53 (pLink.enc r636.1)] ∧ Has 81 [(1, (.int .u64 first_1)), (2, (.int .u32 evil_2)), (8, (.pointer (some (⟨g375, 0, none⟩)))), (9, (.slice A384 r379.length c385)), (10, (.int .i64 has619)), (11, (.int .i64 got621)), (12, (.int .i64 t624)), (13, (.pointer (some (⟨g639, 0, none⟩)))), (24, (.int .i64 ((r379.length : Nat) : Int))), (25, (.int .i64 t624)), (44, (.bool t655))] a) ?_ ?_
        · refine wp_region_lit ?_
          refine L1 (stv hA (by decide) (run_move (hA.ev rfl)) ?_)
          clear hA; intro a hA
          refine L1 (stv hA (by decide) (run_bin (hA.ev rfl) (hA.ev rfl) (bin_neq _ _ _ _)) ?_)
          clear hA; intro a hA
          refine L1 (stv hA (by decide) (run_move (hA.ev rfl)) ?_)
          clear hA; intro a hA
          refine bsplit (b := (r636.2 != 0)) (fun hb658 => ?_) (fun hb658 => ?_)
          · replace H656 := ite_t hb658 H656
            have hA := hA.re (t := 40) rfl (congrArg Value.bool hb658)
            refine L1 (gate_off rfl (by decide) rfl hA (by decide) rfl rfl ?_); clear hA; intro a hA
            refine L1 (gate_off rfl (by decide) rfl hA (by decide) rfl rfl ?_); clear hA; intro a hA
            refine L1 (gate_off rfl (by decide) rfl hA (by decide) rfl rfl ?_); clear hA; intro a hA
            refine L1 (stv hA (by decide) (run_pick (hA.ev rfl) (fun _ => hA.ev rfl) (fun h => Bool.noConfusion h)) ?_)
            clear hA; intro a hA
            refine LQ ?_
            exact ⟨true, Option.some.inj H656, (hM.sel [1, 2, 3, 4, 0] rfl (by decide)), (((((((((((hA.nil.cons (hA.get 44 _ rfl)).cons (hA.get 25 _ rfl)).cons (hA.get 24 _ rfl)).cons (hA.get 13 _ rfl)).cons (hA.get 12 _ rfl)).cons (hA.get 11 _ rfl)).cons (hA.get 10 _ rfl)).cons (hA.get 9 _ rfl)).cons (hA.get 8 _ rfl)).cons (hA.get 2 _ rfl)).cons (hA.get 1 _ rfl))⟩
          · replace H656 := ite_f hb658 H656
            have hA := hA.re (t := 40) rfl (congrArg Value.bool hb658)
            refine L1 (gate_on rfl rfl hA (by decide) rfl (stv hA (by decide) (run_field' Try.underlying53 rfl rfl Try.sizeOf3 (by decide) (hA.ev rfl)) ?_))
            clear hA; intro a hA
            refine L1 (gate_on rfl rfl hA (by decide) rfl (stv hA (by decide) (run_ld (hA.ev rfl) (run_loadS Try.isAgg3 (Link.at_Kind (hM.box .z)))) ?_))
            clear hA; intro a hA
            refine L1 (gate_on rfl rfl hA (by decide) rfl (stv hA (by decide) (run_bin (hA.ev rfl) (hA.ev rfl) (bin_neq _ _ _ _)) ?_))
            clear hA; intro a hA
            refine L1 (stv hA (by decide) (run_pick (hA.ev rfl) (fun h => Bool.noConfusion h) (fun _ => hA.ev rfl)) ?_)
            clear hA; intro a hA
            refine LQ ?_
            exact ⟨(r636.1.Kind != 2), Option.some.inj H656, (hM.sel [1, 2, 3, 4, 0] rfl (by decide)), (((((((((((hA.nil.cons (hA.get 44 _ rfl)).cons (hA.get 25 _ rfl)).cons (hA.get 24 _ rfl)).cons (hA.get 13 _ rfl)).cons (hA.get 12 _ rfl)).cons (hA.get 11 _ rfl)).cons (hA.get 10 _ rfl)).cons (hA.get 9 _ rfl)).cons (hA.get 8 _ rfl)).cons (hA.get 2 _ rfl)).cons (hA.get 1 _ rfl))⟩
        clear hM hA
        rintro a w659 ⟨t655, rfl, hM, hA⟩
        try dsimp only at H631
        refine TN ?_
        refine tcond (b := t655) hA rfl (fun hb660 => ?_) (fun hb660 => ?_)
        · replace H631 := ite_t hb660 H631
          refine wp_seq ?_
          refine wp_region_lit ?_
          refine L1 (stv hA (by decide) (run_assign (hA.ev rfl)) ?_)
          clear hA; intro a hA
          refine LQ ?_
          refine TN ?_
          refine wp_ret ?_
          obtain rfl := Option.some.inj H631
          dsimp only at H
          obtain rfl := Option.some.inj H
          refine TR ?_
          refine BR ?_
          refine TR ?_
          refine TR ?_
          refine BR ?_
          refine TR ?_
          refine TR ?_
          exact ret_post1 (fn := Try.f8) hA rfl rfl ⟨_, rfl, rfl, (hM.sel [] rfl (by decide))⟩
        · replace H631 := ite_f hb660 H631
          refine wp_skip ?_
          refine TN ?_
          refine wp_seq ?_
          refine wp_seq ?_
          refine wp_region_lit ?_
          refine L1 (stv hA (by decide) (run_move (hA.ev rfl)) ?_)
          clear hA; intro a hA
          refine L1 (stv hA (by decide) (run_move (hA.ev rfl)) ?_)
          clear hA; intro a hA
          obtain ⟨⟨hi661, hj662⟩, H631⟩ := ite_some H631
          obtain ⟨ad663, hq664, hat665⟩ := Row.elem' (p := pNAddr) (RowOk.row (hM.row (p := pNAddr) (.s (.s (.s .z))))) (RowOk.len (hM.row (p := pNAddr) (.s (.s (.s .z))))) NAddr.z t624 hi661 hj662
          refine L1 (stv hA (by decide) (run_idx Try.underlying48 Try.sizeOf46 (hA.ev rfl) hq664 (hA.ev rfl) hi661 hj662) ?_)
          clear hA; intro a hA
          refine L1 (stv hA (by decide) (run_ld (hA.ev rfl) (run_loadP Try.isAgg46 Try.sizeOf46 hat665)) ?_)
          clear hA; intro a hA
          obtain ⟨r666, H667, H631⟩ := Option.bind_eq_some_iff.1 H631
          refine L1 (st_call Try.call24 hA [(.agg (pNAddr.enc (r379.getD t624.toNat NAddr.z)).toArray)] rfl (by decide) (addrbook_Group.calls _ _ _ _ _ (hM.front (Ms := [])) H667) ?_)
          clear hA; rintro _ w668 ⟨rfl, hMc⟩ a hA
          have hE := hMc.below; have hM := hM.call (Ms := []) hMc
          clear hMc; simp only [List.cons_append, List.nil_append] at hM
          refine L1 (stv hA (by decide) (run_bin (hA.ev rfl) (hA.ev rfl) (bin_rem _ _ _ _ (by decide))) ?_)
          clear hA; intro a hA
          refine L1 (stv hA (by decide) (run_move (hA.ev rfl)) ?_)
          clear hA; intro a hA
          refine L1 (stv hA (by decide) (run_bin (hA.ev rfl) (hA.ev rfl) (bin_rem _ _ _ _ (by decide))) ?_)
          clear hA; intro a hA
          refine L1 (stv hA (by decide) (run_bin (hA.ev rfl) (hA.ev rfl) (bin_eql _ _ _ _)) ?_)
          clear hA; intro a hA
          refine LQ ?_
          refine TN ?_
          obtain ⟨o681, H680, H631⟩ := Option.bind_eq_some_iff.1 H631
          refine cutC (fun a w => ∃ (has675 : Int), has675 = o681 ∧ Mem F w0 w [.box g375 41 (List.flatten [pHash.enc r364.1.Salt, [(.slice A370 r364.1.Heard.length c371)], [(.slice A373 r364.1.Tried.length c374)]]), .row 70 pPlace.sz (.slice A370 r364.1.Heard.length c371) (pPlace.flat r364.1.Heard), .row 70 pPlace.sz (.slice A373 r364.1.Tried.length c374) (pPlace.flat r364.1.Tried), .row 46 pNAddr.sz (.slice A384 r379.length c385) (pNAddr.flat r379), .box g639 53 (pLink.enc r636.1)] ∧ Has 81 [(1, (.int .u64 first_1)), (2, (.int .u32 evil_2)), (8, (.pointer (some (⟨g375, 0, none⟩)))), (9, (.slice A384 r379.length c385)), (10, (.int .i64 has675)), (11, (.int .i64 got621)), (13, (.pointer (some (⟨g639, 0, none⟩)))), (24, (.int .i64 ((r379.length : Nat) : Int))), (25, (.int .i64 t624))] a) ?_ ?_
          · refine tcond (b := ((r666.tmod 3) == (evil_2.tmod 3))) hA rfl (fun hb682 => ?_) (fun hb682 => ?_)
            · replace H680 := ite_t hb682 H680
              refine wp_region_lit ?_
              refine L1 (stv hA (by decide) (run_move (hA.ev rfl)) ?_)
              clear hA; intro a hA
              refine L1 (stv hA (by decide) (run_bin (hA.ev rfl) (hA.ev rfl) (bin_add _ _ _ _)) ?_)
              clear hA; intro a hA
              refine L1 (stv hA (by decide) (run_assign (hA.ev rfl)) ?_)
              clear hA; intro a hA
              refine LQ ?_
              exact ⟨IntKind.i64.wrap (has619 + 1), Option.some.inj H680, hM, (((((((((hA.nil.cons (hA.get 25 _ rfl)).cons (hA.get 24 _ rfl)).cons (hA.get 13 _ rfl)).cons (hA.get 11 _ rfl)).cons (hA.get 10 _ rfl)).cons (hA.get 9 _ rfl)).cons (hA.get 8 _ rfl)).cons (hA.get 2 _ rfl)).cons (hA.get 1 _ rfl))⟩
            · replace H680 := ite_f hb682 H680
              refine wp_skip ?_
              exact ⟨has619, Option.some.inj H680, hM, (((((((((hA.nil.cons (hA.get 25 _ rfl)).cons (hA.get 24 _ rfl)).cons (hA.get 13 _ rfl)).cons (hA.get 11 _ rfl)).cons (hA.get 10 _ rfl)).cons (hA.get 9 _ rfl)).cons (hA.get 8 _ rfl)).cons (hA.get 2 _ rfl)).cons (hA.get 1 _ rfl))⟩
          clear hM hA
          rintro a w683 ⟨has675, rfl, hM, hA⟩
          try dsimp only at H631
          refine TN ?_
          refine wp_seq ?_
          refine wp_region_lit ?_
          refine L1 (stv hA (by decide) (run_field' Try.underlying53 rfl rfl Try.sizeOf46 (by decide) (hA.ev rfl)) ?_)
          clear hA; intro a hA
          refine L1 (stv hA (by decide) (run_ld (hA.ev rfl) (run_loadP Try.isAgg46 Try.sizeOf46 (Link.at_Addr_ (hM.box (.s (.s (.s (.s .z)))))))) ?_)
          clear hA; intro a hA
          obtain ⟨r684, H685, H631⟩ := Option.bind_eq_some_iff.1 H631
          refine L1 (st_call Try.call24 hA [(.agg (pNAddr.enc r636.1.Addr_).toArray)] rfl (by decide) (addrbook_Group.calls _ _ _ _ _ (hM.front (Ms := [])) H685) ?_)
          clear hA; rintro _ w686 ⟨rfl, hMc⟩ a hA
          have hE := hMc.below; have hM := hM.call (Ms := []) hMc
          clear hMc; simp only [List.cons_append, List.nil_append] at hM
          refine L1 (stv hA (by decide) (run_bin (hA.ev rfl) (hA.ev rfl) (bin_rem _ _ _ _ (by decide))) ?_)
          clear hA; intro a hA
          refine L1 (stv hA (by decide) (run_move (hA.ev rfl)) ?_)
          clear hA; intro a hA
          refine L1 (stv hA (by decide) (run_bin (hA.ev rfl) (hA.ev rfl) (bin_rem _ _ _ _ (by decide))) ?_)
          clear hA; intro a hA
          refine L1 (stv hA (by decide) (run_bin (hA.ev rfl) (hA.ev rfl) (bin_eql _ _ _ _)) ?_)
          clear hA; intro a hA
          refine LQ ?_
          refine TN ?_
          obtain ⟨o698, H697, H631⟩ := Option.bind_eq_some_iff.1 H631
          refine cutC (fun a w => ∃ (got694 : Int), got694 = o698 ∧ Mem F w0 w [.box g375 41 (List.flatten [pHash.enc r364.1.Salt, [(.slice A370 r364.1.Heard.length c371)], [(.slice A373 r364.1.Tried.length c374)]]), .row 70 pPlace.sz (.slice A370 r364.1.Heard.length c371) (pPlace.flat r364.1.Heard), .row 70 pPlace.sz (.slice A373 r364.1.Tried.length c374) (pPlace.flat r364.1.Tried), .row 46 pNAddr.sz (.slice A384 r379.length c385) (pNAddr.flat r379)] ∧ Has 81 [(1, (.int .u64 first_1)), (2, (.int .u32 evil_2)), (8, (.pointer (some (⟨g375, 0, none⟩)))), (9, (.slice A384 r379.length c385)), (10, (.int .i64 has675)), (11, (.int .i64 got694)), (24, (.int .i64 ((r379.length : Nat) : Int))), (25, (.int .i64 t624))] a) ?_ ?_
          · refine tcond (b := ((r684.tmod 3) == (evil_2.tmod 3))) hA rfl (fun hb699 => ?_) (fun hb699 => ?_)
            · replace H697 := ite_t hb699 H697
              refine wp_region_lit ?_
              refine L1 (stv hA (by decide) (run_move (hA.ev rfl)) ?_)
              clear hA; intro a hA
              refine L1 (stv hA (by decide) (run_bin (hA.ev rfl) (hA.ev rfl) (bin_add _ _ _ _)) ?_)
              clear hA; intro a hA
              refine L1 (stv hA (by decide) (run_assign (hA.ev rfl)) ?_)
              clear hA; intro a hA
              refine LQ ?_
              exact ⟨IntKind.i64.wrap (got621 + 1), Option.some.inj H697, (hM.sel [0, 1, 2, 3] rfl (by decide)), ((((((((hA.nil.cons (hA.get 25 _ rfl)).cons (hA.get 24 _ rfl)).cons (hA.get 11 _ rfl)).cons (hA.get 10 _ rfl)).cons (hA.get 9 _ rfl)).cons (hA.get 8 _ rfl)).cons (hA.get 2 _ rfl)).cons (hA.get 1 _ rfl))⟩
            · replace H697 := ite_f hb699 H697
              refine wp_skip ?_
              exact ⟨got621, Option.some.inj H697, (hM.sel [0, 1, 2, 3] rfl (by decide)), ((((((((hA.nil.cons (hA.get 25 _ rfl)).cons (hA.get 24 _ rfl)).cons (hA.get 11 _ rfl)).cons (hA.get 10 _ rfl)).cons (hA.get 9 _ rfl)).cons (hA.get 8 _ rfl)).cons (hA.get 2 _ rfl)).cons (hA.get 1 _ rfl))⟩
          clear hM hA
          rintro a w700 ⟨got694, rfl, hM, hA⟩
          try dsimp only at H631
          refine BN ?_
          refine TN ?_
          refine wp_region_lit ?_
          refine L1 (stv hA (by decide) (run_bin (hA.ev rfl) (hA.ev rfl) (bin_add _ _ _ _)) ?_)
          clear hA; intro a hA
          refine L1 (stv hA (by decide) (run_move (hA.ev rfl)) ?_)
          clear hA; intro a hA
          refine LQ ?_
          exact ⟨_, Nat.lt_succ_self m633, has675, got694, IntKind.i64.wrap (t624 + 1), H631, hM, ((((((((hA.nil.cons (hA.get 25 _ rfl)).cons (hA.get 24 _ rfl)).cons (hA.get 11 _ rfl)).cons (hA.get 10 _ rfl)).cons (hA.get 9 _ rfl)).cons (hA.get 8 _ rfl)).cons (hA.get 2 _ rfl)).cons (hA.get 1 _ rfl))⟩
      · replace H631 := ite_f hb635 H631
        refine wp_exit ?_
        refine TX ?_
        refine TX ?_
        refine BX ?_
        exact ⟨has619, got621, Option.some.inj H631, hM, ((((hA.nil.cons (hA.get 11 _ rfl)).cons (hA.get 10 _ rfl)).cons (hA.get 9 _ rfl)).cons (hA.get 8 _ rfl))⟩
    clear hM hA
    rintro a w701 ⟨has628, got630, rfl, hM, hA⟩
    try dsimp only at H
    refine TN ?_
    refine wp_seq ?_
    obtain ⟨o706, H705, H⟩ := Option.bind_eq_some_iff.1 H
    refine cutC (fun a w => ∃ (t704 : Bool), t704 = o706 ∧ Mem F w0 w [] ∧ Has 81 [(6, (.bool t704))] a) ?_ ?_
    · refine wp_region_lit ?_
      refine L1 (stv hA (by decide) (run_move (hA.ev rfl)) ?_)
      clear hA; intro a hA
      refine L1 (stv hA (by decide) (run_move (hA.ev rfl)) ?_)
      clear hA; intro a hA
      refine L1 (stv hA (by decide) (run_bin (hA.ev rfl) (hA.ev rfl) (bin_eql _ _ _ _)) ?_)
      clear hA; intro a hA
      refine L1 (stv hA (by decide) (run_move (hA.ev rfl)) ?_)
      clear hA; intro a hA
      refine bsplit (b := (has628 == got630)) (fun hb707 => ?_) (fun hb707 => ?_)
      · replace H705 := ite_t hb707 H705
        have hA := hA.re (t := 69) rfl (congrArg Value.bool hb707)
        refine L1 (gate_on rfl rfl hA (by decide) rfl (stv hA (by decide) (run_move (hA.ev rfl)) ?_))
        clear hA; intro a hA
        refine L1 (gate_on rfl rfl hA (by decide) rfl (stv hA (by decide) (run_len_slice Try.underlying48 (hA.ev rfl)) ?_))
        clear hA; intro a hA
        refine L1 (gate_on rfl rfl hA (by decide) rfl (stv hA (by decide) (run_field' Try.underlying41 rfl rfl Try.sizeOf39 (by decide) (hA.ev rfl)) ?_))
        clear hA; intro a hA
        refine L1 (gate_on rfl rfl hA (by decide) rfl (stv hA (by decide) (run_ld (hA.ev rfl) (run_loadS Try.isAgg39 (At.seg (segs := [pHash.enc r364.1.Salt, [(.slice A370 r364.1.Heard.length c371)], [(.slice A373 r364.1.Tried.length c374)]]) (hM.box .z) 1 rfl (by simp [Pl.len]; try rfl)))) ?_))
        clear hA; intro a hA
        refine L1 (gate_on rfl rfl hA (by decide) rfl (stv hA (by decide) (run_len_slice Try.underlying39 (hA.ev rfl)) ?_))
        clear hA; intro a hA
        refine L1 (gate_on rfl rfl hA (by decide) rfl (stv hA (by decide) (run_field' Try.underlying41 rfl rfl Try.sizeOf39 (by decide) (hA.ev rfl)) ?_))
        clear hA; intro a hA
        refine L1 (gate_on rfl rfl hA (by decide) rfl (stv hA (by decide) (run_ld (hA.ev rfl) (run_loadS Try.isAgg39 (At.seg (segs := [pHash.enc r364.1.Salt, [(.slice A370 r364.1.Heard.length c371)], [(.slice A373 r364.1.Tried.length c374)]]) (hM.box .z) 2 rfl (by simp [Pl.len]; try rfl)))) ?_))
        clear hA; intro a hA
        refine L1 (gate_on rfl rfl hA (by decide) rfl (stv hA (by decide) (run_len_slice Try.underlying39 (hA.ev rfl)) ?_))
        clear hA; intro a hA
        refine L1 (gate_on rfl rfl hA (by decide) rfl (stv hA (by decide) (run_bin (hA.ev rfl) (hA.ev rfl) (bin_add _ _ _ _)) ?_))
        clear hA; intro a hA
        refine L1 (gate_on rfl rfl hA (by decide) rfl (stv hA (by decide) (run_bin (hA.ev rfl) (hA.ev rfl) (bin_eql _ _ _ _)) ?_))
        clear hA; intro a hA
        refine L1 (stv hA (by decide) (run_pick (hA.ev rfl) (fun _ => hA.ev rfl) (fun h => Bool.noConfusion h)) ?_)
        clear hA; intro a hA
        refine L1 (stv hA (by decide) (run_assign (hA.ev rfl)) ?_)
        clear hA; intro a hA
        refine LQ ?_
        exact ⟨(((r379.length : Nat) : Int) == (IntKind.i64.wrap (((r364.1.Heard.length : Nat) : Int) + ((r364.1.Tried.length : Nat) : Int)))), Option.some.inj H705, (hM.sel [] rfl (by decide)), (hA.nil.cons (hA.get 6 _ rfl))⟩
      · replace H705 := ite_f hb707 H705
        have hA := hA.re (t := 69) rfl (congrArg Value.bool hb707)
        refine L1 (gate_off rfl (by decide) rfl hA (by decide) rfl rfl ?_); clear hA; intro a hA
        refine L1 (gate_off rfl (by decide) rfl hA (by decide) rfl rfl ?_); clear hA; intro a hA
        refine L1 (gate_off rfl (by decide) rfl hA (by decide) rfl rfl ?_); clear hA; intro a hA
        refine L1 (gate_off rfl (by decide) rfl hA (by decide) rfl rfl ?_); clear hA; intro a hA
        refine L1 (gate_off rfl (by decide) rfl hA (by decide) rfl rfl ?_); clear hA; intro a hA
        refine L1 (gate_off rfl (by decide) rfl hA (by decide) rfl rfl ?_); clear hA; intro a hA
        refine L1 (gate_off rfl (by decide) rfl hA (by decide) rfl rfl ?_); clear hA; intro a hA
        refine L1 (gate_off rfl (by decide) rfl hA (by decide) rfl rfl ?_); clear hA; intro a hA
        refine L1 (gate_off rfl (by decide) rfl hA (by decide) rfl rfl ?_); clear hA; intro a hA
        refine L1 (gate_off rfl (by decide) rfl hA (by decide) rfl rfl ?_); clear hA; intro a hA
        refine L1 (stv hA (by decide) (run_pick (hA.ev rfl) (fun h => Bool.noConfusion h) (fun _ => hA.ev rfl)) ?_)
        clear hA; intro a hA
        refine L1 (stv hA (by decide) (run_assign (hA.ev rfl)) ?_)
        clear hA; intro a hA
        refine LQ ?_
        exact ⟨false, Option.some.inj H705, (hM.sel [] rfl (by decide)), (hA.nil.cons (hA.get 6 _ rfl))⟩
    clear hM hA
    rintro a w708 ⟨t704, rfl, hM, hA⟩
    try dsimp only at H
    refine TN ?_
    refine wp_ret ?_
    obtain rfl := Option.some.inj H
    exact ret_post1 (fn := Try.f8) hA rfl rfl ⟨_, rfl, rfl, hM⟩

end Go.Proofs.Ytoogcdmdbogkeaa.G
