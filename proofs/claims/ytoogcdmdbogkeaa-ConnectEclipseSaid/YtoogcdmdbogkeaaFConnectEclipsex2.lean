/- The functions that a law of this seat reaches: what each comes to, as a plain function, and that its code comes to it. Conditions: the plain function gives a value (enough fuel, no panic). -/
import Derived.Test.YtoogcdmdbogkeaaFConnectEclipsex1
set_option linter.unusedVariables false
set_option linter.unusedSimpArgs false
namespace Go.Proofs.Ytoogcdmdbogkeaa.G
open Go Go.RowKit Go.Proofs
def mill_Hash.f (k : Nat) (d_0 : lightclientmill_Deck) : Option ((Vector Int 32) × lightclientmill_Deck) := ((mill_Deck_Next.f k (lightclientmill_Deck.mk d_0.L d_0.At_) 5).bind fun r14 => ((mill_Deck_Next.f k (lightclientmill_Deck.mk d_0.L r14.2.At_) 7).bind fun r17 => (some (((((Vector.replicate 32 0 : Vector Int 32).setIfInBounds 0 (IntKind.u8.wrap r14.1)).setIfInBounds 31 (IntKind.u8.wrap r17.1))), (lightclientmill_Deck.mk d_0.L r17.2.At_)))))
set_option maxHeartbeats 2000000 in
set_option maxRecDepth 100000 in
theorem mill_Hash.calls (k : Nat) (d_0 : lightclientmill_Deck) (F : List (Option Nat)) (g0 : Nat) (v0_0 : Value) (r : ((Vector Int 32) × lightclientmill_Deck)) (w0 : World) (h0_0 : RoV F (Pl.int .i64) w0 v0_0 d_0.L) (hM : Mem F w0 w0 [.box g0 91 [v0_0, (.int .i64 d_0.At_)]]) (H : mill_Hash.f k d_0 = some r) :
    Calls Try.prog 46 #[(.pointer (some (⟨g0, 0, none⟩)))] w0 fun e w' => ∃ v, e = .returned v ∧ v = (.agg (pHash.enc r.1).toArray) ∧ Mem F w0 w' [.box g0 91 [v0_0, (.int .i64 r.2.At_)]] := by
  unfold mill_Hash.f at H
  obtain ⟨A0_0, c0_0, rfl, hr0_0, hc0_0⟩ := h0_0
  refine enterL (n := 10) [(.pointer (some (⟨g0, 0, none⟩)))] Try.func46 rfl rfl rfl ?_
  intro a hA
  refine wp_seq ?_
  refine wp_region_lit ?_
  refine L1 (e_alloc (cs := (pHash.enc (Vector.replicate 32 0 : Vector Int 32))) hM zero33 rfl hA (by decide) ?_)
  clear hM hA; intro w12 g11 hM hE  a hA
  refine LQ ?_
  refine TN ?_
  refine wp_seq ?_
  refine wp_region_lit ?_
  refine L1 (stv hA (by decide) (run_move (hA.ev rfl)) ?_)
  clear hA; intro a hA
  have hM := hM.sel [1, 0] rfl (by decide)
  obtain ⟨r14, H15, H⟩ := Option.bind_eq_some_iff.1 H
  refine L1 (st_call Try.call35 hA [(.pointer (some (⟨g0, 0, none⟩))), (.int .i64 5)] rfl (by decide) (mill_Deck_Next.calls _ (lightclientmill_Deck.mk d_0.L d_0.At_) _ _ _ _ _ _ ((RoV.mk (hM.roC (Ms := [_]) hr0_0) (Eq.refl d_0.L.length) hc0_0)) (hM.front (Ms := [_])) H15) ?_)
  clear hA; rintro _ w16 ⟨rfl, hMc⟩ a hA
  have hM := hM.call (Ms := [_]) hMc
  clear hMc; simp only [List.cons_append, List.nil_append] at hM
  refine L1 (stv hA (by decide) (run_conv Try.underlying3 Try.underlying5 (hA.ev rfl)) ?_)
  clear hA; intro a hA
  refine L1 (stv hA (by decide) (run_move (hA.ev rfl)) ?_)
  clear hA; intro a hA
  obtain ⟨r17, H18, H⟩ := Option.bind_eq_some_iff.1 H
  refine L1 (st_call Try.call35 hA [(.pointer (some (⟨g0, 0, none⟩))), (.int .i64 7)] rfl (by decide) (mill_Deck_Next.calls _ (lightclientmill_Deck.mk d_0.L r14.2.At_) _ _ _ _ _ _ ((RoV.mk (hM.roC (Ms := [_]) hr0_0) (Eq.refl d_0.L.length) hc0_0)) (hM.front (Ms := [_])) H18) ?_)
  clear hA; rintro _ w19 ⟨rfl, hMc⟩ a hA
  have hM := hM.call (Ms := [_]) hMc
  clear hMc; simp only [List.cons_append, List.nil_append] at hM
  refine L1 (stv hA (by decide) (run_conv Try.underlying3 Try.underlying5 (hA.ev rfl)) ?_)
  clear hA; intro a hA
  refine L1 (stv hA (by decide) (run_build_arr [(0, (.int .u8 (IntKind.u8.wrap r14.1))), (31, (.int .u8 (IntKind.u8.wrap r17.1)))] zero33 Try.underlying33 Try.sizeOf5 hA rfl (fill_step rfl rfl (enc_fit _ _ rfl) (arr_eq (vec_spl' _ _ _ (by decide))) (fill_step rfl rfl (enc_fit _ _ rfl) (arr_eq (vec_spl' _ _ _ (by decide))) (fill_nil)))) ?_)
  clear hA; intro a hA
  refine L1 (e_store (g := g11) (off := 0) (cur := (pHash.enc (Vector.replicate 32 0 : Vector Int 32))) (cs' := (pHash.enc ((((Vector.replicate 32 0 : Vector Int 32).setIfInBounds 0 (IntKind.u8.wrap r14.1)).setIfInBounds 31 (IntKind.u8.wrap r17.1))))) hM (.s .z) Try.sizeOf33 hA rfl (by simp [add_mk]) rfl (agg_size _ _) (agg_one _ _) (Nat.le_of_ble_eq_true (enc_fitL _ _ rfl)) (spl_all (by first | rfl | (simp [Value.cells, Pl.len]; done) | (simp [Value.cells, Pl.len]; rfl))) ?_)
  clear hM hA; intro w20  hM hE  a hA
  refine LQ ?_
  refine TN ?_
  refine wp_ret ?_
  obtain rfl := Option.some.inj H
  exact ret_cell (fn := Try.f46) hA rfl rfl (run_loadP Try.isAgg33 Try.sizeOf33 (hM.box (.s .z))) ⟨_, rfl, rfl, (hM.sel [0] rfl (by decide))⟩

def ref38_same.f (k : Nat) (a_0 : NAddr) (b_1 : NAddr) : Option Bool := (Option.bind (α := Bool) (if (a_0.Host == b_1.Host) = true then (some (a_0.Port == b_1.Port)) else (some false)) (fun t22 => (some t22)))
set_option maxHeartbeats 2000000 in
set_option maxRecDepth 100000 in
theorem ref38_same.calls (k : Nat) (a_0 : NAddr) (b_1 : NAddr) (F : List (Option Nat)) (r : Bool) (w0 : World) (hM : Mem F w0 w0 []) (H : ref38_same.f k a_0 b_1 = some r) :
    Calls Try.prog 92 #[(.agg (pNAddr.enc a_0).toArray), (.agg (pNAddr.enc b_1).toArray)] w0 fun e w' => ∃ v, e = .returned v ∧ v = (.bool r) ∧ Mem F w0 w' [] := by
  unfold ref38_same.f at H
  refine enterL (n := 17) [(.agg (pNAddr.enc a_0).toArray), (.agg (pNAddr.enc b_1).toArray)] Try.func92 rfl rfl rfl ?_
  intro a hA
  refine wp_seq ?_
  refine wp_region_lit ?_
  refine L1 (e_box (cs := (pNAddr.enc a_0)) hM hA rfl rfl (by decide) ?_)
  clear hM hA; intro w15 g14 hM hE  a hA
  refine L1 (e_box (cs := (pNAddr.enc b_1)) hM hA rfl rfl (by decide) ?_)
  clear hM hA; intro w18 g17 hM hE  a hA
  refine L1 (stv hA (by decide) (run_assign (hA.ev rfl)) ?_)
  clear hA; intro a hA
  refine LQ ?_
  refine TN ?_
  refine wp_seq ?_
  obtain ⟨o24, H23, H⟩ := Option.bind_eq_some_iff.1 H
  refine cutC (fun a w => ∃ (t22 : Bool), t22 = o24 ∧ Mem F w0 w [] ∧ Has 17 [(4, (.bool t22))] a) ?_ ?_
  · refine wp_region_lit ?_
    refine L1 (stv hA (by decide) (run_field' Try.underlying46 rfl rfl Try.sizeOf43 (by decide) (hA.ev rfl)) ?_)
    clear hA; intro a hA
    refine L1 (stv hA (by decide) (run_ld (hA.ev rfl) (run_loadS Try.isAgg43 (NAddr.at_Host (hM.box (.s .z))))) ?_)
    clear hA; intro a hA
    refine L1 (stv hA (by decide) (run_field' Try.underlying46 rfl rfl Try.sizeOf43 (by decide) (hA.ev rfl)) ?_)
    clear hA; intro a hA
    refine L1 (stv hA (by decide) (run_ld (hA.ev rfl) (run_loadS Try.isAgg43 (NAddr.at_Host (hM.box .z)))) ?_)
    clear hA; intro a hA
    refine L1 (stv hA (by decide) (run_bin (hA.ev rfl) (hA.ev rfl) (bin_eql _ _ _ _)) ?_)
    clear hA; intro a hA
    refine L1 (stv hA (by decide) (run_move (hA.ev rfl)) ?_)
    clear hA; intro a hA
    refine bsplit (b := (a_0.Host == b_1.Host)) (fun hb25 => ?_) (fun hb25 => ?_)
    · replace H23 := ite_t hb25 H23
      have hA := hA.re (t := 10) rfl (congrArg Value.bool hb25)
      refine L1 (gate_on rfl rfl hA (by decide) rfl (stv hA (by decide) (run_field' Try.underlying46 rfl rfl Try.sizeOf44 (by decide) (hA.ev rfl)) ?_))
      clear hA; intro a hA
      refine L1 (gate_on rfl rfl hA (by decide) rfl (stv hA (by decide) (run_ld (hA.ev rfl) (run_loadS Try.isAgg44 (NAddr.at_Port (hM.box (.s .z))))) ?_))
      clear hA; intro a hA
      refine L1 (gate_on rfl rfl hA (by decide) rfl (stv hA (by decide) (run_field' Try.underlying46 rfl rfl Try.sizeOf44 (by decide) (hA.ev rfl)) ?_))
      clear hA; intro a hA
      refine L1 (gate_on rfl rfl hA (by decide) rfl (stv hA (by decide) (run_ld (hA.ev rfl) (run_loadS Try.isAgg44 (NAddr.at_Port (hM.box .z)))) ?_))
      clear hA; intro a hA
      refine L1 (gate_on rfl rfl hA (by decide) rfl (stv hA (by decide) (run_bin (hA.ev rfl) (hA.ev rfl) (bin_eql _ _ _ _)) ?_))
      clear hA; intro a hA
      refine L1 (stv hA (by decide) (run_pick (hA.ev rfl) (fun _ => hA.ev rfl) (fun h => Bool.noConfusion h)) ?_)
      clear hA; intro a hA
      refine L1 (stv hA (by decide) (run_assign (hA.ev rfl)) ?_)
      clear hA; intro a hA
      refine LQ ?_
      exact ⟨(a_0.Port == b_1.Port), Option.some.inj H23, (hM.sel [] rfl (by decide)), (hA.nil.cons (hA.get 4 _ rfl))⟩
    · replace H23 := ite_f hb25 H23
      have hA := hA.re (t := 10) rfl (congrArg Value.bool hb25)
      refine L1 (gate_off rfl (by decide) rfl hA (by decide) rfl rfl ?_); clear hA; intro a hA
      refine L1 (gate_off rfl (by decide) rfl hA (by decide) rfl rfl ?_); clear hA; intro a hA
      refine L1 (gate_off rfl (by decide) rfl hA (by decide) rfl rfl ?_); clear hA; intro a hA
      refine L1 (gate_off rfl (by decide) rfl hA (by decide) rfl rfl ?_); clear hA; intro a hA
      refine L1 (gate_off rfl (by decide) rfl hA (by decide) rfl rfl ?_); clear hA; intro a hA
      refine L1 (stv hA (by decide) (run_pick (hA.ev rfl) (fun h => Bool.noConfusion h) (fun _ => hA.ev rfl)) ?_)
      clear hA; intro a hA
      refine L1 (stv hA (by decide) (run_assign (hA.ev rfl)) ?_)
      clear hA; intro a hA
      refine LQ ?_
      exact ⟨false, Option.some.inj H23, (hM.sel [] rfl (by decide)), (hA.nil.cons (hA.get 4 _ rfl))⟩
  clear hM hA
  rintro a w26 ⟨t22, rfl, hM, hA⟩
  try dsimp only at H
  refine TN ?_
  refine wp_ret ?_
  obtain rfl := Option.some.inj H
  exact ret_post1 (fn := Try.f92) hA rfl rfl ⟨_, rfl, rfl, hM⟩

def ref38_find.l0 (l_0 : (List Place)) (a_1 : NAddr) : Nat → Int → Option (Out Int (Unit))
  | 0, _ => none
  | k + 1, i125 => (if (decide (i125 < ((l_0.length : Nat) : Int))) = true then (if 0 ≤ i125 ∧ i125 < ((l_0.length : Nat) : Int) then ((ref38_same.f k ((l_0.getD i125.toNat Place.z).Addr_) a_1).bind fun r138 => (if r138 = true then (some (.ret i125)) else (ref38_find.l0 l_0 a_1 k (IntKind.i64.wrap (i125 + 1))))) else none) else (some (.go ())))
def ref38_find.f (k : Nat) (l_0 : (List Place)) (a_1 : NAddr) : Option Int := (Option.bind (α := Out Int (Unit)) (ref38_find.l0 l_0 a_1 k 0) (fun o => match o with | .ret r => some r | .go _ => (some (-1))))
set_option maxHeartbeats 2000000 in
set_option maxRecDepth 100000 in
theorem ref38_find.calls (k : Nat) (l_0 : (List Place)) (a_1 : NAddr) (F : List (Option Nat)) (v0 : Value) (r : Int) (w0 : World) (h0 : RoV F pPlace w0 v0 l_0) (hM : Mem F w0 w0 []) (H : ref38_find.f k l_0 a_1 = some r) :
    Calls Try.prog 72 #[v0, (.agg (pNAddr.enc a_1).toArray)] w0 fun e w' => ∃ v, e = .returned v ∧ v = (.int .i64 r) ∧ Mem F w0 w' [] := by
  unfold ref38_find.f at H
  obtain ⟨A0, c0, rfl, hr0, hc0⟩ := h0
  refine enterL (n := 20) [(.slice A0 l_0.length c0), (.agg (pNAddr.enc a_1).toArray)] Try.func72 rfl rfl rfl ?_
  intro a hA
  refine wp_seq ?_
  refine wp_region_lit ?_
  refine L1 (e_box (cs := (pNAddr.enc a_1)) hM hA rfl rfl (by decide) ?_)
  clear hM hA; intro w73 g72 hM hE  a hA
  refine L1 (stv hA (by decide) (run_assign (hA.ev rfl)) ?_)
  clear hA; intro a hA
  refine LQ ?_
  refine TN ?_
  refine wp_seq ?_
  refine wp_seq ?_
  refine wp_region_lit ?_
  refine L1 (stv hA (by decide) (run_assign (hA.ev rfl)) ?_)
  clear hA; intro a hA
  refine LQ ?_
  refine TN ?_
  obtain ⟨o127, H126, H⟩ := Option.bind_eq_some_iff.1 H
  refine cutC (fun a w => (.go ()) = o127 ∧ Mem F w0 w [] ∧ Has 20 [] a) ?_ ?_
  · refine wp_block ?_
    refine wp_loop_ghost (fun m a w => ∃ (i125 : Int), ref38_find.l0 l_0 a_1 m i125 = some o127 ∧ Mem F w0 w [.box g72 46 (pNAddr.enc a_1)] ∧ Has 20 [(0, (.slice A0 l_0.length c0)), (3, (.pointer (some (⟨g72, 0, none⟩)))), (5, (.int .i64 i125))] a) k ⟨0, H126, hM, (((hA.nil.cons (hA.get 5 _ rfl)).cons (hA.get 3 _ rfl)).cons (hA.get 0 _ rfl))⟩ ?_
    clear hM hA; rintro m128 a w129 ⟨i125, H126, hM, hA⟩
    cases m128 with
    | zero => exact absurd H126 (by simp [ref38_find.l0])
    | succ m128 =>
    rw [ref38_find.l0] at H126
    refine wp_seq ?_
    refine wp_seq ?_
    refine wp_region_lit ?_
    refine L1 (stv hA (by decide) (run_move (hA.ev rfl)) ?_)
    clear hA; intro a hA
    refine L1 (stv hA (by decide) (run_move (hA.ev rfl)) ?_)
    clear hA; intro a hA
    refine L1 (stv hA (by decide) (run_len_slice Try.underlying39 (hA.ev rfl)) ?_)
    clear hA; intro a hA
    refine L1 (stv hA (by decide) (run_bin (hA.ev rfl) (hA.ev rfl) (bin_lss _ _ _ _)) ?_)
    clear hA; intro a hA
    refine LQ ?_
    refine TN ?_
    refine tcond (b := (decide (i125 < ((l_0.length : Nat) : Int)))) hA rfl (fun hb130 => ?_) (fun hb130 => ?_)
    · replace H126 := ite_t hb130 H126
      refine wp_skip ?_
      refine TN ?_
      refine wp_seq ?_
      refine wp_block ?_
      refine wp_seq ?_
      refine draw (fun w' => Below w129.heap.size w129 w') [] rfl ?_
      intro w131 hw hS; replace hM := hM.ext hS; clear hw
      refine d_takef (i := 0) (L' := #[tT,fF,fF,fF,fF,fF,fF]) rfl (by kernel_rfl) rfl (fun _ _ _ h => h) hA (by decide) (fun _ => hS) (fun a w' hA => run_move (hA.ev rfl)) ?_; clear hA; intro a hA
      refine d_takef (i := 1) (L' := #[tT,tT,fF,fF,fF,fF,fF]) rfl (by kernel_rfl) rfl (fun _ _ _ h => h) hA (by decide) (fun _ => hS) (fun a w' hA => run_move (hA.ev rfl)) ?_; clear hA; intro a hA
      obtain ⟨⟨hi133, hj134⟩, H126⟩ := ite_some H126
      obtain ⟨ad135, hq136, hat137⟩ := Row.elem' (p := pPlace) (hM.ro hr0) (Eq.refl l_0.length) Place.z i125 hi133 hj134
      refine d_takef (i := 2) (L' := #[tT,tT,tT,fF,fF,fF,fF]) rfl (by kernel_rfl) rfl (fun _ _ _ h => h) hA (by decide) (fun _ => hS) (fun a w' hA => run_idx Try.underlying39 Try.sizeOf70 (hA.ev rfl) hq136 (hA.ev rfl) hi133 hj134) ?_; clear hA; intro a hA
      refine d_takef (i := 3) (L' := #[tT,tT,tT,tT,fF,fF,fF]) rfl (by kernel_rfl) rfl (fun _ _ _ h => h) hA (by decide) (fun _ => hS) (fun a w' hA => run_field' Try.underlying70 rfl rfl Try.sizeOf46 (by decide) (hA.ev rfl)) ?_; clear hA; intro a hA
      refine rebase hS ?_; clear hS; intro hS
      refine d_take (i := 4) (L' := #[tT,tT,tT,tT,tT,fF,fF]) rfl (by kernel_rfl) rfl (fun _ _ _ h => h) hA (by decide) rfl hS (fun a w' hA hS' => run_ld (hA.ev rfl) (run_loadP Try.isAgg46 Try.sizeOf46 ((Place.at_Addr_ (hat137)).extB hS'))) ?_; clear hA; intro a hA
      refine d_take (i := 5) (L' := #[tT,tT,tT,tT,tT,tT,fF]) rfl (by kernel_rfl) rfl (fun _ _ _ h => h) hA (by decide) rfl hS (fun a w' hA hS' => run_ld (hA.ev rfl) (run_loadP Try.isAgg46 Try.sizeOf46 ((hM.box .z).extB hS'))) ?_; clear hA; intro a hA
      obtain ⟨r138, H139, H126⟩ := Option.bind_eq_some_iff.1 H126
      refine d_one (i := 6) (L' := #[tT,tT,tT,tT,tT,tT,tT]) (by kernel_rfl) rfl rfl (st_call Try.call92 hA [(.agg (pNAddr.enc ((l_0.getD i125.toNat Place.z).Addr_)).toArray), (.agg (pNAddr.enc a_1).toArray)] rfl (by decide) (ref38_same.calls _ _ _ _ _ _ (hM.front (Ms := [])) H139) ?_)
      clear hA; rintro _ w140 ⟨rfl, hMc⟩ a hA
      have hE := hMc.below; have hM := hM.call (Ms := []) hMc
      clear hMc; simp only [List.cons_append, List.nil_append] at hM
      replace hS := hS.trans (hE.mono hS.size)
      refine ⟨fun _ => hS, ?_⟩
      refine d_done (by kernel_rfl) ?_
      refine TN ?_
      refine tcond (b := r138) hA rfl (fun hb141 => ?_) (fun hb141 => ?_)
      · replace H126 := ite_t hb141 H126
        refine wp_seq ?_
        refine wp_region_lit ?_
        refine L1 (stv hA (by decide) (run_move (hA.ev rfl)) ?_)
        clear hA; intro a hA
        refine L1 (stv hA (by decide) (run_assign (hA.ev rfl)) ?_)
        clear hA; intro a hA
        refine LQ ?_
        refine TN ?_
        refine wp_ret ?_
        obtain rfl := Option.some.inj H126
        dsimp only at H
        obtain rfl := Option.some.inj H
        refine BR ?_
        refine TR ?_
        refine TR ?_
        refine BR ?_
        refine TR ?_
        refine TR ?_
        exact ret_post1 (fn := Try.f72) hA rfl rfl ⟨_, rfl, rfl, (hM.sel [] rfl (by decide))⟩
      · replace H126 := ite_f hb141 H126
        refine wp_skip ?_
        refine BN ?_
        refine TN ?_
        refine wp_region_lit ?_
        refine L1 (stv hA (by decide) (run_move (hA.ev rfl)) ?_)
        clear hA; intro a hA
        refine L1 (stv hA (by decide) (run_bin (hA.ev rfl) (hA.ev rfl) (bin_add _ _ _ _)) ?_)
        clear hA; intro a hA
        refine L1 (stv hA (by decide) (run_assign (hA.ev rfl)) ?_)
        clear hA; intro a hA
        refine LQ ?_
        exact ⟨_, Nat.lt_succ_self m128, IntKind.i64.wrap (i125 + 1), H126, hM, (((hA.nil.cons (hA.get 5 _ rfl)).cons (hA.get 3 _ rfl)).cons (hA.get 0 _ rfl))⟩
    · replace H126 := ite_f hb130 H126
      refine wp_exit ?_
      refine TX ?_
      refine TX ?_
      refine BX ?_
      exact ⟨Option.some.inj H126, (hM.sel [] rfl (by decide)), hA.nil⟩
  clear hM hA
  rintro a w142 ⟨rfl, hM, hA⟩
  try dsimp only at H
  refine TN ?_
  refine wp_seq ?_
  refine wp_region_lit ?_
  refine L1 (stv hA (by decide) (run_assign (hA.ev rfl)) ?_)
  clear hA; intro a hA
  refine LQ ?_
  refine TN ?_
  refine wp_ret ?_
  obtain rfl := Option.some.inj H
  exact ret_post1 (fn := Try.f72) hA rfl rfl ⟨_, rfl, rfl, hM⟩

def ref04_round.f (k : Nat) (v_0 : (Vector Int 4)) : Option (Vector Int 4) := (Option.bind (some (vs v_0 (0 : Int) (IntKind.u64.wrap ((vg v_0 (0 : Int)) + (vg v_0 (1 : Int)))))) fun x63 => ((bits_RotateLeft64.f k (vg x63 (1 : Int)) 13).bind fun r67 => ((bits_RotateLeft64.f k (vg (vs x63 (1 : Int) (ixor .u64 r67 (vg x63 (0 : Int)))) (0 : Int)) 32).bind fun r71 => (Option.bind (some (vs (vs x63 (1 : Int) (ixor .u64 r67 (vg x63 (0 : Int)))) (0 : Int) r71)) fun x75 => (Option.bind (some (vs x75 (2 : Int) (IntKind.u64.wrap ((vg x75 (2 : Int)) + (vg x75 (3 : Int)))))) fun x78 => ((bits_RotateLeft64.f k (vg x78 (3 : Int)) 16).bind fun r82 => (Option.bind (some (vs (vs x78 (3 : Int) (ixor .u64 r82 (vg x78 (2 : Int)))) (0 : Int) (IntKind.u64.wrap ((vg (vs x78 (3 : Int) (ixor .u64 r82 (vg x78 (2 : Int)))) (0 : Int)) + (vg (vs x78 (3 : Int) (ixor .u64 r82 (vg x78 (2 : Int)))) (3 : Int)))))) fun x87 => ((bits_RotateLeft64.f k (vg x87 (3 : Int)) 21).bind fun r91 => (Option.bind (some (vs (vs x87 (3 : Int) (ixor .u64 r91 (vg x87 (0 : Int)))) (2 : Int) (IntKind.u64.wrap ((vg (vs x87 (3 : Int) (ixor .u64 r91 (vg x87 (0 : Int)))) (2 : Int)) + (vg (vs x87 (3 : Int) (ixor .u64 r91 (vg x87 (0 : Int)))) (1 : Int)))))) fun x96 => ((bits_RotateLeft64.f k (vg x96 (1 : Int)) 17).bind fun r100 => ((bits_RotateLeft64.f k (vg (vs x96 (1 : Int) (ixor .u64 r100 (vg x96 (2 : Int)))) (2 : Int)) 32).bind fun r104 => (Option.bind (some (vs (vs x96 (1 : Int) (ixor .u64 r100 (vg x96 (2 : Int)))) (2 : Int) r104)) fun x108 => (some x108)))))))))))))
set_option maxHeartbeats 2000000 in
set_option maxRecDepth 100000 in
theorem ref04_round.calls (k : Nat) (v_0 : (Vector Int 4)) (F : List (Option Nat)) (r : (Vector Int 4)) (w0 : World) (hM : Mem F w0 w0 []) (H : ref04_round.f k v_0 = some r) :
    Calls Try.prog 43 #[(.agg (pA4u64.enc v_0).toArray)] w0 fun e w' => ∃ v, e = .returned v ∧ v = (.agg (pA4u64.enc r).toArray) ∧ Mem F w0 w' [] := by
  unfold ref04_round.f at H
  refine enterL (n := 64) [(.agg (pA4u64.enc v_0).toArray)] Try.func43 rfl rfl rfl ?_
  intro a hA
  refine wp_seq ?_
  refine wp_region_lit ?_
  refine L1 (e_box (cs := (pA4u64.enc v_0)) hM hA rfl rfl (by decide) ?_)
  clear hM hA; intro w57 g56 hM hE  a hA
  refine L1 (e_alloc (cs := (pA4u64.enc (Vector.replicate 4 0 : Vector Int 4))) hM zero83 rfl hA (by decide) ?_)
  clear hM hA; intro w60 g59 hM hE  a hA
  refine LQ ?_
  refine TN ?_
  refine wp_seq ?_
  refine wp_region_lit ?_
  refine L1 (stv hA (by decide) (run_idxarr Try.underlying83 Try.sizeOf22 (hA.ev rfl) (hA.ev rfl) (by decide) (by decide)) ?_)
  clear hA; intro a hA
  refine L1 (stv hA (by decide) (run_ld (hA.ev rfl) (run_loadS Try.isAgg22 (vec_at (hM.box (.s .z)) (by decide) (by decide)))) ?_)
  clear hA; intro a hA
  refine L1 (stv hA (by decide) (run_idxarr Try.underlying83 Try.sizeOf22 (hA.ev rfl) (hA.ev rfl) (by decide) (by decide)) ?_)
  clear hA; intro a hA
  refine L1 (stv hA (by decide) (run_ld (hA.ev rfl) (run_loadS Try.isAgg22 (vec_at (hM.box (.s .z)) (by decide) (by decide)))) ?_)
  clear hA; intro a hA
  refine L1 (stv hA (by decide) (run_bin (hA.ev rfl) (hA.ev rfl) (bin_add _ _ _ _)) ?_)
  clear hA; intro a hA
  refine L1 (stv hA (by decide) (run_idxarr Try.underlying83 Try.sizeOf22 (hA.ev rfl) (hA.ev rfl) (by decide) (by decide)) ?_)
  clear hA; intro a hA
  refine L1 (e_store (g := g56) (off := ((0 : Int).toNat * 1)) (cur := (pA4u64.enc v_0)) (cs' := (pA4u64.enc (vs v_0 (0 : Int) (IntKind.u64.wrap ((vg v_0 (0 : Int)) + (vg v_0 (1 : Int))))))) hM (.s .z) Try.sizeOf22 hA rfl (by simp [add_mk]) rfl (by first | rfl | (simp [Value.cells, Pl.len]; done) | (simp [Value.cells, Pl.len]; rfl)) (one_val rfl) (by rw [Pl.len]; decide) (vec_spl _ _ (by decide) (by decide)) ?_)
  clear hM hA; intro w62  hM hE  a hA
  obtain ⟨x63, hx64, H⟩ := Option.bind_eq_some_iff.1 H
  rw [Option.some.inj hx64] at hM
  refine LQ ?_
  refine TN ?_
  refine wp_seq ?_
  refine draw (fun w' => Below w62.heap.size w62 w') [7] rfl ?_
  intro w65 hw hS; replace hM := hM.ext hS; clear hw
  refine d_takef (i := 0) (L' := #[tT,fF,fF,fF,fF,fF,fF,fF]) rfl (by kernel_rfl) rfl (fun _ _ _ h => h) hA (by decide) (fun _ => hS) (fun a w' hA => run_idxarr Try.underlying83 Try.sizeOf22 (hA.ev rfl) (hA.ev rfl) (by decide) (by decide)) ?_; clear hA; intro a hA
  refine rebase hS ?_; clear hS; intro hS
  refine d_take (i := 1) (L' := #[tT,tT,fF,fF,fF,fF,fF,fF]) rfl (by kernel_rfl) rfl (fun _ _ _ h => h) hA (by decide) rfl hS (fun a w' hA hS' => run_ld (hA.ev rfl) (run_loadS Try.isAgg22 ((vec_at (hM.box (.s .z)) (by decide) (by decide)).extB hS'))) ?_; clear hA; intro a hA
  refine d_takef (i := 3) (L' := #[tT,tT,fF,tT,fF,fF,fF,fF]) rfl (by kernel_rfl) rfl (fun _ _ _ h => h) hA (by decide) (fun _ => hS) (fun a w' hA => run_idxarr Try.underlying83 Try.sizeOf22 (hA.ev rfl) (hA.ev rfl) (by decide) (by decide)) ?_; clear hA; intro a hA
  refine d_take (i := 4) (L' := #[tT,tT,fF,tT,tT,fF,fF,fF]) rfl (by kernel_rfl) rfl (fun _ _ _ h => h) hA (by decide) rfl hS (fun a w' hA hS' => run_ld (hA.ev rfl) (run_loadS Try.isAgg22 ((vec_at (hM.box (.s .z)) (by decide) (by decide)).extB hS'))) ?_; clear hA; intro a hA
  obtain ⟨r67, H68, H⟩ := Option.bind_eq_some_iff.1 H
  refine d_one (i := 2) (L' := #[tT,tT,tT,tT,tT,fF,fF,fF]) (by kernel_rfl) rfl rfl (st_call Try.call69 hA [(.int .u64 (vg x63 (1 : Int))), (.int .i64 13)] rfl (by decide) (bits_RotateLeft64.calls _ _ _ _ _ _ (hM.front (Ms := [])) H68) ?_)
  clear hA; rintro _ w69 ⟨rfl, hMc⟩ a hA
  have hE := hMc.below; have hM := hM.call (Ms := []) hMc
  clear hMc; simp only [List.cons_append, List.nil_append] at hM
  replace hS := hS.trans (hE.mono hS.size)
  refine ⟨fun _ => hS, ?_⟩
  refine d_takef (i := 5) (L' := #[tT,tT,tT,tT,tT,tT,fF,fF]) rfl (by kernel_rfl) rfl (fun _ _ _ h => h) hA (by decide) (fun _ => hS) (fun a w' hA => run_bin (hA.ev rfl) (hA.ev rfl) (bin_xor _ _ _ _)) ?_; clear hA; intro a hA
  refine d_takef (i := 6) (L' := #[tT,tT,tT,tT,tT,tT,tT,fF]) rfl (by kernel_rfl) rfl (fun _ _ _ h => h) hA (by decide) (fun _ => hS) (fun a w' hA => run_idxarr Try.underlying83 Try.sizeOf22 (hA.ev rfl) (hA.ev rfl) (by decide) (by decide)) ?_; clear hA; intro a hA
  refine d_one (i := 7) (L' := #[tT,tT,tT,tT,tT,tT,tT,tT]) (by kernel_rfl) rfl rfl (e_store (g := g56) (off := ((1 : Int).toNat * 1)) (cur := (pA4u64.enc x63)) (cs' := (pA4u64.enc (vs x63 (1 : Int) (ixor .u64 r67 (vg x63 (0 : Int)))))) hM (.s .z) Try.sizeOf22 hA rfl (by simp [add_mk]) rfl (by first | rfl | (simp [Value.cells, Pl.len]; done) | (simp [Value.cells, Pl.len]; rfl)) (one_val rfl) (by rw [Pl.len]; decide) (vec_spl _ _ (by decide) (by decide)) ?_)
  clear hM hA; intro w70  hM hE  a hA
  refine ⟨fun h => absurd h (by decide), ?_⟩
  refine d_done (by kernel_rfl) ?_
  refine TN ?_
  refine wp_seq ?_
  refine wp_region_lit ?_
  refine L1 (stv hA (by decide) (run_idxarr Try.underlying83 Try.sizeOf22 (hA.ev rfl) (hA.ev rfl) (by decide) (by decide)) ?_)
  clear hA; intro a hA
  refine L1 (stv hA (by decide) (run_ld (hA.ev rfl) (run_loadS Try.isAgg22 (vec_at (hM.box (.s .z)) (by decide) (by decide)))) ?_)
  clear hA; intro a hA
  obtain ⟨r71, H72, H⟩ := Option.bind_eq_some_iff.1 H
  refine L1 (st_call Try.call69 hA [(.int .u64 (vg (vs x63 (1 : Int) (ixor .u64 r67 (vg x63 (0 : Int)))) (0 : Int))), (.int .i64 32)] rfl (by decide) (bits_RotateLeft64.calls _ _ _ _ _ _ (hM.front (Ms := [])) H72) ?_)
  clear hA; rintro _ w73 ⟨rfl, hMc⟩ a hA
  have hE := hMc.below; have hM := hM.call (Ms := []) hMc
  clear hMc; simp only [List.cons_append, List.nil_append] at hM
  refine L1 (stv hA (by decide) (run_idxarr Try.underlying83 Try.sizeOf22 (hA.ev rfl) (hA.ev rfl) (by decide) (by decide)) ?_)
  clear hA; intro a hA
  refine L1 (e_store (g := g56) (off := ((0 : Int).toNat * 1)) (cur := (pA4u64.enc (vs x63 (1 : Int) (ixor .u64 r67 (vg x63 (0 : Int)))))) (cs' := (pA4u64.enc (vs (vs x63 (1 : Int) (ixor .u64 r67 (vg x63 (0 : Int)))) (0 : Int) r71))) hM (.s .z) Try.sizeOf22 hA rfl (by simp [add_mk]) rfl (by first | rfl | (simp [Value.cells, Pl.len]; done) | (simp [Value.cells, Pl.len]; rfl)) (one_val rfl) (by rw [Pl.len]; decide) (vec_spl _ _ (by decide) (by decide)) ?_)
  clear hM hA; intro w74  hM hE  a hA
  obtain ⟨x75, hx76, H⟩ := Option.bind_eq_some_iff.1 H
  rw [Option.some.inj hx76] at hM
  refine LQ ?_
  refine TN ?_
  refine wp_seq ?_
  refine wp_region_lit ?_
  refine L1 (stv hA (by decide) (run_idxarr Try.underlying83 Try.sizeOf22 (hA.ev rfl) (hA.ev rfl) (by decide) (by decide)) ?_)
  clear hA; intro a hA
  refine L1 (stv hA (by decide) (run_ld (hA.ev rfl) (run_loadS Try.isAgg22 (vec_at (hM.box (.s .z)) (by decide) (by decide)))) ?_)
  clear hA; intro a hA
  refine L1 (stv hA (by decide) (run_idxarr Try.underlying83 Try.sizeOf22 (hA.ev rfl) (hA.ev rfl) (by decide) (by decide)) ?_)
  clear hA; intro a hA
  refine L1 (stv hA (by decide) (run_ld (hA.ev rfl) (run_loadS Try.isAgg22 (vec_at (hM.box (.s .z)) (by decide) (by decide)))) ?_)
  clear hA; intro a hA
  refine L1 (stv hA (by decide) (run_bin (hA.ev rfl) (hA.ev rfl) (bin_add _ _ _ _)) ?_)
  clear hA; intro a hA
  refine L1 (stv hA (by decide) (run_idxarr Try.underlying83 Try.sizeOf22 (hA.ev rfl) (hA.ev rfl) (by decide) (by decide)) ?_)
  clear hA; intro a hA
  refine L1 (e_store (g := g56) (off := ((2 : Int).toNat * 1)) (cur := (pA4u64.enc x75)) (cs' := (pA4u64.enc (vs x75 (2 : Int) (IntKind.u64.wrap ((vg x75 (2 : Int)) + (vg x75 (3 : Int))))))) hM (.s .z) Try.sizeOf22 hA rfl (by simp [add_mk]) rfl (by first | rfl | (simp [Value.cells, Pl.len]; done) | (simp [Value.cells, Pl.len]; rfl)) (one_val rfl) (by rw [Pl.len]; decide) (vec_spl _ _ (by decide) (by decide)) ?_)
  clear hM hA; intro w77  hM hE  a hA
  obtain ⟨x78, hx79, H⟩ := Option.bind_eq_some_iff.1 H
  rw [Option.some.inj hx79] at hM
  refine LQ ?_
  refine TN ?_
  refine wp_seq ?_
  refine draw (fun w' => Below w77.heap.size w77 w') [7] rfl ?_
  intro w80 hw hS; replace hM := hM.ext hS; clear hw
  refine d_takef (i := 0) (L' := #[tT,fF,fF,fF,fF,fF,fF,fF]) rfl (by kernel_rfl) rfl (fun _ _ _ h => h) hA (by decide) (fun _ => hS) (fun a w' hA => run_idxarr Try.underlying83 Try.sizeOf22 (hA.ev rfl) (hA.ev rfl) (by decide) (by decide)) ?_; clear hA; intro a hA
  refine rebase hS ?_; clear hS; intro hS
  refine d_take (i := 1) (L' := #[tT,tT,fF,fF,fF,fF,fF,fF]) rfl (by kernel_rfl) rfl (fun _ _ _ h => h) hA (by decide) rfl hS (fun a w' hA hS' => run_ld (hA.ev rfl) (run_loadS Try.isAgg22 ((vec_at (hM.box (.s .z)) (by decide) (by decide)).extB hS'))) ?_; clear hA; intro a hA
  refine d_takef (i := 3) (L' := #[tT,tT,fF,tT,fF,fF,fF,fF]) rfl (by kernel_rfl) rfl (fun _ _ _ h => h) hA (by decide) (fun _ => hS) (fun a w' hA => run_idxarr Try.underlying83 Try.sizeOf22 (hA.ev rfl) (hA.ev rfl) (by decide) (by decide)) ?_; clear hA; intro a hA
  refine d_take (i := 4) (L' := #[tT,tT,fF,tT,tT,fF,fF,fF]) rfl (by kernel_rfl) rfl (fun _ _ _ h => h) hA (by decide) rfl hS (fun a w' hA hS' => run_ld (hA.ev rfl) (run_loadS Try.isAgg22 ((vec_at (hM.box (.s .z)) (by decide) (by decide)).extB hS'))) ?_; clear hA; intro a hA
  obtain ⟨r82, H83, H⟩ := Option.bind_eq_some_iff.1 H
  refine d_one (i := 2) (L' := #[tT,tT,tT,tT,tT,fF,fF,fF]) (by kernel_rfl) rfl rfl (st_call Try.call69 hA [(.int .u64 (vg x78 (3 : Int))), (.int .i64 16)] rfl (by decide) (bits_RotateLeft64.calls _ _ _ _ _ _ (hM.front (Ms := [])) H83) ?_)
  clear hA; rintro _ w84 ⟨rfl, hMc⟩ a hA
  have hE := hMc.below; have hM := hM.call (Ms := []) hMc
  clear hMc; simp only [List.cons_append, List.nil_append] at hM
  replace hS := hS.trans (hE.mono hS.size)
  refine ⟨fun _ => hS, ?_⟩
  refine d_takef (i := 5) (L' := #[tT,tT,tT,tT,tT,tT,fF,fF]) rfl (by kernel_rfl) rfl (fun _ _ _ h => h) hA (by decide) (fun _ => hS) (fun a w' hA => run_bin (hA.ev rfl) (hA.ev rfl) (bin_xor _ _ _ _)) ?_; clear hA; intro a hA
  refine d_takef (i := 6) (L' := #[tT,tT,tT,tT,tT,tT,tT,fF]) rfl (by kernel_rfl) rfl (fun _ _ _ h => h) hA (by decide) (fun _ => hS) (fun a w' hA => run_idxarr Try.underlying83 Try.sizeOf22 (hA.ev rfl) (hA.ev rfl) (by decide) (by decide)) ?_; clear hA; intro a hA
  refine d_one (i := 7) (L' := #[tT,tT,tT,tT,tT,tT,tT,tT]) (by kernel_rfl) rfl rfl (e_store (g := g56) (off := ((3 : Int).toNat * 1)) (cur := (pA4u64.enc x78)) (cs' := (pA4u64.enc (vs x78 (3 : Int) (ixor .u64 r82 (vg x78 (2 : Int)))))) hM (.s .z) Try.sizeOf22 hA rfl (by simp [add_mk]) rfl (by first | rfl | (simp [Value.cells, Pl.len]; done) | (simp [Value.cells, Pl.len]; rfl)) (one_val rfl) (by rw [Pl.len]; decide) (vec_spl _ _ (by decide) (by decide)) ?_)
  clear hM hA; intro w85  hM hE  a hA
  refine ⟨fun h => absurd h (by decide), ?_⟩
  refine d_done (by kernel_rfl) ?_
  refine TN ?_
  refine wp_seq ?_
  refine wp_region_lit ?_
  refine L1 (stv hA (by decide) (run_idxarr Try.underlying83 Try.sizeOf22 (hA.ev rfl) (hA.ev rfl) (by decide) (by decide)) ?_)
  clear hA; intro a hA
  refine L1 (stv hA (by decide) (run_ld (hA.ev rfl) (run_loadS Try.isAgg22 (vec_at (hM.box (.s .z)) (by decide) (by decide)))) ?_)
  clear hA; intro a hA
  refine L1 (stv hA (by decide) (run_idxarr Try.underlying83 Try.sizeOf22 (hA.ev rfl) (hA.ev rfl) (by decide) (by decide)) ?_)
  clear hA; intro a hA
  refine L1 (stv hA (by decide) (run_ld (hA.ev rfl) (run_loadS Try.isAgg22 (vec_at (hM.box (.s .z)) (by decide) (by decide)))) ?_)
  clear hA; intro a hA
  refine L1 (stv hA (by decide) (run_bin (hA.ev rfl) (hA.ev rfl) (bin_add _ _ _ _)) ?_)
  clear hA; intro a hA
  refine L1 (stv hA (by decide) (run_idxarr Try.underlying83 Try.sizeOf22 (hA.ev rfl) (hA.ev rfl) (by decide) (by decide)) ?_)
  clear hA; intro a hA
  refine L1 (e_store (g := g56) (off := ((0 : Int).toNat * 1)) (cur := (pA4u64.enc (vs x78 (3 : Int) (ixor .u64 r82 (vg x78 (2 : Int)))))) (cs' := (pA4u64.enc (vs (vs x78 (3 : Int) (ixor .u64 r82 (vg x78 (2 : Int)))) (0 : Int) (IntKind.u64.wrap ((vg (vs x78 (3 : Int) (ixor .u64 r82 (vg x78 (2 : Int)))) (0 : Int)) + (vg (vs x78 (3 : Int) (ixor .u64 r82 (vg x78 (2 : Int)))) (3 : Int))))))) hM (.s .z) Try.sizeOf22 hA rfl (by simp [add_mk]) rfl (by first | rfl | (simp [Value.cells, Pl.len]; done) | (simp [Value.cells, Pl.len]; rfl)) (one_val rfl) (by rw [Pl.len]; decide) (vec_spl _ _ (by decide) (by decide)) ?_)
  clear hM hA; intro w86  hM hE  a hA
  obtain ⟨x87, hx88, H⟩ := Option.bind_eq_some_iff.1 H
  rw [Option.some.inj hx88] at hM
  refine LQ ?_
  refine TN ?_
  refine wp_seq ?_
  refine draw (fun w' => Below w86.heap.size w86 w') [7] rfl ?_
  intro w89 hw hS; replace hM := hM.ext hS; clear hw
  refine d_takef (i := 0) (L' := #[tT,fF,fF,fF,fF,fF,fF,fF]) rfl (by kernel_rfl) rfl (fun _ _ _ h => h) hA (by decide) (fun _ => hS) (fun a w' hA => run_idxarr Try.underlying83 Try.sizeOf22 (hA.ev rfl) (hA.ev rfl) (by decide) (by decide)) ?_; clear hA; intro a hA
  refine rebase hS ?_; clear hS; intro hS
  refine d_take (i := 1) (L' := #[tT,tT,fF,fF,fF,fF,fF,fF]) rfl (by kernel_rfl) rfl (fun _ _ _ h => h) hA (by decide) rfl hS (fun a w' hA hS' => run_ld (hA.ev rfl) (run_loadS Try.isAgg22 ((vec_at (hM.box (.s .z)) (by decide) (by decide)).extB hS'))) ?_; clear hA; intro a hA
  refine d_takef (i := 3) (L' := #[tT,tT,fF,tT,fF,fF,fF,fF]) rfl (by kernel_rfl) rfl (fun _ _ _ h => h) hA (by decide) (fun _ => hS) (fun a w' hA => run_idxarr Try.underlying83 Try.sizeOf22 (hA.ev rfl) (hA.ev rfl) (by decide) (by decide)) ?_; clear hA; intro a hA
  refine d_take (i := 4) (L' := #[tT,tT,fF,tT,tT,fF,fF,fF]) rfl (by kernel_rfl) rfl (fun _ _ _ h => h) hA (by decide) rfl hS (fun a w' hA hS' => run_ld (hA.ev rfl) (run_loadS Try.isAgg22 ((vec_at (hM.box (.s .z)) (by decide) (by decide)).extB hS'))) ?_; clear hA; intro a hA
  obtain ⟨r91, H92, H⟩ := Option.bind_eq_some_iff.1 H
  refine d_one (i := 2) (L' := #[tT,tT,tT,tT,tT,fF,fF,fF]) (by kernel_rfl) rfl rfl (st_call Try.call69 hA [(.int .u64 (vg x87 (3 : Int))), (.int .i64 21)] rfl (by decide) (bits_RotateLeft64.calls _ _ _ _ _ _ (hM.front (Ms := [])) H92) ?_)
  clear hA; rintro _ w93 ⟨rfl, hMc⟩ a hA
  have hE := hMc.below; have hM := hM.call (Ms := []) hMc
  clear hMc; simp only [List.cons_append, List.nil_append] at hM
  replace hS := hS.trans (hE.mono hS.size)
  refine ⟨fun _ => hS, ?_⟩
  refine d_takef (i := 5) (L' := #[tT,tT,tT,tT,tT,tT,fF,fF]) rfl (by kernel_rfl) rfl (fun _ _ _ h => h) hA (by decide) (fun _ => hS) (fun a w' hA => run_bin (hA.ev rfl) (hA.ev rfl) (bin_xor _ _ _ _)) ?_; clear hA; intro a hA
  refine d_takef (i := 6) (L' := #[tT,tT,tT,tT,tT,tT,tT,fF]) rfl (by kernel_rfl) rfl (fun _ _ _ h => h) hA (by decide) (fun _ => hS) (fun a w' hA => run_idxarr Try.underlying83 Try.sizeOf22 (hA.ev rfl) (hA.ev rfl) (by decide) (by decide)) ?_; clear hA; intro a hA
  refine d_one (i := 7) (L' := #[tT,tT,tT,tT,tT,tT,tT,tT]) (by kernel_rfl) rfl rfl (e_store (g := g56) (off := ((3 : Int).toNat * 1)) (cur := (pA4u64.enc x87)) (cs' := (pA4u64.enc (vs x87 (3 : Int) (ixor .u64 r91 (vg x87 (0 : Int)))))) hM (.s .z) Try.sizeOf22 hA rfl (by simp [add_mk]) rfl (by first | rfl | (simp [Value.cells, Pl.len]; done) | (simp [Value.cells, Pl.len]; rfl)) (one_val rfl) (by rw [Pl.len]; decide) (vec_spl _ _ (by decide) (by decide)) ?_)
  clear hM hA; intro w94  hM hE  a hA
  refine ⟨fun h => absurd h (by decide), ?_⟩
  refine d_done (by kernel_rfl) ?_
  refine TN ?_
  refine wp_seq ?_
  refine wp_region_lit ?_
  refine L1 (stv hA (by decide) (run_idxarr Try.underlying83 Try.sizeOf22 (hA.ev rfl) (hA.ev rfl) (by decide) (by decide)) ?_)
  clear hA; intro a hA
  refine L1 (stv hA (by decide) (run_ld (hA.ev rfl) (run_loadS Try.isAgg22 (vec_at (hM.box (.s .z)) (by decide) (by decide)))) ?_)
  clear hA; intro a hA
  refine L1 (stv hA (by decide) (run_idxarr Try.underlying83 Try.sizeOf22 (hA.ev rfl) (hA.ev rfl) (by decide) (by decide)) ?_)
  clear hA; intro a hA
  refine L1 (stv hA (by decide) (run_ld (hA.ev rfl) (run_loadS Try.isAgg22 (vec_at (hM.box (.s .z)) (by decide) (by decide)))) ?_)
  clear hA; intro a hA
  refine L1 (stv hA (by decide) (run_bin (hA.ev rfl) (hA.ev rfl) (bin_add _ _ _ _)) ?_)
  clear hA; intro a hA
  refine L1 (stv hA (by decide) (run_idxarr Try.underlying83 Try.sizeOf22 (hA.ev rfl) (hA.ev rfl) (by decide) (by decide)) ?_)
  clear hA; intro a hA
  refine L1 (e_store (g := g56) (off := ((2 : Int).toNat * 1)) (cur := (pA4u64.enc (vs x87 (3 : Int) (ixor .u64 r91 (vg x87 (0 : Int)))))) (cs' := (pA4u64.enc (vs (vs x87 (3 : Int) (ixor .u64 r91 (vg x87 (0 : Int)))) (2 : Int) (IntKind.u64.wrap ((vg (vs x87 (3 : Int) (ixor .u64 r91 (vg x87 (0 : Int)))) (2 : Int)) + (vg (vs x87 (3 : Int) (ixor .u64 r91 (vg x87 (0 : Int)))) (1 : Int))))))) hM (.s .z) Try.sizeOf22 hA rfl (by simp [add_mk]) rfl (by first | rfl | (simp [Value.cells, Pl.len]; done) | (simp [Value.cells, Pl.len]; rfl)) (one_val rfl) (by rw [Pl.len]; decide) (vec_spl _ _ (by decide) (by decide)) ?_)
  clear hM hA; intro w95  hM hE  a hA
  obtain ⟨x96, hx97, H⟩ := Option.bind_eq_some_iff.1 H
  rw [Option.some.inj hx97] at hM
  refine LQ ?_
  refine TN ?_
  refine wp_seq ?_
  refine draw (fun w' => Below w95.heap.size w95 w') [7] rfl ?_
  intro w98 hw hS; replace hM := hM.ext hS; clear hw
  refine d_takef (i := 0) (L' := #[tT,fF,fF,fF,fF,fF,fF,fF]) rfl (by kernel_rfl) rfl (fun _ _ _ h => h) hA (by decide) (fun _ => hS) (fun a w' hA => run_idxarr Try.underlying83 Try.sizeOf22 (hA.ev rfl) (hA.ev rfl) (by decide) (by decide)) ?_; clear hA; intro a hA
  refine rebase hS ?_; clear hS; intro hS
  refine d_take (i := 1) (L' := #[tT,tT,fF,fF,fF,fF,fF,fF]) rfl (by kernel_rfl) rfl (fun _ _ _ h => h) hA (by decide) rfl hS (fun a w' hA hS' => run_ld (hA.ev rfl) (run_loadS Try.isAgg22 ((vec_at (hM.box (.s .z)) (by decide) (by decide)).extB hS'))) ?_; clear hA; intro a hA
  refine d_takef (i := 3) (L' := #[tT,tT,fF,tT,fF,fF,fF,fF]) rfl (by kernel_rfl) rfl (fun _ _ _ h => h) hA (by decide) (fun _ => hS) (fun a w' hA => run_idxarr Try.underlying83 Try.sizeOf22 (hA.ev rfl) (hA.ev rfl) (by decide) (by decide)) ?_; clear hA; intro a hA
  refine d_take (i := 4) (L' := #[tT,tT,fF,tT,tT,fF,fF,fF]) rfl (by kernel_rfl) rfl (fun _ _ _ h => h) hA (by decide) rfl hS (fun a w' hA hS' => run_ld (hA.ev rfl) (run_loadS Try.isAgg22 ((vec_at (hM.box (.s .z)) (by decide) (by decide)).extB hS'))) ?_; clear hA; intro a hA
  obtain ⟨r100, H101, H⟩ := Option.bind_eq_some_iff.1 H
  refine d_one (i := 2) (L' := #[tT,tT,tT,tT,tT,fF,fF,fF]) (by kernel_rfl) rfl rfl (st_call Try.call69 hA [(.int .u64 (vg x96 (1 : Int))), (.int .i64 17)] rfl (by decide) (bits_RotateLeft64.calls _ _ _ _ _ _ (hM.front (Ms := [])) H101) ?_)
  clear hA; rintro _ w102 ⟨rfl, hMc⟩ a hA
  have hE := hMc.below; have hM := hM.call (Ms := []) hMc
  clear hMc; simp only [List.cons_append, List.nil_append] at hM
  replace hS := hS.trans (hE.mono hS.size)
  refine ⟨fun _ => hS, ?_⟩
  refine d_takef (i := 5) (L' := #[tT,tT,tT,tT,tT,tT,fF,fF]) rfl (by kernel_rfl) rfl (fun _ _ _ h => h) hA (by decide) (fun _ => hS) (fun a w' hA => run_bin (hA.ev rfl) (hA.ev rfl) (bin_xor _ _ _ _)) ?_; clear hA; intro a hA
  refine d_takef (i := 6) (L' := #[tT,tT,tT,tT,tT,tT,tT,fF]) rfl (by kernel_rfl) rfl (fun _ _ _ h => h) hA (by decide) (fun _ => hS) (fun a w' hA => run_idxarr Try.underlying83 Try.sizeOf22 (hA.ev rfl) (hA.ev rfl) (by decide) (by decide)) ?_; clear hA; intro a hA
  refine d_one (i := 7) (L' := #[tT,tT,tT,tT,tT,tT,tT,tT]) (by kernel_rfl) rfl rfl (e_store (g := g56) (off := ((1 : Int).toNat * 1)) (cur := (pA4u64.enc x96)) (cs' := (pA4u64.enc (vs x96 (1 : Int) (ixor .u64 r100 (vg x96 (2 : Int)))))) hM (.s .z) Try.sizeOf22 hA rfl (by simp [add_mk]) rfl (by first | rfl | (simp [Value.cells, Pl.len]; done) | (simp [Value.cells, Pl.len]; rfl)) (one_val rfl) (by rw [Pl.len]; decide) (vec_spl _ _ (by decide) (by decide)) ?_)
  clear hM hA; intro w103  hM hE  a hA
  refine ⟨fun h => absurd h (by decide), ?_⟩
  refine d_done (by kernel_rfl) ?_
  refine TN ?_
  refine wp_seq ?_
  refine wp_region_lit ?_
  refine L1 (stv hA (by decide) (run_idxarr Try.underlying83 Try.sizeOf22 (hA.ev rfl) (hA.ev rfl) (by decide) (by decide)) ?_)
  clear hA; intro a hA
  refine L1 (stv hA (by decide) (run_ld (hA.ev rfl) (run_loadS Try.isAgg22 (vec_at (hM.box (.s .z)) (by decide) (by decide)))) ?_)
  clear hA; intro a hA
  obtain ⟨r104, H105, H⟩ := Option.bind_eq_some_iff.1 H
  refine L1 (st_call Try.call69 hA [(.int .u64 (vg (vs x96 (1 : Int) (ixor .u64 r100 (vg x96 (2 : Int)))) (2 : Int))), (.int .i64 32)] rfl (by decide) (bits_RotateLeft64.calls _ _ _ _ _ _ (hM.front (Ms := [])) H105) ?_)
  clear hA; rintro _ w106 ⟨rfl, hMc⟩ a hA
  have hE := hMc.below; have hM := hM.call (Ms := []) hMc
  clear hMc; simp only [List.cons_append, List.nil_append] at hM
  refine L1 (stv hA (by decide) (run_idxarr Try.underlying83 Try.sizeOf22 (hA.ev rfl) (hA.ev rfl) (by decide) (by decide)) ?_)
  clear hA; intro a hA
  refine L1 (e_store (g := g56) (off := ((2 : Int).toNat * 1)) (cur := (pA4u64.enc (vs x96 (1 : Int) (ixor .u64 r100 (vg x96 (2 : Int)))))) (cs' := (pA4u64.enc (vs (vs x96 (1 : Int) (ixor .u64 r100 (vg x96 (2 : Int)))) (2 : Int) r104))) hM (.s .z) Try.sizeOf22 hA rfl (by simp [add_mk]) rfl (by first | rfl | (simp [Value.cells, Pl.len]; done) | (simp [Value.cells, Pl.len]; rfl)) (one_val rfl) (by rw [Pl.len]; decide) (vec_spl _ _ (by decide) (by decide)) ?_)
  clear hM hA; intro w107  hM hE  a hA
  obtain ⟨x108, hx109, H⟩ := Option.bind_eq_some_iff.1 H
  rw [Option.some.inj hx109] at hM
  refine LQ ?_
  refine TN ?_
  refine wp_seq ?_
  refine wp_region_lit ?_
  refine L1 (stv hA (by decide) (run_ld (hA.ev rfl) (run_loadP Try.isAgg83 Try.sizeOf83 (hM.box (.s .z)))) ?_)
  clear hA; intro a hA
  refine L1 (e_store (g := g59) (off := 0) (cur := (pA4u64.enc (Vector.replicate 4 0 : Vector Int 4))) (cs' := (pA4u64.enc x108)) hM .z Try.sizeOf83 hA rfl (by simp [add_mk]) rfl (agg_size _ _) (agg_one _ _) (Nat.le_of_ble_eq_true (enc_fitL _ _ rfl)) (spl_all (by first | rfl | (simp [Value.cells, Pl.len]; done) | (simp [Value.cells, Pl.len]; rfl))) ?_)
  clear hM hA; intro w110  hM hE  a hA
  refine LQ ?_
  refine TN ?_
  refine wp_ret ?_
  obtain rfl := Option.some.inj H
  exact ret_cell (fn := Try.f43) hA rfl rfl (run_loadP Try.isAgg83 Try.sizeOf83 (hM.box .z)) ⟨_, rfl, rfl, (hM.sel [] rfl (by decide))⟩

def ref04_absorb.f (k : Nat) (v_0 : (Vector Int 4)) (m_1 : Int) : Option (Vector Int 4) := ((ref04_round.f k (vs v_0 (3 : Int) (ixor .u64 (vg v_0 (3 : Int)) m_1))).bind fun r24 => ((ref04_round.f k r24).bind fun r27 => (some (vs r27 (0 : Int) (ixor .u64 (vg r27 (0 : Int)) m_1)))))
set_option maxHeartbeats 2000000 in
set_option maxRecDepth 100000 in
theorem ref04_absorb.calls (k : Nat) (v_0 : (Vector Int 4)) (m_1 : Int) (F : List (Option Nat)) (r : (Vector Int 4)) (w0 : World) (hM : Mem F w0 w0 []) (H : ref04_absorb.f k v_0 m_1 = some r) :
    Calls Try.prog 41 #[(.agg (pA4u64.enc v_0).toArray), (.int .u64 m_1)] w0 fun e w' => ∃ v, e = .returned v ∧ v = (.agg (pA4u64.enc r).toArray) ∧ Mem F w0 w' [] := by
  unfold ref04_absorb.f at H
  refine enterL (n := 19) [(.agg (pA4u64.enc v_0).toArray), (.int .u64 m_1)] Try.func41 rfl rfl rfl ?_
  intro a hA
  refine wp_seq ?_
  refine wp_region_lit ?_
  refine L1 (e_box (cs := (pA4u64.enc v_0)) hM hA rfl rfl (by decide) ?_)
  clear hM hA; intro w18 g17 hM hE  a hA
  refine L1 (e_alloc (cs := (pA4u64.enc (Vector.replicate 4 0 : Vector Int 4))) hM zero83 rfl hA (by decide) ?_)
  clear hM hA; intro w21 g20 hM hE  a hA
  refine LQ ?_
  refine TN ?_
  refine wp_seq ?_
  refine wp_region_lit ?_
  refine L1 (stv hA (by decide) (run_idxarr Try.underlying83 Try.sizeOf22 (hA.ev rfl) (hA.ev rfl) (by decide) (by decide)) ?_)
  clear hA; intro a hA
  refine L1 (stv hA (by decide) (run_ld (hA.ev rfl) (run_loadS Try.isAgg22 (vec_at (hM.box (.s .z)) (by decide) (by decide)))) ?_)
  clear hA; intro a hA
  refine L1 (stv hA (by decide) (run_move (hA.ev rfl)) ?_)
  clear hA; intro a hA
  refine L1 (stv hA (by decide) (run_bin (hA.ev rfl) (hA.ev rfl) (bin_xor _ _ _ _)) ?_)
  clear hA; intro a hA
  refine L1 (stv hA (by decide) (run_idxarr Try.underlying83 Try.sizeOf22 (hA.ev rfl) (hA.ev rfl) (by decide) (by decide)) ?_)
  clear hA; intro a hA
  refine L1 (e_store (g := g17) (off := ((3 : Int).toNat * 1)) (cur := (pA4u64.enc v_0)) (cs' := (pA4u64.enc (vs v_0 (3 : Int) (ixor .u64 (vg v_0 (3 : Int)) m_1)))) hM (.s .z) Try.sizeOf22 hA rfl (by simp [add_mk]) rfl (by first | rfl | (simp [Value.cells, Pl.len]; done) | (simp [Value.cells, Pl.len]; rfl)) (one_val rfl) (by rw [Pl.len]; decide) (vec_spl _ _ (by decide) (by decide)) ?_)
  clear hM hA; intro w23  hM hE  a hA
  refine LQ ?_
  refine TN ?_
  refine wp_seq ?_
  refine wp_region_lit ?_
  refine L1 (stv hA (by decide) (run_ld (hA.ev rfl) (run_loadP Try.isAgg83 Try.sizeOf83 (hM.box (.s .z)))) ?_)
  clear hA; intro a hA
  obtain ⟨r24, H25, H⟩ := Option.bind_eq_some_iff.1 H
  refine L1 (st_call Try.call43 hA [(.agg (pA4u64.enc (vs v_0 (3 : Int) (ixor .u64 (vg v_0 (3 : Int)) m_1))).toArray)] rfl (by decide) (ref04_round.calls _ _ _ _ _ (hM.front (Ms := [])) H25) ?_)
  clear hA; rintro _ w26 ⟨rfl, hMc⟩ a hA
  have hE := hMc.below; have hM := hM.call (Ms := []) hMc
  clear hMc; simp only [List.cons_append, List.nil_append] at hM
  obtain ⟨r27, H28, H⟩ := Option.bind_eq_some_iff.1 H
  refine L1 (st_call Try.call43 hA [(.agg (pA4u64.enc r24).toArray)] rfl (by decide) (ref04_round.calls _ _ _ _ _ (hM.front (Ms := [])) H28) ?_)
  clear hA; rintro _ w29 ⟨rfl, hMc⟩ a hA
  have hE := hMc.below; have hM := hM.call (Ms := []) hMc
  clear hMc; simp only [List.cons_append, List.nil_append] at hM
  refine L1 (e_store (g := g17) (off := 0) (cur := (pA4u64.enc (vs v_0 (3 : Int) (ixor .u64 (vg v_0 (3 : Int)) m_1)))) (cs' := (pA4u64.enc r27)) hM (.s .z) Try.sizeOf83 hA rfl (by simp [add_mk]) rfl (agg_size _ _) (agg_one _ _) (Nat.le_of_ble_eq_true (enc_fitL _ _ rfl)) (spl_all (by first | rfl | (simp [Value.cells, Pl.len]; done) | (simp [Value.cells, Pl.len]; rfl))) ?_)
  clear hM hA; intro w30  hM hE  a hA
  refine LQ ?_
  refine TN ?_
  refine wp_seq ?_
  refine wp_region_lit ?_
  refine L1 (stv hA (by decide) (run_idxarr Try.underlying83 Try.sizeOf22 (hA.ev rfl) (hA.ev rfl) (by decide) (by decide)) ?_)
  clear hA; intro a hA
  refine L1 (stv hA (by decide) (run_ld (hA.ev rfl) (run_loadS Try.isAgg22 (vec_at (hM.box (.s .z)) (by decide) (by decide)))) ?_)
  clear hA; intro a hA
  refine L1 (stv hA (by decide) (run_move (hA.ev rfl)) ?_)
  clear hA; intro a hA
  refine L1 (stv hA (by decide) (run_bin (hA.ev rfl) (hA.ev rfl) (bin_xor _ _ _ _)) ?_)
  clear hA; intro a hA
  refine L1 (stv hA (by decide) (run_idxarr Try.underlying83 Try.sizeOf22 (hA.ev rfl) (hA.ev rfl) (by decide) (by decide)) ?_)
  clear hA; intro a hA
  refine L1 (e_store (g := g17) (off := ((0 : Int).toNat * 1)) (cur := (pA4u64.enc r27)) (cs' := (pA4u64.enc (vs r27 (0 : Int) (ixor .u64 (vg r27 (0 : Int)) m_1)))) hM (.s .z) Try.sizeOf22 hA rfl (by simp [add_mk]) rfl (by first | rfl | (simp [Value.cells, Pl.len]; done) | (simp [Value.cells, Pl.len]; rfl)) (one_val rfl) (by rw [Pl.len]; decide) (vec_spl _ _ (by decide) (by decide)) ?_)
  clear hM hA; intro w31  hM hE  a hA
  refine LQ ?_
  refine TN ?_
  refine wp_seq ?_
  refine wp_region_lit ?_
  refine L1 (stv hA (by decide) (run_ld (hA.ev rfl) (run_loadP Try.isAgg83 Try.sizeOf83 (hM.box (.s .z)))) ?_)
  clear hA; intro a hA
  refine L1 (e_store (g := g20) (off := 0) (cur := (pA4u64.enc (Vector.replicate 4 0 : Vector Int 4))) (cs' := (pA4u64.enc (vs r27 (0 : Int) (ixor .u64 (vg r27 (0 : Int)) m_1)))) hM .z Try.sizeOf83 hA rfl (by simp [add_mk]) rfl (agg_size _ _) (agg_one _ _) (Nat.le_of_ble_eq_true (enc_fitL _ _ rfl)) (spl_all (by first | rfl | (simp [Value.cells, Pl.len]; done) | (simp [Value.cells, Pl.len]; rfl))) ?_)
  clear hM hA; intro w32  hM hE  a hA
  refine LQ ?_
  refine TN ?_
  refine wp_ret ?_
  obtain rfl := Option.some.inj H
  exact ret_cell (fn := Try.f41) hA rfl rfl (run_loadP Try.isAgg83 Try.sizeOf83 (hM.box .z)) ⟨_, rfl, rfl, (hM.sel [] rfl (by decide))⟩

def ref04_word.l0 (b_0 : (List Int)) : Nat → Int → Int → Option (Int)
  | 0, _, _ => none
  | k + 1, t95, t98 => (if (decide (t98 < ((b_0.length : Nat) : Int))) = true then (if 0 ≤ t98 ∧ t98 < ((b_0.length : Nat) : Int) then (if 0 ≤ (IntKind.i64.wrap (8 * t98)) then (ref04_word.l0 b_0 k (ior .u64 t95 (ishl .u64 (IntKind.u64.wrap (b_0.getD t98.toNat (0 : Int))) (IntKind.i64.wrap (8 * t98)))) (IntKind.i64.wrap (t98 + 1))) else none) else none) else (some t95))
def ref04_word.f (k : Nat) (b_0 : (List Int)) : Option Int := (Option.bind (α := Int) (ref04_word.l0 b_0 k 0 0) (fun t100 => (some t100)))
set_option maxHeartbeats 2000000 in
set_option maxRecDepth 100000 in
theorem ref04_word.calls (k : Nat) (b_0 : (List Int)) (F : List (Option Nat)) (v0 : Value) (r : Int) (w0 : World) (h0 : RoV F (Pl.int .u8) w0 v0 b_0) (hM : Mem F w0 w0 []) (H : ref04_word.f k b_0 = some r) :
    Calls Try.prog 42 #[v0] w0 fun e w' => ∃ v, e = .returned v ∧ v = (.int .u64 r) ∧ Mem F w0 w' [] := by
  unfold ref04_word.f at H
  obtain ⟨A0, c0, rfl, hr0, hc0⟩ := h0
  refine enterL (n := 22) [(.slice A0 b_0.length c0)] Try.func42 rfl rfl rfl ?_
  intro a hA
  refine wp_seq ?_
  refine wp_region_lit ?_
  refine L1 (stv hA (by decide) (run_assign (hA.ev rfl)) ?_)
  clear hA; intro a hA
  refine LQ ?_
  refine TN ?_
  refine wp_seq ?_
  refine wp_region_lit ?_
  refine L1 (stv hA (by decide) (run_assign (hA.ev rfl)) ?_)
  clear hA; intro a hA
  refine LQ ?_
  refine TN ?_
  refine wp_seq ?_
  refine wp_seq ?_
  refine wp_region_lit ?_
  refine L1 (stv hA (by decide) (run_move (hA.ev rfl)) ?_)
  clear hA; intro a hA
  refine L1 (stv hA (by decide) (run_len_slice Try.underlying25 (hA.ev rfl)) ?_)
  clear hA; intro a hA
  refine L1 (stv hA (by decide) (run_move (hA.ev rfl)) ?_)
  clear hA; intro a hA
  refine LQ ?_
  refine TN ?_
  obtain ⟨o102, H101, H⟩ := Option.bind_eq_some_iff.1 H
  refine cutC (fun a w => ∃ (t100 : Int), t100 = o102 ∧ Mem F w0 w [] ∧ Has 22 [(3, (.int .u64 t100))] a) ?_ ?_
  · refine wp_block ?_
    refine wp_loop_ghost (fun m a w => ∃ (t95 : Int) (t98 : Int), ref04_word.l0 b_0 m t95 t98 = some o102 ∧ Mem F w0 w [] ∧ Has 22 [(0, (.slice A0 b_0.length c0)), (3, (.int .u64 t95)), (6, (.int .i64 ((b_0.length : Nat) : Int))), (7, (.int .i64 t98))] a) k ⟨0, 0, H101, hM, ((((hA.nil.cons (hA.get 7 _ rfl)).cons (hA.get 6 _ rfl)).cons (hA.get 3 _ rfl)).cons (hA.get 0 _ rfl))⟩ ?_
    clear hM hA; rintro m103 a w104 ⟨t95, t98, H101, hM, hA⟩
    cases m103 with
    | zero => exact absurd H101 (by simp [ref04_word.l0])
    | succ m103 =>
    rw [ref04_word.l0] at H101
    refine wp_seq ?_
    refine wp_region_lit ?_
    refine L1 (stv hA (by decide) (run_bin (hA.ev rfl) (hA.ev rfl) (bin_lss _ _ _ _)) ?_)
    clear hA; intro a hA
    refine LQ ?_
    refine TN ?_
    refine wp_seq ?_
    refine tcond (b := (decide (t98 < ((b_0.length : Nat) : Int)))) hA rfl (fun hb105 => ?_) (fun hb105 => ?_)
    · replace H101 := ite_t hb105 H101
      refine wp_skip ?_
      refine TN ?_
      refine wp_seq ?_
      refine wp_block ?_
      refine wp_seq ?_
      refine wp_region_lit ?_
      refine L1 (stv hA (by decide) (run_move (hA.ev rfl)) ?_)
      clear hA; intro a hA
      refine L1 (stv hA (by decide) (run_assign (hA.ev rfl)) ?_)
      clear hA; intro a hA
      refine LQ ?_
      refine TN ?_
      refine wp_region_lit ?_
      refine L1 (stv hA (by decide) (run_move (hA.ev rfl)) ?_)
      clear hA; intro a hA
      refine L1 (stv hA (by decide) (run_move (hA.ev rfl)) ?_)
      clear hA; intro a hA
      refine L1 (stv hA (by decide) (run_move (hA.ev rfl)) ?_)
      clear hA; intro a hA
      obtain ⟨⟨hi106, hj107⟩, H101⟩ := ite_some H101
      obtain ⟨ad108, hq109, hat110⟩ := Row.elem' (p := (Pl.int .u8)) (hM.ro hr0) (Eq.refl b_0.length) (0 : Int) t98 hi106 hj107
      refine L1 (stv hA (by decide) (run_idx Try.underlying25 Try.sizeOf5 (hA.ev rfl) hq109 (hA.ev rfl) hi106 hj107) ?_)
      clear hA; intro a hA
      refine L1 (stv hA (by decide) (run_ld (hA.ev rfl) (run_loadS Try.isAgg5 hat110)) ?_)
      clear hA; intro a hA
      refine L1 (stv hA (by decide) (run_conv Try.underlying5 Try.underlying22 (hA.ev rfl)) ?_)
      clear hA; intro a hA
      refine L1 (stv hA (by decide) (run_move (hA.ev rfl)) ?_)
      clear hA; intro a hA
      refine L1 (stv hA (by decide) (run_bin (hA.ev rfl) (hA.ev rfl) (bin_mul _ _ _ _)) ?_)
      clear hA; intro a hA
      obtain ⟨hs111, H101⟩ := ite_some H101
      refine L1 (stv hA (by decide) (run_shl (hA.ev rfl) (hA.ev rfl) hs111) ?_)
      clear hA; intro a hA
      refine L1 (stv hA (by decide) (run_bin (hA.ev rfl) (hA.ev rfl) (bin_or _ _ _ _)) ?_)
      clear hA; intro a hA
      refine L1 (stv hA (by decide) (run_assign (hA.ev rfl)) ?_)
      clear hA; intro a hA
      refine LQ ?_
      refine BN ?_
      refine TN ?_
      refine wp_region_lit ?_
      refine L1 (stv hA (by decide) (run_bin (hA.ev rfl) (hA.ev rfl) (bin_add _ _ _ _)) ?_)
      clear hA; intro a hA
      refine L1 (stv hA (by decide) (run_move (hA.ev rfl)) ?_)
      clear hA; intro a hA
      refine LQ ?_
      exact ⟨_, Nat.lt_succ_self m103, ior .u64 t95 (ishl .u64 (IntKind.u64.wrap (b_0.getD t98.toNat (0 : Int))) (IntKind.i64.wrap (8 * t98))), IntKind.i64.wrap (t98 + 1), H101, hM, ((((hA.nil.cons (hA.get 7 _ rfl)).cons (hA.get 6 _ rfl)).cons (hA.get 3 _ rfl)).cons (hA.get 0 _ rfl))⟩
    · replace H101 := ite_f hb105 H101
      refine wp_exit ?_
      refine TX ?_
      refine TX ?_
      refine BX ?_
      exact ⟨t95, Option.some.inj H101, hM, (hA.nil.cons (hA.get 3 _ rfl))⟩
  clear hM hA
  rintro a w112 ⟨t100, rfl, hM, hA⟩
  try dsimp only at H
  refine TN ?_
  refine wp_seq ?_
  refine wp_region_lit ?_
  refine L1 (stv hA (by decide) (run_move (hA.ev rfl)) ?_)
  clear hA; intro a hA
  refine L1 (stv hA (by decide) (run_assign (hA.ev rfl)) ?_)
  clear hA; intro a hA
  refine LQ ?_
  refine TN ?_
  refine wp_ret ?_
  obtain rfl := Option.some.inj H
  exact ret_post1 (fn := Try.f42) hA rfl rfl ⟨_, rfl, rfl, hM⟩

def ref04_Sum.l0  : Nat → (List Int) → (Vector Int 4) → Option ((List Int) × (Vector Int 4))
  | 0, _, _ => none
  | k + 1, b214, x222 => (if (decide (((b214.length : Nat) : Int) ≥ 8)) = true then (if 0 ≤ (8 : Int) ∧ (8 : Int) ≤ ((b214.length : Nat) : Int) then (if 0 ≤ (8 : Int) ∧ (8 : Int) ≤ ((b214.length : Nat) : Int) then ((ref04_word.f k (b214.take ((8 : Int).toNat))).bind fun r246 => ((ref04_absorb.f k x222 r246).bind fun r249 => (ref04_Sum.l0  k (b214.drop ((8 : Int).toNat)) r249))) else none) else none) else (some (b214, x222)))
def ref04_Sum.f (k : Nat) (k_0 : (Vector Int 2)) (b_1 : (List Int)) : Option Int := (Option.bind (α := (List Int) × (Vector Int 4)) (ref04_Sum.l0 k b_1 ((((((Vector.replicate 4 0 : Vector Int 4).setIfInBounds 0 (ixor .u64 (vg k_0 (0 : Int)) 8317987319222330741)).setIfInBounds 1 (ixor .u64 (vg k_0 (1 : Int)) 7237128888997146477)).setIfInBounds 2 (ixor .u64 (vg k_0 (0 : Int)) 7816392313619706465)).setIfInBounds 3 (ixor .u64 (vg k_0 (1 : Int)) 8387220255154660723)))) (fun st => match st with | (b225, x233) => ((ref04_word.f k b225).bind fun r256 => ((ref04_absorb.f k x233 (ior .u64 r256 (ishl .u64 (IntKind.u64.wrap (((b_1.length : Nat) : Int).tmod 256)) 56))).bind fun r259 => ((ref04_round.f k (vs r259 (2 : Int) (ixor .u64 (vg r259 (2 : Int)) 255))).bind fun r264 => ((ref04_round.f k r264).bind fun r267 => ((ref04_round.f k r267).bind fun r270 => ((ref04_round.f k r270).bind fun r273 => (some (ixor .u64 (ixor .u64 (ixor .u64 (vg r273 (0 : Int)) (vg r273 (1 : Int))) (vg r273 (2 : Int))) (vg r273 (3 : Int))))))))))))
set_option maxHeartbeats 2000000 in
set_option maxRecDepth 100000 in
theorem ref04_Sum.calls (k : Nat) (k_0 : (Vector Int 2)) (b_1 : (List Int)) (F : List (Option Nat)) (v1 : Value) (r : Int) (w0 : World) (h1 : RoV F (Pl.int .u8) w0 v1 b_1) (hM : Mem F w0 w0 []) (H : ref04_Sum.f k k_0 b_1 = some r) :
    Calls Try.prog 14 #[(.agg (pSipKey.enc k_0).toArray), v1] w0 fun e w' => ∃ v, e = .returned v ∧ v = (.int .u64 r) ∧ Mem F w0 w' [] := by
  unfold ref04_Sum.f at H
  obtain ⟨A1, c1, rfl, hr1, hc1⟩ := h1
  refine enterL (n := 61) [(.agg (pSipKey.enc k_0).toArray), (.slice A1 b_1.length c1)] Try.func14 rfl rfl rfl ?_
  intro a hA
  refine wp_seq ?_
  refine wp_region_lit ?_
  refine L1 (e_box (cs := (pSipKey.enc k_0)) hM hA rfl rfl (by decide) ?_)
  clear hM hA; intro w140 g139 hM hE  a hA
  refine L1 (stv hA (by decide) (run_assign (hA.ev rfl)) ?_)
  clear hA; intro a hA
  refine LQ ?_
  refine TN ?_
  refine wp_seq ?_
  refine wp_region_lit ?_
  refine L1 (stv hA (by decide) (run_idxarr Try.underlying24 Try.sizeOf22 (hA.ev rfl) (hA.ev rfl) (by decide) (by decide)) ?_)
  clear hA; intro a hA
  refine L1 (stv hA (by decide) (run_ld (hA.ev rfl) (run_loadS Try.isAgg22 (vec_at (hM.box .z) (by decide) (by decide)))) ?_)
  clear hA; intro a hA
  refine L1 (stv hA (by decide) (run_bin (hA.ev rfl) (hA.ev rfl) (bin_xor _ _ _ _)) ?_)
  clear hA; intro a hA
  refine L1 (stv hA (by decide) (run_idxarr Try.underlying24 Try.sizeOf22 (hA.ev rfl) (hA.ev rfl) (by decide) (by decide)) ?_)
  clear hA; intro a hA
  refine L1 (stv hA (by decide) (run_ld (hA.ev rfl) (run_loadS Try.isAgg22 (vec_at (hM.box .z) (by decide) (by decide)))) ?_)
  clear hA; intro a hA
  refine L1 (stv hA (by decide) (run_bin (hA.ev rfl) (hA.ev rfl) (bin_xor _ _ _ _)) ?_)
  clear hA; intro a hA
  refine L1 (stv hA (by decide) (run_idxarr Try.underlying24 Try.sizeOf22 (hA.ev rfl) (hA.ev rfl) (by decide) (by decide)) ?_)
  clear hA; intro a hA
  refine L1 (stv hA (by decide) (run_ld (hA.ev rfl) (run_loadS Try.isAgg22 (vec_at (hM.box .z) (by decide) (by decide)))) ?_)
  clear hA; intro a hA
  refine L1 (stv hA (by decide) (run_bin (hA.ev rfl) (hA.ev rfl) (bin_xor _ _ _ _)) ?_)
  clear hA; intro a hA
  refine L1 (stv hA (by decide) (run_idxarr Try.underlying24 Try.sizeOf22 (hA.ev rfl) (hA.ev rfl) (by decide) (by decide)) ?_)
  clear hA; intro a hA
  refine L1 (stv hA (by decide) (run_ld (hA.ev rfl) (run_loadS Try.isAgg22 (vec_at (hM.box .z) (by decide) (by decide)))) ?_)
  clear hA; intro a hA
  refine L1 (stv hA (by decide) (run_bin (hA.ev rfl) (hA.ev rfl) (bin_xor _ _ _ _)) ?_)
  clear hA; intro a hA
  refine L1 (stv hA (by decide) (run_build_arr [(0, (.int .u64 (ixor .u64 (vg k_0 (0 : Int)) 8317987319222330741))), (1, (.int .u64 (ixor .u64 (vg k_0 (1 : Int)) 7237128888997146477))), (2, (.int .u64 (ixor .u64 (vg k_0 (0 : Int)) 7816392313619706465))), (3, (.int .u64 (ixor .u64 (vg k_0 (1 : Int)) 8387220255154660723)))] zero83 Try.underlying83 Try.sizeOf22 hA rfl (fill_step rfl rfl (enc_fit _ _ rfl) (arr_eq (vec_spl' _ _ _ (by decide))) (fill_step rfl rfl (enc_fit _ _ rfl) (arr_eq (vec_spl' _ _ _ (by decide))) (fill_step rfl rfl (enc_fit _ _ rfl) (arr_eq (vec_spl' _ _ _ (by decide))) (fill_step rfl rfl (enc_fit _ _ rfl) (arr_eq (vec_spl' _ _ _ (by decide))) (fill_nil)))))) ?_)
  clear hA; intro a hA
  refine L1 (e_alloc (cs := (pA4u64.enc (Vector.replicate 4 0 : Vector Int 4))) hM zero83 rfl hA (by decide) ?_)
  clear hM hA; intro w143 g142 hM hE  a hA
  refine L1 (e_store (g := g142) (off := 0) (cur := (pA4u64.enc (Vector.replicate 4 0 : Vector Int 4))) (cs' := (pA4u64.enc ((((((Vector.replicate 4 0 : Vector Int 4).setIfInBounds 0 (ixor .u64 (vg k_0 (0 : Int)) 8317987319222330741)).setIfInBounds 1 (ixor .u64 (vg k_0 (1 : Int)) 7237128888997146477)).setIfInBounds 2 (ixor .u64 (vg k_0 (0 : Int)) 7816392313619706465)).setIfInBounds 3 (ixor .u64 (vg k_0 (1 : Int)) 8387220255154660723))))) hM .z Try.sizeOf83 hA rfl (by simp [add_mk]) rfl (agg_size _ _) (agg_one _ _) (Nat.le_of_ble_eq_true (enc_fitL _ _ rfl)) (spl_all (by first | rfl | (simp [Value.cells, Pl.len]; done) | (simp [Value.cells, Pl.len]; rfl))) ?_)
  clear hM hA; intro w145  hM hE  a hA
  refine LQ ?_
  refine TN ?_
  refine wp_seq ?_
  refine wp_region_lit ?_
  refine L1 (stv hA (by decide) (run_move (hA.ev rfl)) ?_)
  clear hA; intro a hA
  refine L1 (stv hA (by decide) (run_len_slice Try.underlying25 (hA.ev rfl)) ?_)
  clear hA; intro a hA
  refine L1 (stv hA (by decide) (run_assign (hA.ev rfl)) ?_)
  clear hA; intro a hA
  refine LQ ?_
  refine TN ?_
  refine wp_seq ?_
  obtain ⟨o236, H235, H⟩ := Option.bind_eq_some_iff.1 H
  refine cutC (fun a w => ∃ (b225 : (List Int)) (x233 : (Vector Int 4)) (v226 : Value), (b225, x233) = o236 ∧ (RoV F (Pl.int .u8) w0 v226 b225) ∧ Mem F w0 w [.box g142 83 (pA4u64.enc x233)] ∧ Has 61 [(1, v226), (5, (.pointer (some (⟨g142, 0, none⟩)))), (6, (.int .i64 ((b_1.length : Nat) : Int)))] a) ?_ ?_
  · refine wp_block ?_
    refine wp_loop_ghost (fun m a w => ∃ (b214 : (List Int)) (x222 : (Vector Int 4)) (v215 : Value), ref04_Sum.l0 m b214 x222 = some o236 ∧ (RoV F (Pl.int .u8) w0 v215 b214) ∧ Mem F w0 w [.box g142 83 (pA4u64.enc x222)] ∧ Has 61 [(1, v215), (5, (.pointer (some (⟨g142, 0, none⟩)))), (6, (.int .i64 ((b_1.length : Nat) : Int)))] a) k ⟨b_1, ((((((Vector.replicate 4 0 : Vector Int 4).setIfInBounds 0 (ixor .u64 (vg k_0 (0 : Int)) 8317987319222330741)).setIfInBounds 1 (ixor .u64 (vg k_0 (1 : Int)) 7237128888997146477)).setIfInBounds 2 (ixor .u64 (vg k_0 (0 : Int)) 7816392313619706465)).setIfInBounds 3 (ixor .u64 (vg k_0 (1 : Int)) 8387220255154660723))), (.slice A1 b_1.length c1), H235, (RoV.mk hr1 (Eq.refl b_1.length) hc1), (hM.sel [0] rfl (by decide)), (((hA.nil.cons (hA.get 6 _ rfl)).cons (hA.get 5 _ rfl)).cons (hA.get 1 _ rfl))⟩ ?_
    clear hM hA; rintro m237 a w238 ⟨b214, x222, v215, H235, h220, hM, hA⟩
    cases m237 with
    | zero => exact absurd H235 (by simp [ref04_Sum.l0])
    | succ m237 =>
    rw [ref04_Sum.l0] at H235
    obtain ⟨A216, c217, rfl, hr218, hc219⟩ := h220
    refine wp_seq ?_
    refine wp_seq ?_
    refine wp_region_lit ?_
    refine L1 (stv hA (by decide) (run_move (hA.ev rfl)) ?_)
    clear hA; intro a hA
    refine L1 (stv hA (by decide) (run_len_slice Try.underlying25 (hA.ev rfl)) ?_)
    clear hA; intro a hA
    refine L1 (stv hA (by decide) (run_bin (hA.ev rfl) (hA.ev rfl) (bin_geq _ _ _ _)) ?_)
    clear hA; intro a hA
    refine LQ ?_
    refine TN ?_
    refine tcond (b := (decide (((b214.length : Nat) : Int) ≥ 8))) hA rfl (fun hb239 => ?_) (fun hb239 => ?_)
    · replace H235 := ite_t hb239 H235
      refine wp_skip ?_
      refine TN ?_
      refine wp_block ?_
      refine draw (fun w' => Below w238.heap.size w238 w') [7] rfl ?_
      intro w240 hw hS; replace hM := hM.ext hS; clear hw
      refine rebase hS ?_; clear hS; intro hS
      refine d_take (i := 0) (L' := #[tT,fF,fF,fF,fF,fF,fF,fF,fF]) rfl (by kernel_rfl) rfl (fun _ _ _ h => h) hA (by decide) rfl hS (fun a w' hA hS' => run_ld (hA.ev rfl) (run_loadP Try.isAgg83 Try.sizeOf83 ((hM.box .z).extB hS'))) ?_; clear hA; intro a hA
      refine d_takef (i := 1) (L' := #[tT,tT,fF,fF,fF,fF,fF,fF,fF]) rfl (by kernel_rfl) rfl (fun _ _ _ h => h) hA (by decide) (fun _ => hS) (fun a w' hA => run_move (hA.ev rfl)) ?_; clear hA; intro a hA
      obtain ⟨⟨hi242, hj243⟩, H235⟩ := ite_some H235
      refine d_takef (i := 2) (L' := #[tT,tT,tT,fF,fF,fF,fF,fF,fF]) rfl (by kernel_rfl) rfl (fun _ _ _ h => h) hA (by decide) (fun _ => hS) (fun a w' hA => run_hi Try.underlying25 Try.sizeOf5 hc219 hi242 hj243 (hA.ev rfl) (hA.ev rfl)) ?_; clear hA; intro a hA
      refine d_takef (i := 5) (L' := #[tT,tT,tT,fF,fF,tT,fF,fF,fF]) rfl (by kernel_rfl) rfl (fun _ _ _ h => h) hA (by decide) (fun _ => hS) (fun a w' hA => run_move (hA.ev rfl)) ?_; clear hA; intro a hA
      obtain ⟨⟨hi244, hj245⟩, H235⟩ := ite_some H235
      refine d_takef (i := 6) (L' := #[tT,tT,tT,fF,fF,tT,tT,fF,fF]) rfl (by kernel_rfl) rfl (fun _ _ _ h => h) hA (by decide) (fun _ => hS) (fun a w' hA => run_lo Try.underlying25 Try.sizeOf5 hc219 hi244 hj245 (hA.ev rfl) (hA.ev rfl)) ?_; clear hA; intro a hA
      obtain ⟨r246, H247, H235⟩ := Option.bind_eq_some_iff.1 H235
      refine d_one (i := 3) (L' := #[tT,tT,tT,tT,fF,tT,tT,fF,fF]) (by kernel_rfl) rfl rfl (st_call Try.call42 hA [(.slice A216 ((8 : Int).toNat) c217)] rfl (by decide) (ref04_word.calls _ _ _ _ _ _ ((RoV.mk (Ro.take (hM.roC (Ms := []) hr218) ((8 : Int).toNat)) (len_take (Eq.refl b214.length) (by omega)) (by have hh1 := hc219; omega))) (hM.front (Ms := [])) H247) ?_)
      clear hA; rintro _ w248 ⟨rfl, hMc⟩ a hA
      have hE := hMc.below; have hM := hM.call (Ms := []) hMc
      clear hMc; simp only [List.cons_append, List.nil_append] at hM
      replace hS := hS.trans (hE.mono hS.size)
      refine ⟨fun _ => hS, ?_⟩
      obtain ⟨r249, H250, H235⟩ := Option.bind_eq_some_iff.1 H235
      refine d_one (i := 4) (L' := #[tT,tT,tT,tT,tT,tT,tT,fF,fF]) (by kernel_rfl) rfl rfl (st_call Try.call41 hA [(.agg (pA4u64.enc x222).toArray), (.int .u64 r246)] rfl (by decide) (ref04_absorb.calls _ _ _ _ _ _ (hM.front (Ms := [])) H250) ?_)
      clear hA; rintro _ w251 ⟨rfl, hMc⟩ a hA
      have hE := hMc.below; have hM := hM.call (Ms := []) hMc
      clear hMc; simp only [List.cons_append, List.nil_append] at hM
      replace hS := hS.trans (hE.mono hS.size)
      refine ⟨fun _ => hS, ?_⟩
      refine d_one (i := 7) (L' := #[tT,tT,tT,tT,tT,tT,tT,tT,fF]) (by kernel_rfl) rfl rfl (e_store (g := g142) (off := 0) (cur := (pA4u64.enc x222)) (cs' := (pA4u64.enc r249)) hM .z Try.sizeOf83 hA rfl (by simp [add_mk]) rfl (agg_size _ _) (agg_one _ _) (Nat.le_of_ble_eq_true (enc_fitL _ _ rfl)) (spl_all (by first | rfl | (simp [Value.cells, Pl.len]; done) | (simp [Value.cells, Pl.len]; rfl))) ?_)
      clear hM hA; intro w252  hM hE  a hA
      refine ⟨fun h => absurd h (by decide), ?_⟩
      refine d_takef (i := 8) (L' := #[tT,tT,tT,tT,tT,tT,tT,tT,tT]) rfl (by kernel_rfl) rfl (fun _ _ _ h => h) hA (by decide) (fun h => absurd h (by decide)) (fun a w' hA => run_assign (hA.ev rfl)) ?_; clear hA; intro a hA
      refine d_done (by kernel_rfl) ?_
      refine BN ?_
      exact ⟨_, Nat.lt_succ_self m237, (b214.drop ((8 : Int).toNat)), r249, (.slice (adrop A216 c217 ((8 : Int).toNat) 1) (b214.length - (8 : Int).toNat) (c217 - (8 : Int).toNat)), H235, (RoV.mk (Ro.drop (c := c217) hr218 (by have hh1 := (Eq.refl b214.length); omega) (by have hh1 := (Eq.refl b214.length); have hh2 := hc219; omega)) (len_drop (Eq.refl b214.length)) (by have hh1 := hc219; omega)), hM, (((hA.nil.cons (hA.get 6 _ rfl)).cons (hA.get 5 _ rfl)).cons (hA.get 1 _ rfl))⟩
    · replace H235 := ite_f hb239 H235
      refine wp_exit ?_
      refine TX ?_
      refine TX ?_
      refine BX ?_
      exact ⟨b214, x222, (.slice A216 b214.length c217), Option.some.inj H235, (RoV.mk hr218 (Eq.refl b214.length) hc219), hM, (((hA.nil.cons (hA.get 6 _ rfl)).cons (hA.get 5 _ rfl)).cons (hA.get 1 _ rfl))⟩
  clear hM hA
  rintro a w253 ⟨b225, x233, v226, rfl, h231, hM, hA⟩
  try dsimp only at H
  obtain ⟨A227, c228, rfl, hr229, hc230⟩ := h231
  refine TN ?_
  refine wp_seq ?_
  refine draw (fun w' => Below w253.heap.size w253 w') [9] rfl ?_
  intro w254 hw hS; replace hM := hM.ext hS; clear hw
  refine rebase hS ?_; clear hS; intro hS
  refine d_take (i := 0) (L' := #[tT,fF,fF,fF,fF,fF,fF,fF,fF,fF]) rfl (by kernel_rfl) rfl (fun _ _ _ h => h) hA (by decide) rfl hS (fun a w' hA hS' => run_ld (hA.ev rfl) (run_loadP Try.isAgg83 Try.sizeOf83 ((hM.box .z).extB hS'))) ?_; clear hA; intro a hA
  refine d_takef (i := 1) (L' := #[tT,tT,fF,fF,fF,fF,fF,fF,fF,fF]) rfl (by kernel_rfl) rfl (fun _ _ _ h => h) hA (by decide) (fun _ => hS) (fun a w' hA => run_move (hA.ev rfl)) ?_; clear hA; intro a hA
  refine d_takef (i := 3) (L' := #[tT,tT,fF,tT,fF,fF,fF,fF,fF,fF]) rfl (by kernel_rfl) rfl (fun _ _ _ h => h) hA (by decide) (fun _ => hS) (fun a w' hA => run_move (hA.ev rfl)) ?_; clear hA; intro a hA
  refine d_takef (i := 4) (L' := #[tT,tT,fF,tT,tT,fF,fF,fF,fF,fF]) rfl (by kernel_rfl) rfl (fun _ _ _ h => h) hA (by decide) (fun _ => hS) (fun a w' hA => run_bin (hA.ev rfl) (hA.ev rfl) (bin_rem _ _ _ _ (by decide))) ?_; clear hA; intro a hA
  refine d_takef (i := 5) (L' := #[tT,tT,fF,tT,tT,tT,fF,fF,fF,fF]) rfl (by kernel_rfl) rfl (fun _ _ _ h => h) hA (by decide) (fun _ => hS) (fun a w' hA => run_conv Try.underlying3 Try.underlying22 (hA.ev rfl)) ?_; clear hA; intro a hA
  refine d_takef (i := 6) (L' := #[tT,tT,fF,tT,tT,tT,tT,fF,fF,fF]) rfl (by kernel_rfl) rfl (fun _ _ _ h => h) hA (by decide) (fun _ => hS) (fun a w' hA => run_shl (hA.ev rfl) (hA.ev rfl) (by decide)) ?_; clear hA; intro a hA
  obtain ⟨r256, H257, H⟩ := Option.bind_eq_some_iff.1 H
  refine d_one (i := 2) (L' := #[tT,tT,tT,tT,tT,tT,tT,fF,fF,fF]) (by kernel_rfl) rfl rfl (st_call Try.call42 hA [(.slice A227 b225.length c228)] rfl (by decide) (ref04_word.calls _ _ _ _ _ _ ((RoV.mk (hM.roC (Ms := []) hr229) (Eq.refl b225.length) hc230)) (hM.front (Ms := [])) H257) ?_)
  clear hA; rintro _ w258 ⟨rfl, hMc⟩ a hA
  have hE := hMc.below; have hM := hM.call (Ms := []) hMc
  clear hMc; simp only [List.cons_append, List.nil_append] at hM
  replace hS := hS.trans (hE.mono hS.size)
  refine ⟨fun _ => hS, ?_⟩
  refine d_takef (i := 7) (L' := #[tT,tT,tT,tT,tT,tT,tT,tT,fF,fF]) rfl (by kernel_rfl) rfl (fun _ _ _ h => h) hA (by decide) (fun _ => hS) (fun a w' hA => run_bin (hA.ev rfl) (hA.ev rfl) (bin_or _ _ _ _)) ?_; clear hA; intro a hA
  obtain ⟨r259, H260, H⟩ := Option.bind_eq_some_iff.1 H
  refine d_one (i := 8) (L' := #[tT,tT,tT,tT,tT,tT,tT,tT,tT,fF]) (by kernel_rfl) rfl rfl (st_call Try.call41 hA [(.agg (pA4u64.enc x233).toArray), (.int .u64 (ior .u64 r256 (ishl .u64 (IntKind.u64.wrap (((b_1.length : Nat) : Int).tmod 256)) 56)))] rfl (by decide) (ref04_absorb.calls _ _ _ _ _ _ (hM.front (Ms := [])) H260) ?_)
  clear hA; rintro _ w261 ⟨rfl, hMc⟩ a hA
  have hE := hMc.below; have hM := hM.call (Ms := []) hMc
  clear hMc; simp only [List.cons_append, List.nil_append] at hM
  replace hS := hS.trans (hE.mono hS.size)
  refine ⟨fun _ => hS, ?_⟩
  refine d_one (i := 9) (L' := #[tT,tT,tT,tT,tT,tT,tT,tT,tT,tT]) (by kernel_rfl) rfl rfl (e_store (g := g142) (off := 0) (cur := (pA4u64.enc x233)) (cs' := (pA4u64.enc r259)) hM .z Try.sizeOf83 hA rfl (by simp [add_mk]) rfl (agg_size _ _) (agg_one _ _) (Nat.le_of_ble_eq_true (enc_fitL _ _ rfl)) (spl_all (by first | rfl | (simp [Value.cells, Pl.len]; done) | (simp [Value.cells, Pl.len]; rfl))) ?_)
  clear hM hA; intro w262  hM hE  a hA
  refine ⟨fun h => absurd h (by decide), ?_⟩
  refine d_done (by kernel_rfl) ?_
  refine TN ?_
  refine wp_seq ?_
  refine wp_region_lit ?_
  refine L1 (stv hA (by decide) (run_idxarr Try.underlying83 Try.sizeOf22 (hA.ev rfl) (hA.ev rfl) (by decide) (by decide)) ?_)
  clear hA; intro a hA
  refine L1 (stv hA (by decide) (run_ld (hA.ev rfl) (run_loadS Try.isAgg22 (vec_at (hM.box .z) (by decide) (by decide)))) ?_)
  clear hA; intro a hA
  refine L1 (stv hA (by decide) (run_bin (hA.ev rfl) (hA.ev rfl) (bin_xor _ _ _ _)) ?_)
  clear hA; intro a hA
  refine L1 (stv hA (by decide) (run_idxarr Try.underlying83 Try.sizeOf22 (hA.ev rfl) (hA.ev rfl) (by decide) (by decide)) ?_)
  clear hA; intro a hA
  refine L1 (e_store (g := g142) (off := ((2 : Int).toNat * 1)) (cur := (pA4u64.enc r259)) (cs' := (pA4u64.enc (vs r259 (2 : Int) (ixor .u64 (vg r259 (2 : Int)) 255)))) hM .z Try.sizeOf22 hA rfl (by simp [add_mk]) rfl (by first | rfl | (simp [Value.cells, Pl.len]; done) | (simp [Value.cells, Pl.len]; rfl)) (one_val rfl) (by rw [Pl.len]; decide) (vec_spl _ _ (by decide) (by decide)) ?_)
  clear hM hA; intro w263  hM hE  a hA
  refine LQ ?_
  refine TN ?_
  refine wp_seq ?_
  refine wp_region_lit ?_
  refine L1 (stv hA (by decide) (run_ld (hA.ev rfl) (run_loadP Try.isAgg83 Try.sizeOf83 (hM.box .z))) ?_)
  clear hA; intro a hA
  obtain ⟨r264, H265, H⟩ := Option.bind_eq_some_iff.1 H
  refine L1 (st_call Try.call43 hA [(.agg (pA4u64.enc (vs r259 (2 : Int) (ixor .u64 (vg r259 (2 : Int)) 255))).toArray)] rfl (by decide) (ref04_round.calls _ _ _ _ _ (hM.front (Ms := [])) H265) ?_)
  clear hA; rintro _ w266 ⟨rfl, hMc⟩ a hA
  have hE := hMc.below; have hM := hM.call (Ms := []) hMc
  clear hMc; simp only [List.cons_append, List.nil_append] at hM
  obtain ⟨r267, H268, H⟩ := Option.bind_eq_some_iff.1 H
  refine L1 (st_call Try.call43 hA [(.agg (pA4u64.enc r264).toArray)] rfl (by decide) (ref04_round.calls _ _ _ _ _ (hM.front (Ms := [])) H268) ?_)
  clear hA; rintro _ w269 ⟨rfl, hMc⟩ a hA
  have hE := hMc.below; have hM := hM.call (Ms := []) hMc
  clear hMc; simp only [List.cons_append, List.nil_append] at hM
  obtain ⟨r270, H271, H⟩ := Option.bind_eq_some_iff.1 H
  refine L1 (st_call Try.call43 hA [(.agg (pA4u64.enc r267).toArray)] rfl (by decide) (ref04_round.calls _ _ _ _ _ (hM.front (Ms := [])) H271) ?_)
  clear hA; rintro _ w272 ⟨rfl, hMc⟩ a hA
  have hE := hMc.below; have hM := hM.call (Ms := []) hMc
  clear hMc; simp only [List.cons_append, List.nil_append] at hM
  obtain ⟨r273, H274, H⟩ := Option.bind_eq_some_iff.1 H
  refine L1 (st_call Try.call43 hA [(.agg (pA4u64.enc r270).toArray)] rfl (by decide) (ref04_round.calls _ _ _ _ _ (hM.front (Ms := [])) H274) ?_)
  clear hA; rintro _ w275 ⟨rfl, hMc⟩ a hA
  have hE := hMc.below; have hM := hM.call (Ms := []) hMc
  clear hMc; simp only [List.cons_append, List.nil_append] at hM
  refine L1 (e_store (g := g142) (off := 0) (cur := (pA4u64.enc (vs r259 (2 : Int) (ixor .u64 (vg r259 (2 : Int)) 255)))) (cs' := (pA4u64.enc r273)) hM .z Try.sizeOf83 hA rfl (by simp [add_mk]) rfl (agg_size _ _) (agg_one _ _) (Nat.le_of_ble_eq_true (enc_fitL _ _ rfl)) (spl_all (by first | rfl | (simp [Value.cells, Pl.len]; done) | (simp [Value.cells, Pl.len]; rfl))) ?_)
  clear hM hA; intro w276  hM hE  a hA
  refine LQ ?_
  refine TN ?_
  refine wp_seq ?_
  refine wp_region_lit ?_
  refine L1 (stv hA (by decide) (run_idxarr Try.underlying83 Try.sizeOf22 (hA.ev rfl) (hA.ev rfl) (by decide) (by decide)) ?_)
  clear hA; intro a hA
  refine L1 (stv hA (by decide) (run_ld (hA.ev rfl) (run_loadS Try.isAgg22 (vec_at (hM.box .z) (by decide) (by decide)))) ?_)
  clear hA; intro a hA
  refine L1 (stv hA (by decide) (run_idxarr Try.underlying83 Try.sizeOf22 (hA.ev rfl) (hA.ev rfl) (by decide) (by decide)) ?_)
  clear hA; intro a hA
  refine L1 (stv hA (by decide) (run_ld (hA.ev rfl) (run_loadS Try.isAgg22 (vec_at (hM.box .z) (by decide) (by decide)))) ?_)
  clear hA; intro a hA
  refine L1 (stv hA (by decide) (run_bin (hA.ev rfl) (hA.ev rfl) (bin_xor _ _ _ _)) ?_)
  clear hA; intro a hA
  refine L1 (stv hA (by decide) (run_idxarr Try.underlying83 Try.sizeOf22 (hA.ev rfl) (hA.ev rfl) (by decide) (by decide)) ?_)
  clear hA; intro a hA
  refine L1 (stv hA (by decide) (run_ld (hA.ev rfl) (run_loadS Try.isAgg22 (vec_at (hM.box .z) (by decide) (by decide)))) ?_)
  clear hA; intro a hA
  refine L1 (stv hA (by decide) (run_bin (hA.ev rfl) (hA.ev rfl) (bin_xor _ _ _ _)) ?_)
  clear hA; intro a hA
  refine L1 (stv hA (by decide) (run_idxarr Try.underlying83 Try.sizeOf22 (hA.ev rfl) (hA.ev rfl) (by decide) (by decide)) ?_)
  clear hA; intro a hA
  refine L1 (stv hA (by decide) (run_ld (hA.ev rfl) (run_loadS Try.isAgg22 (vec_at (hM.box .z) (by decide) (by decide)))) ?_)
  clear hA; intro a hA
  refine L1 (stv hA (by decide) (run_bin (hA.ev rfl) (hA.ev rfl) (bin_xor _ _ _ _)) ?_)
  clear hA; intro a hA
  refine L1 (stv hA (by decide) (run_assign (hA.ev rfl)) ?_)
  clear hA; intro a hA
  refine LQ ?_
  refine TN ?_
  refine wp_ret ?_
  obtain rfl := Option.some.inj H
  exact ret_post1 (fn := Try.f14) hA rfl rfl ⟨_, rfl, rfl, (hM.sel [] rfl (by decide))⟩

def ref04_Key.f (k : Nat) (h_0 : (Vector Int 32)) : Option (Vector Int 2) := ((ref04_word.f k (h_0.toList.take 8)).bind fun r24 => ((ref04_word.f k ((h_0.toList.take 16).drop 8)).bind fun r27 => (some ((((Vector.replicate 2 0 : Vector Int 2).setIfInBounds 0 r24).setIfInBounds 1 r27)))))
set_option maxHeartbeats 2000000 in
set_option maxRecDepth 100000 in
theorem ref04_Key.calls (k : Nat) (h_0 : (Vector Int 32)) (F : List (Option Nat)) (r : (Vector Int 2)) (w0 : World) (hM : Mem F w0 w0 []) (H : ref04_Key.f k h_0 = some r) :
    Calls Try.prog 18 #[(.agg (pHash.enc h_0).toArray)] w0 fun e w' => ∃ v, e = .returned v ∧ v = (.agg (pSipKey.enc r).toArray) ∧ Mem F w0 w' [] := by
  unfold ref04_Key.f at H
  refine enterL (n := 8) [(.agg (pHash.enc h_0).toArray)] Try.func18 rfl rfl rfl ?_
  intro a hA
  refine wp_seq ?_
  refine wp_region_lit ?_
  refine L1 (e_box (cs := (pHash.enc h_0)) hM hA rfl rfl (by decide) ?_)
  clear hM hA; intro w17 g16 hM hE  a hA
  refine L1 (e_alloc (cs := (pSipKey.enc (Vector.replicate 2 0 : Vector Int 2))) hM zero24 rfl hA (by decide) ?_)
  clear hM hA; intro w20 g19 hM hE  a hA
  refine LQ ?_
  refine TN ?_
  refine wp_seq ?_
  refine draw (fun w' => Below w20.heap.size w20 w') [5] rfl ?_
  intro w22 hw hS; replace hM := hM.ext hS; clear hw
  refine d_takef (i := 0) (L' := #[tT,fF,fF,fF,fF,fF]) rfl (by kernel_rfl) rfl (fun _ _ _ h => h) hA (by decide) (fun _ => hS) (fun a w' hA => run_arr0 Try.underlying33 Try.sizeOf5 8 (fun z hz => by cases hz) (fun _ => rfl) (fun z hz => by cases hz; exact ⟨_, hA.ev rfl⟩) (fun h => by cases h) (hA.ev rfl) (by decide)) ?_; clear hA; intro a hA
  refine d_takef (i := 2) (L' := #[tT,fF,tT,fF,fF,fF]) rfl (by kernel_rfl) rfl (fun _ _ _ h => h) hA (by decide) (fun _ => hS) (fun a w' hA => run_arr Try.underlying33 Try.sizeOf5 8 16 (fun z hz => by cases hz; exact ⟨_, hA.ev rfl⟩) (fun h => by cases h) (fun z hz => by cases hz; exact ⟨_, hA.ev rfl⟩) (fun h => by cases h) (hA.ev rfl) (by decide) (by decide)) ?_; clear hA; intro a hA
  obtain ⟨r24, H25, H⟩ := Option.bind_eq_some_iff.1 H
  refine d_one (i := 1) (L' := #[tT,tT,tT,fF,fF,fF]) (by kernel_rfl) rfl rfl (st_call Try.call42 hA [(.slice (some (⟨g16, 0, none⟩)) 8 32)] rfl (by decide) (ref04_word.calls _ _ _ _ _ _ ((RoV.mk (Ro.take (hM.arrC (Ms := []) (.s .z) rfl (Row.arr (hM.box (.s .z)))) 8) (len_take (vlen h_0) (by omega)) (by have hh1 := (Nat.le_refl 32); omega))) (hM.front (Ms := [])) H25) ?_)
  clear hA; rintro _ w26 ⟨rfl, hMc⟩ a hA
  have hE := hMc.below; have hM := hM.call (Ms := []) hMc
  clear hMc; simp only [List.cons_append, List.nil_append] at hM
  replace hS := hS.trans (hE.mono hS.size)
  refine ⟨fun _ => hS, ?_⟩
  obtain ⟨r27, H28, H⟩ := Option.bind_eq_some_iff.1 H
  refine d_one (i := 3) (L' := #[tT,tT,tT,tT,fF,fF]) (by kernel_rfl) rfl rfl (st_call Try.call42 hA [(.slice (adrop (some (⟨g16, 0, none⟩)) 32 8 1) (16 - 8) (32 - 8))] rfl (by decide) (ref04_word.calls _ _ _ _ _ _ ((RoV.mk (Ro.drop (c := 32) (Ro.take (hM.arrC (Ms := []) (.s .z) rfl (Row.arr (hM.box (.s .z)))) 16) (by have hh1 := (vlen h_0); rw [List.length_take]; omega) (by have hh1 := (vlen h_0); have hh2 := (Nat.le_refl 32); rw [List.length_take]; omega)) (len_td (vlen h_0) (by omega)) (by have hh1 := (Nat.le_refl 32); omega))) (hM.front (Ms := [])) H28) ?_)
  clear hA; rintro _ w29 ⟨rfl, hMc⟩ a hA
  have hE := hMc.below; have hM := hM.call (Ms := []) hMc
  clear hMc; simp only [List.cons_append, List.nil_append] at hM
  replace hS := hS.trans (hE.mono hS.size)
  refine ⟨fun _ => hS, ?_⟩
  refine d_takef (i := 4) (L' := #[tT,tT,tT,tT,tT,fF]) rfl (by kernel_rfl) rfl (fun _ _ _ h => h) hA (by decide) (fun _ => hS) (fun a w' hA => run_build_arr [(0, (.int .u64 r24)), (1, (.int .u64 r27))] zero24 Try.underlying24 Try.sizeOf22 hA rfl (fill_step rfl rfl (enc_fit _ _ rfl) (arr_eq (vec_spl' _ _ _ (by decide))) (fill_step rfl rfl (enc_fit _ _ rfl) (arr_eq (vec_spl' _ _ _ (by decide))) (fill_nil)))) ?_; clear hA; intro a hA
  refine d_one (i := 5) (L' := #[tT,tT,tT,tT,tT,tT]) (by kernel_rfl) rfl rfl (e_store (g := g19) (off := 0) (cur := (pSipKey.enc (Vector.replicate 2 0 : Vector Int 2))) (cs' := (pSipKey.enc ((((Vector.replicate 2 0 : Vector Int 2).setIfInBounds 0 r24).setIfInBounds 1 r27)))) hM .z Try.sizeOf24 hA rfl (by simp [add_mk]) rfl (agg_size _ _) (agg_one _ _) (Nat.le_of_ble_eq_true (enc_fitL _ _ rfl)) (spl_all (by first | rfl | (simp [Value.cells, Pl.len]; done) | (simp [Value.cells, Pl.len]; rfl))) ?_)
  clear hM hA; intro w30  hM hE  a hA
  refine ⟨fun h => absurd h (by decide), ?_⟩
  refine d_done (by kernel_rfl) ?_
  refine TN ?_
  refine wp_ret ?_
  obtain rfl := Option.some.inj H
  exact ret_cell (fn := Try.f18) hA rfl rfl (run_loadP Try.isAgg24 Try.sizeOf24 (hM.box .z)) ⟨_, rfl, rfl, (hM.sel [] rfl (by decide))⟩

def ref38_Group.f (k : Nat) (a_0 : NAddr) : Option Int := (some (ishr .u32 a_0.Host 16))
set_option maxHeartbeats 2000000 in
set_option maxRecDepth 100000 in
theorem ref38_Group.calls (k : Nat) (a_0 : NAddr) (F : List (Option Nat)) (r : Int) (w0 : World) (hM : Mem F w0 w0 []) (H : ref38_Group.f k a_0 = some r) :
    Calls Try.prog 79 #[(.agg (pNAddr.enc a_0).toArray)] w0 fun e w' => ∃ v, e = .returned v ∧ v = (.int .u32 r) ∧ Mem F w0 w' [] := by
  unfold ref38_Group.f at H
  refine enterL (n := 6) [(.agg (pNAddr.enc a_0).toArray)] Try.func79 rfl rfl rfl ?_
  intro a hA
  refine wp_seq ?_
  refine wp_region_lit ?_
  refine L1 (e_box (cs := (pNAddr.enc a_0)) hM hA rfl rfl (by decide) ?_)
  clear hM hA; intro w5 g4 hM hE  a hA
  refine L1 (stv hA (by decide) (run_assign (hA.ev rfl)) ?_)
  clear hA; intro a hA
  refine LQ ?_
  refine TN ?_
  refine wp_seq ?_
  refine wp_region_lit ?_
  refine L1 (stv hA (by decide) (run_field' Try.underlying46 rfl rfl Try.sizeOf43 (by decide) (hA.ev rfl)) ?_)
  clear hA; intro a hA
  refine L1 (stv hA (by decide) (run_ld (hA.ev rfl) (run_loadS Try.isAgg43 (NAddr.at_Host (hM.box .z)))) ?_)
  clear hA; intro a hA
  refine L1 (stv hA (by decide) (run_shr (hA.ev rfl) (hA.ev rfl) (by decide)) ?_)
  clear hA; intro a hA
  refine L1 (stv hA (by decide) (run_assign (hA.ev rfl)) ?_)
  clear hA; intro a hA
  refine LQ ?_
  refine TN ?_
  refine wp_ret ?_
  obtain rfl := Option.some.inj H
  exact ret_post1 (fn := Try.f79) hA rfl rfl ⟨_, rfl, rfl, (hM.sel [] rfl (by decide))⟩

def ref01_joined.f (k : Nat) (a_0 : (List Int)) (b_1 : (List Int)) : Option (List Int) := (if 0 ≤ (0 : Int) ∧ (0 : Int) ≤ (IntKind.i64.wrap (((a_0.length : Nat) : Int) + ((b_1.length : Nat) : Int))) ∧ (IntKind.i64.wrap (((a_0.length : Nat) : Int) + ((b_1.length : Nat) : Int))) * 1 ≤ 140737488355328 then (if ((0 : Int).toNat + a_0.length) * 1 ≤ 140737488355328 then (if (((0 : Int).toNat + a_0.length) + b_1.length) * 1 ≤ 140737488355328 then (some (((List.replicate ((0 : Int).toNat) (0 : Int)) ++ a_0) ++ b_1)) else none) else none) else none)
set_option maxHeartbeats 2000000 in
set_option maxRecDepth 100000 in
theorem ref01_joined.calls (k : Nat) (a_0 : (List Int)) (b_1 : (List Int)) (F : List (Option Nat)) (v0 : Value) (v1 : Value) (r : (List Int)) (w0 : World) (h0 : RoV F (Pl.int .u8) w0 v0 a_0) (h1 : RoV F (Pl.int .u8) w0 v1 b_1) (hM : Mem F w0 w0 []) (H : ref01_joined.f k a_0 b_1 = some r) :
    Calls Try.prog 100 #[v0, v1] w0 fun e w' => ∃ v, e = .returned v ∧ ∃ (ur_0 : Value), v = ur_0 ∧ Mem F w0 w' [.row 5 (Pl.int .u8).sz ur_0 ((Pl.int .u8).flat r)] := by
  unfold ref01_joined.f at H
  obtain ⟨A0, c0, rfl, hr0, hc0⟩ := h0
  obtain ⟨A1, c1, rfl, hr1, hc1⟩ := h1
  refine enterL (n := 17) [(.slice A0 a_0.length c0), (.slice A1 b_1.length c1)] Try.func100 rfl rfl rfl ?_
  intro a hA
  refine wp_seq ?_
  refine wp_region_lit ?_
  refine L1 (stv hA (by decide) (run_assign (hA.ev rfl)) ?_)
  clear hA; intro a hA
  refine LQ ?_
  refine TN ?_
  refine wp_seq ?_
  refine wp_region_lit ?_
  refine L1 (stv hA (by decide) (run_move (hA.ev rfl)) ?_)
  clear hA; intro a hA
  refine L1 (stv hA (by decide) (run_len_slice Try.underlying25 (hA.ev rfl)) ?_)
  clear hA; intro a hA
  refine L1 (stv hA (by decide) (run_move (hA.ev rfl)) ?_)
  clear hA; intro a hA
  refine L1 (stv hA (by decide) (run_len_slice Try.underlying25 (hA.ev rfl)) ?_)
  clear hA; intro a hA
  refine L1 (stv hA (by decide) (run_bin (hA.ev rfl) (hA.ev rfl) (bin_add _ _ _ _)) ?_)
  clear hA; intro a hA
  obtain ⟨⟨hi16, hk17, hj18⟩, H⟩ := ite_some H
  refine L1 (e_makeR elt25 rfl hM hA rfl rfl hi16 hk17 hj18 (by decide) ?_)
  clear hM hA; intro w19 g15 hM hE  a hA
  refine L1 (stv hA (by decide) (run_assign (hA.ev rfl)) ?_)
  clear hA; intro a hA
  refine LQ ?_
  refine TN ?_
  refine wp_seq ?_
  refine wp_region_lit ?_
  refine L1 (stv hA (by decide) (run_move (hA.ev rfl)) ?_)
  clear hA; intro a hA
  refine L1 (stv hA (by decide) (run_move (hA.ev rfl)) ?_)
  clear hA; intro a hA
  obtain ⟨hl23, H⟩ := ite_some H
  refine L1 (e_append elt25 hM (fun _ => .z) (Src.row Try.underlying25 (hM.ro hr0) (Eq.refl a_0.length)) hl23 hA rfl rfl (by decide) ?_)
  clear hM hA; intro w24 A21 c22 hM hE  a hA
  refine L1 (stv hA (by decide) (run_move (hA.ev rfl)) ?_)
  clear hA; intro a hA
  obtain ⟨hl27, H⟩ := ite_some H
  refine L1 (e_append elt25 hM (fun _ => .z) (Src.row Try.underlying25 (hM.ro hr1) (Eq.refl b_1.length)) hl27 hA rfl rfl (by decide) ?_)
  clear hM hA; intro w28 A25 c26 hM hE  a hA
  refine L1 (stv hA (by decide) (run_assign (hA.ev rfl)) ?_)
  clear hA; intro a hA
  refine LQ ?_
  refine TN ?_
  refine wp_ret ?_
  obtain rfl := Option.some.inj H
  exact ret_post1 (fn := Try.f100) hA rfl rfl ⟨_, rfl, (.slice A25 (((0 : Int).toNat + a_0.length) + b_1.length) c26), rfl, hM⟩

def ref01_little.l0 (v_0 : Int) (n_1 : Int) : Nat → (List Int) → Int → Option ((List Int))
  | 0, _, _ => none
  | k + 1, xs112, t115 => (if (decide (t115 < ((n_1.toNat : Nat) : Int))) = true then (if 0 ≤ (IntKind.i64.wrap (8 * t115)) then (if 0 ≤ t115 ∧ t115 < ((n_1.toNat : Nat) : Int) then (ref01_little.l0 v_0 n_1 k (xs112.set t115.toNat (IntKind.u8.wrap (ishr .u64 v_0 (IntKind.i64.wrap (8 * t115))))) (IntKind.i64.wrap (t115 + 1))) else none) else none) else (some xs112))
def ref01_little.f (k : Nat) (v_0 : Int) (n_1 : Int) : Option (List Int) := (if 0 ≤ n_1 ∧ n_1 * 1 ≤ 140737488355328 then (Option.bind (α := (List Int)) (ref01_little.l0 v_0 n_1 k (List.replicate n_1.toNat (0 : Int)) 0) (fun xs117 => (some xs117))) else none)
set_option maxHeartbeats 2000000 in
set_option maxRecDepth 100000 in
theorem ref01_little.calls (k : Nat) (v_0 : Int) (n_1 : Int) (F : List (Option Nat)) (r : (List Int)) (w0 : World) (hM : Mem F w0 w0 []) (H : ref01_little.f k v_0 n_1 = some r) :
    Calls Try.prog 101 #[(.int .u64 v_0), (.int .i64 n_1)] w0 fun e w' => ∃ v, e = .returned v ∧ ∃ (ur_0 : Value), v = ur_0 ∧ Mem F w0 w' [.row 5 (Pl.int .u8).sz ur_0 ((Pl.int .u8).flat r)] := by
  unfold ref01_little.f at H
  refine enterL (n := 24) [(.int .u64 v_0), (.int .i64 n_1)] Try.func101 rfl rfl rfl ?_
  intro a hA
  refine wp_seq ?_
  refine wp_region_lit ?_
  refine L1 (stv hA (by decide) (run_assign (hA.ev rfl)) ?_)
  clear hA; intro a hA
  refine LQ ?_
  refine TN ?_
  refine wp_seq ?_
  refine wp_region_lit ?_
  refine L1 (stv hA (by decide) (run_move (hA.ev rfl)) ?_)
  clear hA; intro a hA
  obtain ⟨⟨hi67, hj68⟩, H⟩ := ite_some H
  refine L1 (e_make elt25 rfl hM hA rfl rfl hi67 hj68 (by decide) ?_)
  clear hM hA; intro w69 g66 hM hE  a hA
  refine L1 (stv hA (by decide) (run_assign (hA.ev rfl)) ?_)
  clear hA; intro a hA
  refine LQ ?_
  refine TN ?_
  refine wp_seq ?_
  refine wp_seq ?_
  refine wp_region_lit ?_
  refine L1 (stv hA (by decide) (run_move (hA.ev rfl)) ?_)
  clear hA; intro a hA
  refine L1 (stv hA (by decide) (run_len_slice Try.underlying25 (hA.ev rfl)) ?_)
  clear hA; intro a hA
  refine L1 (stv hA (by decide) (run_move (hA.ev rfl)) ?_)
  clear hA; intro a hA
  refine LQ ?_
  refine TN ?_
  obtain ⟨o119, H118, H⟩ := Option.bind_eq_some_iff.1 H
  refine cutC (fun a w => ∃ (xs117 : (List Int)), xs117 = o119 ∧ Mem F w0 w [.row 5 (Pl.int .u8).sz (.slice (some ⟨g66, 0, none⟩) n_1.toNat n_1.toNat) ((Pl.int .u8).flat xs117)] ∧ Has 24 [(5, (.slice (some ⟨g66, 0, none⟩) n_1.toNat n_1.toNat))] a) ?_ ?_
  · refine wp_block ?_
    refine wp_loop_ghost (fun m a w => ∃ (xs112 : (List Int)) (t115 : Int), ref01_little.l0 v_0 n_1 m xs112 t115 = some o119 ∧ Mem F w0 w [.row 5 (Pl.int .u8).sz (.slice (some ⟨g66, 0, none⟩) n_1.toNat n_1.toNat) ((Pl.int .u8).flat xs112)] ∧ Has 24 [(0, (.int .u64 v_0)), (5, (.slice (some ⟨g66, 0, none⟩) n_1.toNat n_1.toNat)), (10, (.int .i64 ((n_1.toNat : Nat) : Int))), (11, (.int .i64 t115))] a) k ⟨(List.replicate n_1.toNat (0 : Int)), 0, H118, hM, ((((hA.nil.cons (hA.get 11 _ rfl)).cons (hA.get 10 _ rfl)).cons (hA.get 5 _ rfl)).cons (hA.get 0 _ rfl))⟩ ?_
    clear hM hA; rintro m120 a w121 ⟨xs112, t115, H118, hM, hA⟩
    cases m120 with
    | zero => exact absurd H118 (by simp [ref01_little.l0])
    | succ m120 =>
    rw [ref01_little.l0] at H118
    refine wp_seq ?_
    refine wp_region_lit ?_
    refine L1 (stv hA (by decide) (run_bin (hA.ev rfl) (hA.ev rfl) (bin_lss _ _ _ _)) ?_)
    clear hA; intro a hA
    refine LQ ?_
    refine TN ?_
    refine wp_seq ?_
    refine tcond (b := (decide (t115 < ((n_1.toNat : Nat) : Int)))) hA rfl (fun hb122 => ?_) (fun hb122 => ?_)
    · replace H118 := ite_t hb122 H118
      refine wp_skip ?_
      refine TN ?_
      refine wp_seq ?_
      refine wp_block ?_
      refine wp_seq ?_
      refine wp_region_lit ?_
      refine L1 (stv hA (by decide) (run_move (hA.ev rfl)) ?_)
      clear hA; intro a hA
      refine L1 (stv hA (by decide) (run_assign (hA.ev rfl)) ?_)
      clear hA; intro a hA
      refine LQ ?_
      refine TN ?_
      refine wp_region_lit ?_
      refine L1 (stv hA (by decide) (run_move (hA.ev rfl)) ?_)
      clear hA; intro a hA
      refine L1 (stv hA (by decide) (run_move (hA.ev rfl)) ?_)
      clear hA; intro a hA
      refine L1 (stv hA (by decide) (run_move (hA.ev rfl)) ?_)
      clear hA; intro a hA
      refine L1 (stv hA (by decide) (run_move (hA.ev rfl)) ?_)
      clear hA; intro a hA
      refine L1 (stv hA (by decide) (run_bin (hA.ev rfl) (hA.ev rfl) (bin_mul _ _ _ _)) ?_)
      clear hA; intro a hA
      obtain ⟨hs123, H118⟩ := ite_some H118
      refine L1 (stv hA (by decide) (run_shr (hA.ev rfl) (hA.ev rfl) hs123) ?_)
      clear hA; intro a hA
      refine L1 (stv hA (by decide) (run_conv Try.underlying22 Try.underlying5 (hA.ev rfl)) ?_)
      clear hA; intro a hA
      obtain ⟨⟨hi124, hj125⟩, H118⟩ := ite_some H118
      obtain ⟨ad126, hq127, hat128⟩ := Row.elem' (p := (Pl.int .u8)) (RowOk.row (hM.row (p := (Pl.int .u8)) .z)) (RowOk.len (hM.row (p := (Pl.int .u8)) .z)) (0 : Int) t115 hi124 hj125
      refine L1 (stv hA (by decide) (run_idx Try.underlying25 Try.sizeOf5 (hA.ev rfl) hq127 (hA.ev rfl) hi124 hj125) ?_)
      clear hA; intro a hA
      refine L1 (e_setrow (x1 := (xs112.getD t115.toNat (0 : Int))) (y1 := IntKind.u8.wrap (ishr .u64 v_0 (IntKind.i64.wrap (8 * t115)))) (off := 0) hM .z Try.sizeOf5 hA rfl rfl hq127 rfl (by first | rfl | (simp [Value.cells, Pl.len]; done) | (simp [Value.cells, Pl.len]; rfl)) (one_val rfl) hi124 hj125 (getD_getD _ _ _) (by decide) (spl_all (by first | rfl | simp [Value.cells, Pl.len] | (simp only [Value.cells, Pl.len, List.length_cons, List.length_nil]; done))) ?_)
      clear hM hA; intro w129  hM hE  a hA
      refine LQ ?_
      refine BN ?_
      refine TN ?_
      refine wp_region_lit ?_
      refine L1 (stv hA (by decide) (run_bin (hA.ev rfl) (hA.ev rfl) (bin_add _ _ _ _)) ?_)
      clear hA; intro a hA
      refine L1 (stv hA (by decide) (run_move (hA.ev rfl)) ?_)
      clear hA; intro a hA
      refine LQ ?_
      exact ⟨_, Nat.lt_succ_self m120, (xs112.set t115.toNat (IntKind.u8.wrap (ishr .u64 v_0 (IntKind.i64.wrap (8 * t115))))), IntKind.i64.wrap (t115 + 1), H118, hM, ((((hA.nil.cons (hA.get 11 _ rfl)).cons (hA.get 10 _ rfl)).cons (hA.get 5 _ rfl)).cons (hA.get 0 _ rfl))⟩
    · replace H118 := ite_f hb122 H118
      refine wp_exit ?_
      refine TX ?_
      refine TX ?_
      refine BX ?_
      exact ⟨xs112, Option.some.inj H118, hM, (hA.nil.cons (hA.get 5 _ rfl))⟩
  clear hM hA
  rintro a w130 ⟨xs117, rfl, hM, hA⟩
  try dsimp only at H
  refine TN ?_
  refine wp_seq ?_
  refine wp_region_lit ?_
  refine L1 (stv hA (by decide) (run_move (hA.ev rfl)) ?_)
  clear hA; intro a hA
  refine L1 (stv hA (by decide) (run_assign (hA.ev rfl)) ?_)
  clear hA; intro a hA
  refine LQ ?_
  refine TN ?_
  refine wp_ret ?_
  obtain rfl := Option.some.inj H
  exact ret_post1 (fn := Try.f101) hA rfl rfl ⟨_, rfl, (.slice (some ⟨g66, 0, none⟩) n_1.toNat n_1.toNat), rfl, hM⟩

def ref01_AppendU16.f (k : Nat) (b_0 : (List Int)) (n_1 : Int) : Option (List Int) := ((ref01_little.f k (IntKind.u64.wrap n_1) 2).bind fun r15 => ((ref01_joined.f k b_0 r15).bind fun r22 => (some r22)))
set_option maxHeartbeats 2000000 in
set_option maxRecDepth 100000 in
theorem ref01_AppendU16.calls (k : Nat) (b_0 : (List Int)) (n_1 : Int) (F : List (Option Nat)) (v0 : Value) (r : (List Int)) (w0 : World) (h0 : RoV F (Pl.int .u8) w0 v0 b_0) (hM : Mem F w0 w0 []) (H : ref01_AppendU16.f k b_0 n_1 = some r) :
    Calls Try.prog 93 #[v0, (.int .u16 n_1)] w0 fun e w' => ∃ v, e = .returned v ∧ ∃ (ur_0 : Value), v = ur_0 ∧ Mem F w0 w' [.row 5 (Pl.int .u8).sz ur_0 ((Pl.int .u8).flat r)] := by
  unfold ref01_AppendU16.f at H
  obtain ⟨A0, c0, rfl, hr0, hc0⟩ := h0
  refine enterL (n := 10) [(.slice A0 b_0.length c0), (.int .u16 n_1)] Try.func93 rfl rfl rfl ?_
  intro a hA
  refine wp_seq ?_
  refine wp_region_lit ?_
  refine L1 (stv hA (by decide) (run_assign (hA.ev rfl)) ?_)
  clear hA; intro a hA
  refine LQ ?_
  refine TN ?_
  refine wp_seq ?_
  refine wp_region_lit ?_
  refine L1 (stv hA (by decide) (run_move (hA.ev rfl)) ?_)
  clear hA; intro a hA
  refine L1 (stv hA (by decide) (run_move (hA.ev rfl)) ?_)
  clear hA; intro a hA
  refine L1 (stv hA (by decide) (run_conv Try.underlying44 Try.underlying22 (hA.ev rfl)) ?_)
  clear hA; intro a hA
  obtain ⟨r15, H16, H⟩ := Option.bind_eq_some_iff.1 H
  refine L1 (st_call Try.call101 hA [(.int .u64 (IntKind.u64.wrap n_1)), (.int .i64 2)] rfl (by decide) (ref01_little.calls _ _ _ _ _ _ (hM.front (Ms := [])) H16) ?_)
  clear hA; rintro _ w17 ⟨v18, rfl, hMc⟩ a hA
  have hE := hMc.below; have hM := hM.call (Ms := []) hMc
  clear hMc; simp only [List.cons_append, List.nil_append] at hM
  obtain ⟨A20, c21, rfl⟩ := RowOk.form (hM.row (p := (Pl.int .u8)) .z)
  obtain ⟨r22, H23, H⟩ := Option.bind_eq_some_iff.1 H
  refine L1 (st_call Try.call100 hA [(.slice A0 b_0.length c0), (.slice A20 r15.length c21)] rfl (by decide) (ref01_joined.calls _ _ _ _ _ _ _ _ ((RoV.mk (hM.roC (Ms := []) hr0) (Eq.refl b_0.length) hc0)) ((hM.roV (p := (Pl.int .u8)) (Ms := []) .z)) (hM.front (Ms := [])) H23) ?_)
  clear hA; rintro _ w24 ⟨v25, rfl, hMc⟩ a hA
  have hE := hMc.below; have hM := hM.call (Ms := []) hMc
  clear hMc; simp only [List.cons_append, List.nil_append] at hM
  obtain ⟨A27, c28, rfl⟩ := RowOk.form (hM.row (p := (Pl.int .u8)) .z)
  refine L1 (stv hA (by decide) (run_assign (hA.ev rfl)) ?_)
  clear hA; intro a hA
  refine LQ ?_
  refine TN ?_
  refine wp_ret ?_
  obtain rfl := Option.some.inj H
  exact ret_post1 (fn := Try.f93) hA rfl rfl ⟨_, rfl, (.slice A27 r22.length c28), rfl, (hM.sel [0] rfl (by decide))⟩

def ref01_AppendU32.f (k : Nat) (b_0 : (List Int)) (n_1 : Int) : Option (List Int) := ((ref01_little.f k (IntKind.u64.wrap n_1) 4).bind fun r15 => ((ref01_joined.f k b_0 r15).bind fun r22 => (some r22)))
set_option maxHeartbeats 2000000 in
set_option maxRecDepth 100000 in
theorem ref01_AppendU32.calls (k : Nat) (b_0 : (List Int)) (n_1 : Int) (F : List (Option Nat)) (v0 : Value) (r : (List Int)) (w0 : World) (h0 : RoV F (Pl.int .u8) w0 v0 b_0) (hM : Mem F w0 w0 []) (H : ref01_AppendU32.f k b_0 n_1 = some r) :
    Calls Try.prog 94 #[v0, (.int .u32 n_1)] w0 fun e w' => ∃ v, e = .returned v ∧ ∃ (ur_0 : Value), v = ur_0 ∧ Mem F w0 w' [.row 5 (Pl.int .u8).sz ur_0 ((Pl.int .u8).flat r)] := by
  unfold ref01_AppendU32.f at H
  obtain ⟨A0, c0, rfl, hr0, hc0⟩ := h0
  refine enterL (n := 10) [(.slice A0 b_0.length c0), (.int .u32 n_1)] Try.func94 rfl rfl rfl ?_
  intro a hA
  refine wp_seq ?_
  refine wp_region_lit ?_
  refine L1 (stv hA (by decide) (run_assign (hA.ev rfl)) ?_)
  clear hA; intro a hA
  refine LQ ?_
  refine TN ?_
  refine wp_seq ?_
  refine wp_region_lit ?_
  refine L1 (stv hA (by decide) (run_move (hA.ev rfl)) ?_)
  clear hA; intro a hA
  refine L1 (stv hA (by decide) (run_move (hA.ev rfl)) ?_)
  clear hA; intro a hA
  refine L1 (stv hA (by decide) (run_conv Try.underlying43 Try.underlying22 (hA.ev rfl)) ?_)
  clear hA; intro a hA
  obtain ⟨r15, H16, H⟩ := Option.bind_eq_some_iff.1 H
  refine L1 (st_call Try.call101 hA [(.int .u64 (IntKind.u64.wrap n_1)), (.int .i64 4)] rfl (by decide) (ref01_little.calls _ _ _ _ _ _ (hM.front (Ms := [])) H16) ?_)
  clear hA; rintro _ w17 ⟨v18, rfl, hMc⟩ a hA
  have hE := hMc.below; have hM := hM.call (Ms := []) hMc
  clear hMc; simp only [List.cons_append, List.nil_append] at hM
  obtain ⟨A20, c21, rfl⟩ := RowOk.form (hM.row (p := (Pl.int .u8)) .z)
  obtain ⟨r22, H23, H⟩ := Option.bind_eq_some_iff.1 H
  refine L1 (st_call Try.call100 hA [(.slice A0 b_0.length c0), (.slice A20 r15.length c21)] rfl (by decide) (ref01_joined.calls _ _ _ _ _ _ _ _ ((RoV.mk (hM.roC (Ms := []) hr0) (Eq.refl b_0.length) hc0)) ((hM.roV (p := (Pl.int .u8)) (Ms := []) .z)) (hM.front (Ms := [])) H23) ?_)
  clear hA; rintro _ w24 ⟨v25, rfl, hMc⟩ a hA
  have hE := hMc.below; have hM := hM.call (Ms := []) hMc
  clear hMc; simp only [List.cons_append, List.nil_append] at hM
  obtain ⟨A27, c28, rfl⟩ := RowOk.form (hM.row (p := (Pl.int .u8)) .z)
  refine L1 (stv hA (by decide) (run_assign (hA.ev rfl)) ?_)
  clear hA; intro a hA
  refine LQ ?_
  refine TN ?_
  refine wp_ret ?_
  obtain rfl := Option.some.inj H
  exact ret_post1 (fn := Try.f94) hA rfl rfl ⟨_, rfl, (.slice A27 r22.length c28), rfl, (hM.sel [0] rfl (by decide))⟩

def ref38_TriedBucket.f (k : Nat) (salt_0 : (Vector Int 32)) (a_1 : NAddr) : Option Int := ((ref04_Key.f k salt_0).bind fun r164 => ((ref01_AppendU32.f k [(4 : Int)] a_1.Host).bind fun r177 => ((ref01_AppendU16.f k r177 a_1.Port).bind fun r184 => ((ref04_Sum.f k r164 r184).bind fun r191 => (Option.bind (α := Int) ((ref38_Group.f k a_1).bind fun r261 => ((ref01_AppendU32.f k [(3 : Int)] r261).bind fun r264 => ((ref01_AppendU32.f k r264 (IntKind.u32.wrap (r191.tmod 4))).bind fun r271 => ((ref04_Sum.f k r164 r271).bind fun r278 => (some (IntKind.i64.wrap (r278.tmod 64))))))) (fun t253 => (some t253)))))))
set_option maxHeartbeats 2000000 in
set_option maxRecDepth 100000 in
theorem ref38_TriedBucket.calls (k : Nat) (salt_0 : (Vector Int 32)) (a_1 : NAddr) (F : List (Option Nat)) (r : Int) (w0 : World) (hM : Mem F w0 w0 []) (H : ref38_TriedBucket.f k salt_0 a_1 = some r) :
    Calls Try.prog 75 #[(.agg (pHash.enc salt_0).toArray), (.agg (pNAddr.enc a_1).toArray)] w0 fun e w' => ∃ v, e = .returned v ∧ v = (.int .i64 r) ∧ Mem F w0 w' [] := by
  unfold ref38_TriedBucket.f at H
  refine enterL (n := 30) [(.agg (pHash.enc salt_0).toArray), (.agg (pNAddr.enc a_1).toArray)] Try.func75 rfl rfl rfl ?_
  intro a hA
  refine wp_seq ?_
  refine wp_region_lit ?_
  refine L1 (e_box (cs := (pHash.enc salt_0)) hM hA rfl rfl (by decide) ?_)
  clear hM hA; intro w159 g158 hM hE  a hA
  refine L1 (e_box (cs := (pNAddr.enc a_1)) hM hA rfl rfl (by decide) ?_)
  clear hM hA; intro w162 g161 hM hE  a hA
  refine L1 (stv hA (by decide) (run_assign (hA.ev rfl)) ?_)
  clear hA; intro a hA
  refine LQ ?_
  refine TN ?_
  refine wp_seq ?_
  refine wp_region_lit ?_
  refine L1 (stv hA (by decide) (run_ld (hA.ev rfl) (run_loadP Try.isAgg33 Try.sizeOf33 (hM.box (.s .z)))) ?_)
  clear hA; intro a hA
  obtain ⟨r164, H165, H⟩ := Option.bind_eq_some_iff.1 H
  refine L1 (st_call Try.call18 hA [(.agg (pHash.enc salt_0).toArray)] rfl (by decide) (ref04_Key.calls _ _ _ _ _ (hM.front (Ms := [])) H165) ?_)
  clear hA; rintro _ w166 ⟨rfl, hMc⟩ a hA
  have hE := hMc.below; have hM := hM.call (Ms := []) hMc
  clear hMc; simp only [List.cons_append, List.nil_append] at hM
  refine L1 (e_alloc (cs := (pSipKey.enc (Vector.replicate 2 0 : Vector Int 2))) hM zero24 rfl hA (by decide) ?_)
  clear hM hA; intro w168 g167 hM hE  a hA
  refine L1 (e_store (g := g167) (off := 0) (cur := (pSipKey.enc (Vector.replicate 2 0 : Vector Int 2))) (cs' := (pSipKey.enc r164)) hM .z Try.sizeOf24 hA rfl (by simp [add_mk]) rfl (agg_size _ _) (agg_one _ _) (Nat.le_of_ble_eq_true (enc_fitL _ _ rfl)) (spl_all (by first | rfl | (simp [Value.cells, Pl.len]; done) | (simp [Value.cells, Pl.len]; rfl))) ?_)
  clear hM hA; intro w170  hM hE  a hA
  refine LQ ?_
  refine TN ?_
  refine wp_seq ?_
  refine draw (fun w' => Below w170.heap.size w170 w') [] rfl ?_
  intro w171 hw hS; replace hM := hM.ext hS; clear hw
  refine rebase hS ?_; clear hS; intro hS
  refine d_take (i := 0) (L' := #[tT,fF,fF,fF,fF,fF,fF,fF,fF,fF,fF]) rfl (by kernel_rfl) rfl (fun _ _ _ h => h) hA (by decide) rfl hS (fun a w' hA hS' => run_ld (hA.ev rfl) (run_loadP Try.isAgg24 Try.sizeOf24 ((hM.box .z).extB hS'))) ?_; clear hA; intro a hA
  refine d_takef (i := 2) (L' := #[tT,fF,tT,fF,fF,fF,fF,fF,fF,fF,fF]) rfl (by kernel_rfl) rfl (fun _ _ _ h => h) hA (by decide) (fun _ => hS) (fun a w' hA => run_field' Try.underlying46 rfl rfl Try.sizeOf43 (by decide) (hA.ev rfl)) ?_; clear hA; intro a hA
  refine d_take (i := 3) (L' := #[tT,fF,tT,tT,fF,fF,fF,fF,fF,fF,fF]) rfl (by kernel_rfl) rfl (fun _ _ _ h => h) hA (by decide) rfl hS (fun a w' hA hS' => run_ld (hA.ev rfl) (run_loadS Try.isAgg43 ((NAddr.at_Host (hM.box (.s .z))).extB hS'))) ?_; clear hA; intro a hA
  refine d_takef (i := 5) (L' := #[tT,fF,tT,tT,fF,tT,fF,fF,fF,fF,fF]) rfl (by kernel_rfl) rfl (fun _ _ _ h => h) hA (by decide) (fun _ => hS) (fun a w' hA => run_field' Try.underlying46 rfl rfl Try.sizeOf44 (by decide) (hA.ev rfl)) ?_; clear hA; intro a hA
  refine d_take (i := 6) (L' := #[tT,fF,tT,tT,fF,tT,tT,fF,fF,fF,fF]) rfl (by kernel_rfl) rfl (fun _ _ _ h => h) hA (by decide) rfl hS (fun a w' hA hS' => run_ld (hA.ev rfl) (run_loadS Try.isAgg44 ((NAddr.at_Port (hM.box (.s .z))).extB hS'))) ?_; clear hA; intro a hA
  refine d_one (i := 1) (L' := #[tT,tT,tT,tT,fF,tT,tT,fF,fF,fF,fF]) (by kernel_rfl) rfl rfl (e_litNL [(4 : Int)] [(.int .u8 4)] elt25 hM rfl (by decide) hA rfl rfl (List.cons_ne_nil _ _) (by decide) ?_)
  clear hM hA; intro w174 g173 hM hE hlo175 a hA
  have hlw176 : ∀ k, Value.ownBlock (.slice (some ⟨g173, 0, none⟩) 1 1) = some k → w171.heap.size ≤ k := fun k hk => by cases hk; exact Nat.le_trans hS.size hlo175
  replace hS := hS.trans (hE.mono hS.size)
  refine ⟨fun _ => hS, ?_⟩
  obtain ⟨r177, H178, H⟩ := Option.bind_eq_some_iff.1 H
  refine d_one (i := 4) (L' := #[tT,tT,tT,tT,tT,tT,tT,fF,fF,fF,fF]) (by kernel_rfl) rfl rfl (st_call Try.call94 hA [(.slice (some ⟨g173, 0, none⟩) 1 1), (.int .u32 a_1.Host)] rfl (by decide) (ref01_AppendU32.calls _ _ _ _ _ _ _ ((hM.roV (p := (Pl.int .u8)) (Ms := []) .z)) (hM.front (Ms := [])) H178) ?_)
  clear hA; rintro _ w179 ⟨v180, rfl, hMc⟩ a hA
  have hE := hMc.below; have hM := hM.call (Ms := []) hMc
  have hlw181 : ∀ k, _ → w171.heap.size ≤ k := fun k hk => Nat.le_trans hS.size ((hMc.low _ (List.Mem.head _) k hk).resolve_right (by simp))
  clear hMc; simp only [List.cons_append, List.nil_append] at hM
  obtain ⟨A182, c183, rfl⟩ := RowOk.form (hM.row (p := (Pl.int .u8)) .z)
  replace hS := hS.trans (hE.mono hS.size)
  refine ⟨fun _ => hS, ?_⟩
  obtain ⟨r184, H185, H⟩ := Option.bind_eq_some_iff.1 H
  refine d_one (i := 7) (L' := #[tT,tT,tT,tT,tT,tT,tT,tT,fF,fF,fF]) (by kernel_rfl) rfl rfl (st_call Try.call93 hA [(.slice A182 r177.length c183), (.int .u16 a_1.Port)] rfl (by decide) (ref01_AppendU16.calls _ _ _ _ _ _ _ ((hM.roV (p := (Pl.int .u8)) (Ms := []) .z)) (hM.front (Ms := [])) H185) ?_)
  clear hA; rintro _ w186 ⟨v187, rfl, hMc⟩ a hA
  have hE := hMc.below; have hM := hM.call (Ms := []) hMc
  have hlw188 : ∀ k, _ → w171.heap.size ≤ k := fun k hk => Nat.le_trans hS.size ((hMc.low _ (List.Mem.head _) k hk).resolve_right (by simp))
  clear hMc; simp only [List.cons_append, List.nil_append] at hM
  obtain ⟨A189, c190, rfl⟩ := RowOk.form (hM.row (p := (Pl.int .u8)) .z)
  replace hS := hS.trans (hE.mono hS.size)
  refine ⟨fun _ => hS, ?_⟩
  obtain ⟨r191, H192, H⟩ := Option.bind_eq_some_iff.1 H
  refine d_one (i := 8) (L' := #[tT,tT,tT,tT,tT,tT,tT,tT,tT,fF,fF]) (by kernel_rfl) rfl rfl (st_call Try.call14 hA [(.agg (pSipKey.enc r164).toArray), (.slice A189 r184.length c190)] rfl (by decide) (ref04_Sum.calls _ _ _ _ _ _ _ ((hM.roV (p := (Pl.int .u8)) (Ms := []) .z)) (hM.front (Ms := [])) H192) ?_)
  clear hA; rintro _ w193 ⟨rfl, hMc⟩ a hA
  have hE := hMc.below; have hM := hM.call (Ms := []) hMc
  clear hMc; simp only [List.cons_append, List.nil_append] at hM
  replace hS := hS.trans (hE.mono hS.size)
  refine ⟨fun _ => hS, ?_⟩
  refine d_takef (i := 9) (L' := #[tT,tT,tT,tT,tT,tT,tT,tT,tT,tT,fF]) rfl (by kernel_rfl) rfl (fun _ _ _ h => h) hA (by decide) (fun _ => hS) (fun a w' hA => run_bin (hA.ev rfl) (hA.ev rfl) (bin_rem _ _ _ _ (by decide))) ?_; clear hA; intro a hA
  refine d_takef (i := 10) (L' := #[tT,tT,tT,tT,tT,tT,tT,tT,tT,tT,tT]) rfl (by kernel_rfl) rfl (fun _ _ _ h => h) hA (by decide) (fun _ => hS) (fun a w' hA => run_assign (hA.ev rfl)) ?_; clear hA; intro a hA
  refine d_done (by kernel_rfl) ?_
  refine TN ?_
  refine wp_seq ?_
  obtain ⟨o255, H254, H⟩ := Option.bind_eq_some_iff.1 H
  refine cutC (fun a w => ∃ (t253 : Int), t253 = o255 ∧ Mem F w0 w [] ∧ Has 30 [(4, (.int .i64 t253))] a) ?_ ?_
  · obtain ⟨r261, H262, H254⟩ := Option.bind_eq_some_iff.1 H254
    obtain ⟨r264, H265, H254⟩ := Option.bind_eq_some_iff.1 H254
    obtain ⟨r271, H272, H254⟩ := Option.bind_eq_some_iff.1 H254
    obtain ⟨r278, H279, H254⟩ := Option.bind_eq_some_iff.1 H254
    refine draw (fun w' => Below w193.heap.size w193 w') [] rfl ?_
    intro w281 hw hS; replace hM := hM.ext hS; clear hw
    refine rebase hS ?_; clear hS; intro hS
    refine d_take (i := 0) (L' := #[tT,fF,fF,fF,fF,fF,fF,fF,fF,fF,fF,fF]) rfl (by kernel_rfl) rfl (fun _ _ _ h => h) hA (by decide) rfl hS (fun a w' hA hS' => run_ld (hA.ev rfl) (run_loadP Try.isAgg24 Try.sizeOf24 ((hM.box (.s (.s (.s .z)))).extB hS'))) ?_; clear hA; intro a hA
    refine d_take (i := 2) (L' := #[tT,fF,tT,fF,fF,fF,fF,fF,fF,fF,fF,fF]) rfl (by kernel_rfl) rfl (fun _ _ _ h => h) hA (by decide) rfl hS (fun a w' hA hS' => run_ld (hA.ev rfl) (run_loadP Try.isAgg46 Try.sizeOf46 ((hM.box (.s (.s (.s (.s .z))))).extB hS'))) ?_; clear hA; intro a hA
    refine d_takef (i := 5) (L' := #[tT,fF,tT,fF,fF,tT,fF,fF,fF,fF,fF,fF]) rfl (by kernel_rfl) rfl (fun _ _ _ h => h) hA (by decide) (fun _ => hS) (fun a w' hA => run_move (hA.ev rfl)) ?_; clear hA; intro a hA
    refine d_takef (i := 6) (L' := #[tT,fF,tT,fF,fF,tT,tT,fF,fF,fF,fF,fF]) rfl (by kernel_rfl) rfl (fun _ _ _ h => h) hA (by decide) (fun _ => hS) (fun a w' hA => run_conv Try.underlying22 Try.underlying43 (hA.ev rfl)) ?_; clear hA; intro a hA
    refine d_many (is := [1, 3]) (by kernel_rfl) (by decide) ⟨?_, ?_, trivial⟩
    · refine d_op (i := 1) (L' := #[tT,tT,tT,fF,fF,tT,tT,fF,fF,fF,fF,fF]) rfl rfl (e_litNL [(3 : Int)] [(.int .u8 3)] elt25 hM rfl (by decide) hA rfl rfl (List.cons_ne_nil _ _) (by decide) ?_)
      clear hM hA; intro w283 g282 hM hE hlo284 a hA
      have hlw285 : ∀ k, Value.ownBlock (.slice (some ⟨g282, 0, none⟩) 1 1) = some k → w281.heap.size ≤ k := fun k hk => by cases hk; exact Nat.le_trans hS.size hlo284
      replace hS := hS.trans (hE.mono hS.size)
      refine ⟨fun _ => hS, ?_⟩
      refine d_one (i := 3) (L' := #[tT,tT,tT,tT,fF,tT,tT,fF,fF,fF,fF,fF]) (by kernel_rfl) rfl rfl (st_call Try.call79 hA [(.agg (pNAddr.enc a_1).toArray)] rfl (by decide) (ref38_Group.calls _ _ _ _ _ (hM.front (Ms := [])) H262) ?_)
      clear hA; rintro _ w286 ⟨rfl, hMc⟩ a hA
      have hE := hMc.below; have hM := hM.call (Ms := []) hMc
      clear hMc; simp only [List.cons_append, List.nil_append] at hM
      replace hS := hS.trans (hE.mono hS.size)
      refine ⟨fun _ => hS, ?_⟩
      refine d_one (i := 4) (L' := #[tT,tT,tT,tT,tT,tT,tT,fF,fF,fF,fF,fF]) (by kernel_rfl) rfl rfl (st_call Try.call94 hA [(.slice (some ⟨g282, 0, none⟩) 1 1), (.int .u32 r261)] rfl (by decide) (ref01_AppendU32.calls _ _ _ _ _ _ _ ((hM.roV (p := (Pl.int .u8)) (Ms := []) .z)) (hM.front (Ms := [])) H265) ?_)
      clear hA; rintro _ w287 ⟨v288, rfl, hMc⟩ a hA
      have hE := hMc.below; have hM := hM.call (Ms := []) hMc
      have hlw289 : ∀ k, _ → w281.heap.size ≤ k := fun k hk => Nat.le_trans hS.size ((hMc.low _ (List.Mem.head _) k hk).resolve_right (by simp))
      clear hMc; simp only [List.cons_append, List.nil_append] at hM
      obtain ⟨A290, c291, rfl⟩ := RowOk.form (hM.row (p := (Pl.int .u8)) .z)
      replace hS := hS.trans (hE.mono hS.size)
      refine ⟨fun _ => hS, ?_⟩
      refine d_one (i := 7) (L' := #[tT,tT,tT,tT,tT,tT,tT,tT,fF,fF,fF,fF]) (by kernel_rfl) rfl rfl (st_call Try.call94 hA [(.slice A290 r264.length c291), (.int .u32 (IntKind.u32.wrap (r191.tmod 4)))] rfl (by decide) (ref01_AppendU32.calls _ _ _ _ _ _ _ ((hM.roV (p := (Pl.int .u8)) (Ms := []) .z)) (hM.front (Ms := [])) H272) ?_)
      clear hA; rintro _ w292 ⟨v293, rfl, hMc⟩ a hA
      have hE := hMc.below; have hM := hM.call (Ms := []) hMc
      have hlw294 : ∀ k, _ → w281.heap.size ≤ k := fun k hk => Nat.le_trans hS.size ((hMc.low _ (List.Mem.head _) k hk).resolve_right (by simp))
      clear hMc; simp only [List.cons_append, List.nil_append] at hM
      obtain ⟨A295, c296, rfl⟩ := RowOk.form (hM.row (p := (Pl.int .u8)) .z)
      replace hS := hS.trans (hE.mono hS.size)
      refine ⟨fun _ => hS, ?_⟩
      refine d_one (i := 8) (L' := #[tT,tT,tT,tT,tT,tT,tT,tT,tT,fF,fF,fF]) (by kernel_rfl) rfl rfl (st_call Try.call14 hA [(.agg (pSipKey.enc r164).toArray), (.slice A295 r271.length c296)] rfl (by decide) (ref04_Sum.calls _ _ _ _ _ _ _ ((hM.roV (p := (Pl.int .u8)) (Ms := []) .z)) (hM.front (Ms := [])) H279) ?_)
      clear hA; rintro _ w297 ⟨rfl, hMc⟩ a hA
      have hE := hMc.below; have hM := hM.call (Ms := []) hMc
      clear hMc; simp only [List.cons_append, List.nil_append] at hM
      replace hS := hS.trans (hE.mono hS.size)
      refine ⟨fun _ => hS, ?_⟩
      refine d_takef (i := 9) (L' := #[tT,tT,tT,tT,tT,tT,tT,tT,tT,tT,fF,fF]) rfl (by kernel_rfl) rfl (fun _ _ _ h => h) hA (by decide) (fun _ => hS) (fun a w' hA => run_bin (hA.ev rfl) (hA.ev rfl) (bin_rem _ _ _ _ (by decide))) ?_; clear hA; intro a hA
      refine d_takef (i := 10) (L' := #[tT,tT,tT,tT,tT,tT,tT,tT,tT,tT,tT,fF]) rfl (by kernel_rfl) rfl (fun _ _ _ h => h) hA (by decide) (fun _ => hS) (fun a w' hA => run_conv Try.underlying22 Try.underlying3 (hA.ev rfl)) ?_; clear hA; intro a hA
      refine d_takef (i := 11) (L' := #[tT,tT,tT,tT,tT,tT,tT,tT,tT,tT,tT,tT]) rfl (by kernel_rfl) rfl (fun _ _ _ h => h) hA (by decide) (fun _ => hS) (fun a w' hA => run_assign (hA.ev rfl)) ?_; clear hA; intro a hA
      refine d_done (by kernel_rfl) ?_
      exact ⟨IntKind.i64.wrap (r278.tmod 64), Option.some.inj H254, (hM.sel [] rfl (by decide)), (hA.nil.cons (hA.get 4 _ rfl))⟩
    · refine d_op (i := 3) (L' := #[tT,fF,tT,tT,fF,tT,tT,fF,fF,fF,fF,fF]) rfl rfl (st_call Try.call79 hA [(.agg (pNAddr.enc a_1).toArray)] rfl (by decide) (ref38_Group.calls _ _ _ _ _ (hM.front (Ms := [])) H262) ?_)
      clear hA; rintro _ w298 ⟨rfl, hMc⟩ a hA
      have hE := hMc.below; have hM := hM.call (Ms := []) hMc
      clear hMc; simp only [List.cons_append, List.nil_append] at hM
      replace hS := hS.trans (hE.mono hS.size)
      refine ⟨fun _ => hS, ?_⟩
      refine d_one (i := 1) (L' := #[tT,tT,tT,tT,fF,tT,tT,fF,fF,fF,fF,fF]) (by kernel_rfl) rfl rfl (e_litNL [(3 : Int)] [(.int .u8 3)] elt25 hM rfl (by decide) hA rfl rfl (List.cons_ne_nil _ _) (by decide) ?_)
      clear hM hA; intro w300 g299 hM hE hlo301 a hA
      have hlw302 : ∀ k, Value.ownBlock (.slice (some ⟨g299, 0, none⟩) 1 1) = some k → w281.heap.size ≤ k := fun k hk => by cases hk; exact Nat.le_trans hS.size hlo301
      replace hS := hS.trans (hE.mono hS.size)
      refine ⟨fun _ => hS, ?_⟩
      refine d_one (i := 4) (L' := #[tT,tT,tT,tT,tT,tT,tT,fF,fF,fF,fF,fF]) (by kernel_rfl) rfl rfl (st_call Try.call94 hA [(.slice (some ⟨g299, 0, none⟩) 1 1), (.int .u32 r261)] rfl (by decide) (ref01_AppendU32.calls _ _ _ _ _ _ _ ((hM.roV (p := (Pl.int .u8)) (Ms := []) .z)) (hM.front (Ms := [])) H265) ?_)
      clear hA; rintro _ w303 ⟨v304, rfl, hMc⟩ a hA
      have hE := hMc.below; have hM := hM.call (Ms := []) hMc
      have hlw305 : ∀ k, _ → w281.heap.size ≤ k := fun k hk => Nat.le_trans hS.size ((hMc.low _ (List.Mem.head _) k hk).resolve_right (by simp))
      clear hMc; simp only [List.cons_append, List.nil_append] at hM
      obtain ⟨A306, c307, rfl⟩ := RowOk.form (hM.row (p := (Pl.int .u8)) .z)
      replace hS := hS.trans (hE.mono hS.size)
      refine ⟨fun _ => hS, ?_⟩
      refine d_one (i := 7) (L' := #[tT,tT,tT,tT,tT,tT,tT,tT,fF,fF,fF,fF]) (by kernel_rfl) rfl rfl (st_call Try.call94 hA [(.slice A306 r264.length c307), (.int .u32 (IntKind.u32.wrap (r191.tmod 4)))] rfl (by decide) (ref01_AppendU32.calls _ _ _ _ _ _ _ ((hM.roV (p := (Pl.int .u8)) (Ms := []) .z)) (hM.front (Ms := [])) H272) ?_)
      clear hA; rintro _ w308 ⟨v309, rfl, hMc⟩ a hA
      have hE := hMc.below; have hM := hM.call (Ms := []) hMc
      have hlw310 : ∀ k, _ → w281.heap.size ≤ k := fun k hk => Nat.le_trans hS.size ((hMc.low _ (List.Mem.head _) k hk).resolve_right (by simp))
      clear hMc; simp only [List.cons_append, List.nil_append] at hM
      obtain ⟨A311, c312, rfl⟩ := RowOk.form (hM.row (p := (Pl.int .u8)) .z)
      replace hS := hS.trans (hE.mono hS.size)
      refine ⟨fun _ => hS, ?_⟩
      refine d_one (i := 8) (L' := #[tT,tT,tT,tT,tT,tT,tT,tT,tT,fF,fF,fF]) (by kernel_rfl) rfl rfl (st_call Try.call14 hA [(.agg (pSipKey.enc r164).toArray), (.slice A311 r271.length c312)] rfl (by decide) (ref04_Sum.calls _ _ _ _ _ _ _ ((hM.roV (p := (Pl.int .u8)) (Ms := []) .z)) (hM.front (Ms := [])) H279) ?_)
      clear hA; rintro _ w313 ⟨rfl, hMc⟩ a hA
      have hE := hMc.below; have hM := hM.call (Ms := []) hMc
      clear hMc; simp only [List.cons_append, List.nil_append] at hM
      replace hS := hS.trans (hE.mono hS.size)
      refine ⟨fun _ => hS, ?_⟩
      refine d_takef (i := 9) (L' := #[tT,tT,tT,tT,tT,tT,tT,tT,tT,tT,fF,fF]) rfl (by kernel_rfl) rfl (fun _ _ _ h => h) hA (by decide) (fun _ => hS) (fun a w' hA => run_bin (hA.ev rfl) (hA.ev rfl) (bin_rem _ _ _ _ (by decide))) ?_; clear hA; intro a hA
      refine d_takef (i := 10) (L' := #[tT,tT,tT,tT,tT,tT,tT,tT,tT,tT,tT,fF]) rfl (by kernel_rfl) rfl (fun _ _ _ h => h) hA (by decide) (fun _ => hS) (fun a w' hA => run_conv Try.underlying22 Try.underlying3 (hA.ev rfl)) ?_; clear hA; intro a hA
      refine d_takef (i := 11) (L' := #[tT,tT,tT,tT,tT,tT,tT,tT,tT,tT,tT,tT]) rfl (by kernel_rfl) rfl (fun _ _ _ h => h) hA (by decide) (fun _ => hS) (fun a w' hA => run_assign (hA.ev rfl)) ?_; clear hA; intro a hA
      refine d_done (by kernel_rfl) ?_
      exact ⟨IntKind.i64.wrap (r278.tmod 64), Option.some.inj H254, (hM.sel [] rfl (by decide)), (hA.nil.cons (hA.get 4 _ rfl))⟩
  clear hM hA
  rintro a w314 ⟨t253, rfl, hM, hA⟩
  try dsimp only at H
  refine TN ?_
  refine wp_ret ?_
  obtain rfl := Option.some.inj H
  exact ret_post1 (fn := Try.f75) hA rfl rfl ⟨_, rfl, rfl, hM⟩

def ref38_HeardBucket.f (k : Nat) (salt_0 : (Vector Int 32)) (a_1 : NAddr) (source_2 : Int) : Option Int := ((ref04_Key.f k salt_0).bind fun r166 => (Option.bind (α := Int) ((ref38_Group.f k a_1).bind fun r242 => ((ref01_AppendU32.f k [(2 : Int)] r242).bind fun r245 => ((ref01_AppendU32.f k r245 source_2).bind fun r252 => ((ref04_Sum.f k r166 r252).bind fun r259 => (some (r259.tmod 4)))))) (fun x234 => ((ref01_AppendU32.f k [(1 : Int)] source_2).bind fun r302 => ((ref01_AppendU32.f k r302 (IntKind.u32.wrap x234)).bind fun r309 => ((ref04_Sum.f k r166 r309).bind fun r316 => (some (IntKind.i64.wrap (r316.tmod 64)))))))))
set_option maxHeartbeats 2000000 in
set_option maxRecDepth 100000 in
theorem ref38_HeardBucket.calls (k : Nat) (salt_0 : (Vector Int 32)) (a_1 : NAddr) (source_2 : Int) (F : List (Option Nat)) (r : Int) (w0 : World) (hM : Mem F w0 w0 []) (H : ref38_HeardBucket.f k salt_0 a_1 source_2 = some r) :
    Calls Try.prog 95 #[(.agg (pHash.enc salt_0).toArray), (.agg (pNAddr.enc a_1).toArray), (.int .u32 source_2)] w0 fun e w' => ∃ v, e = .returned v ∧ v = (.int .i64 r) ∧ Mem F w0 w' [] := by
  unfold ref38_HeardBucket.f at H
  refine enterL (n := 30) [(.agg (pHash.enc salt_0).toArray), (.agg (pNAddr.enc a_1).toArray), (.int .u32 source_2)] Try.func95 rfl rfl rfl ?_
  intro a hA
  refine wp_seq ?_
  refine wp_region_lit ?_
  refine L1 (e_box (cs := (pHash.enc salt_0)) hM hA rfl rfl (by decide) ?_)
  clear hM hA; intro w161 g160 hM hE  a hA
  refine L1 (e_box (cs := (pNAddr.enc a_1)) hM hA rfl rfl (by decide) ?_)
  clear hM hA; intro w164 g163 hM hE  a hA
  refine L1 (stv hA (by decide) (run_assign (hA.ev rfl)) ?_)
  clear hA; intro a hA
  refine LQ ?_
  refine TN ?_
  refine wp_seq ?_
  refine wp_region_lit ?_
  refine L1 (stv hA (by decide) (run_ld (hA.ev rfl) (run_loadP Try.isAgg33 Try.sizeOf33 (hM.box (.s .z)))) ?_)
  clear hA; intro a hA
  obtain ⟨r166, H167, H⟩ := Option.bind_eq_some_iff.1 H
  refine L1 (st_call Try.call18 hA [(.agg (pHash.enc salt_0).toArray)] rfl (by decide) (ref04_Key.calls _ _ _ _ _ (hM.front (Ms := [])) H167) ?_)
  clear hA; rintro _ w168 ⟨rfl, hMc⟩ a hA
  have hE := hMc.below; have hM := hM.call (Ms := []) hMc
  clear hMc; simp only [List.cons_append, List.nil_append] at hM
  refine L1 (e_alloc (cs := (pSipKey.enc (Vector.replicate 2 0 : Vector Int 2))) hM zero24 rfl hA (by decide) ?_)
  clear hM hA; intro w170 g169 hM hE  a hA
  refine L1 (e_store (g := g169) (off := 0) (cur := (pSipKey.enc (Vector.replicate 2 0 : Vector Int 2))) (cs' := (pSipKey.enc r166)) hM .z Try.sizeOf24 hA rfl (by simp [add_mk]) rfl (agg_size _ _) (agg_one _ _) (Nat.le_of_ble_eq_true (enc_fitL _ _ rfl)) (spl_all (by first | rfl | (simp [Value.cells, Pl.len]; done) | (simp [Value.cells, Pl.len]; rfl))) ?_)
  clear hM hA; intro w172  hM hE  a hA
  refine LQ ?_
  refine TN ?_
  refine wp_seq ?_
  obtain ⟨o236, H235, H⟩ := Option.bind_eq_some_iff.1 H
  refine cutC (fun a w => ∃ (x234 : Int), x234 = o236 ∧ Mem F w0 w [.box g169 24 (pSipKey.enc r166)] ∧ Has 30 [(2, (.int .u32 source_2)), (7, (.pointer (some (⟨g169, 0, none⟩)))), (8, (.int .u64 x234))] a) ?_ ?_
  · obtain ⟨r242, H243, H235⟩ := Option.bind_eq_some_iff.1 H235
    obtain ⟨r245, H246, H235⟩ := Option.bind_eq_some_iff.1 H235
    obtain ⟨r252, H253, H235⟩ := Option.bind_eq_some_iff.1 H235
    obtain ⟨r259, H260, H235⟩ := Option.bind_eq_some_iff.1 H235
    refine draw (fun w' => Below w172.heap.size w172 w') [] rfl ?_
    intro w262 hw hS; replace hM := hM.ext hS; clear hw
    refine rebase hS ?_; clear hS; intro hS
    refine d_take (i := 0) (L' := #[tT,fF,fF,fF,fF,fF,fF,fF,fF,fF]) rfl (by kernel_rfl) rfl (fun _ _ _ h => h) hA (by decide) rfl hS (fun a w' hA hS' => run_ld (hA.ev rfl) (run_loadP Try.isAgg24 Try.sizeOf24 ((hM.box .z).extB hS'))) ?_; clear hA; intro a hA
    refine d_take (i := 2) (L' := #[tT,fF,tT,fF,fF,fF,fF,fF,fF,fF]) rfl (by kernel_rfl) rfl (fun _ _ _ h => h) hA (by decide) rfl hS (fun a w' hA hS' => run_ld (hA.ev rfl) (run_loadP Try.isAgg46 Try.sizeOf46 ((hM.box (.s .z)).extB hS'))) ?_; clear hA; intro a hA
    refine d_takef (i := 5) (L' := #[tT,fF,tT,fF,fF,tT,fF,fF,fF,fF]) rfl (by kernel_rfl) rfl (fun _ _ _ h => h) hA (by decide) (fun _ => hS) (fun a w' hA => run_move (hA.ev rfl)) ?_; clear hA; intro a hA
    refine d_many (is := [1, 3]) (by kernel_rfl) (by decide) ⟨?_, ?_, trivial⟩
    · refine d_op (i := 1) (L' := #[tT,tT,tT,fF,fF,tT,fF,fF,fF,fF]) rfl rfl (e_litNL [(2 : Int)] [(.int .u8 2)] elt25 hM rfl (by decide) hA rfl rfl (List.cons_ne_nil _ _) (by decide) ?_)
      clear hM hA; intro w264 g263 hM hE hlo265 a hA
      have hlw266 : ∀ k, Value.ownBlock (.slice (some ⟨g263, 0, none⟩) 1 1) = some k → w262.heap.size ≤ k := fun k hk => by cases hk; exact Nat.le_trans hS.size hlo265
      replace hS := hS.trans (hE.mono hS.size)
      refine ⟨fun _ => hS, ?_⟩
      refine d_one (i := 3) (L' := #[tT,tT,tT,tT,fF,tT,fF,fF,fF,fF]) (by kernel_rfl) rfl rfl (st_call Try.call79 hA [(.agg (pNAddr.enc a_1).toArray)] rfl (by decide) (ref38_Group.calls _ _ _ _ _ (hM.front (Ms := [])) H243) ?_)
      clear hA; rintro _ w267 ⟨rfl, hMc⟩ a hA
      have hE := hMc.below; have hM := hM.call (Ms := []) hMc
      clear hMc; simp only [List.cons_append, List.nil_append] at hM
      replace hS := hS.trans (hE.mono hS.size)
      refine ⟨fun _ => hS, ?_⟩
      refine d_one (i := 4) (L' := #[tT,tT,tT,tT,tT,tT,fF,fF,fF,fF]) (by kernel_rfl) rfl rfl (st_call Try.call94 hA [(.slice (some ⟨g263, 0, none⟩) 1 1), (.int .u32 r242)] rfl (by decide) (ref01_AppendU32.calls _ _ _ _ _ _ _ ((hM.roV (p := (Pl.int .u8)) (Ms := []) .z)) (hM.front (Ms := [])) H246) ?_)
      clear hA; rintro _ w268 ⟨v269, rfl, hMc⟩ a hA
      have hE := hMc.below; have hM := hM.call (Ms := []) hMc
      have hlw270 : ∀ k, _ → w262.heap.size ≤ k := fun k hk => Nat.le_trans hS.size ((hMc.low _ (List.Mem.head _) k hk).resolve_right (by simp))
      clear hMc; simp only [List.cons_append, List.nil_append] at hM
      obtain ⟨A271, c272, rfl⟩ := RowOk.form (hM.row (p := (Pl.int .u8)) .z)
      replace hS := hS.trans (hE.mono hS.size)
      refine ⟨fun _ => hS, ?_⟩
      refine d_one (i := 6) (L' := #[tT,tT,tT,tT,tT,tT,tT,fF,fF,fF]) (by kernel_rfl) rfl rfl (st_call Try.call94 hA [(.slice A271 r245.length c272), (.int .u32 source_2)] rfl (by decide) (ref01_AppendU32.calls _ _ _ _ _ _ _ ((hM.roV (p := (Pl.int .u8)) (Ms := []) .z)) (hM.front (Ms := [])) H253) ?_)
      clear hA; rintro _ w273 ⟨v274, rfl, hMc⟩ a hA
      have hE := hMc.below; have hM := hM.call (Ms := []) hMc
      have hlw275 : ∀ k, _ → w262.heap.size ≤ k := fun k hk => Nat.le_trans hS.size ((hMc.low _ (List.Mem.head _) k hk).resolve_right (by simp))
      clear hMc; simp only [List.cons_append, List.nil_append] at hM
      obtain ⟨A276, c277, rfl⟩ := RowOk.form (hM.row (p := (Pl.int .u8)) .z)
      replace hS := hS.trans (hE.mono hS.size)
      refine ⟨fun _ => hS, ?_⟩
      refine d_one (i := 7) (L' := #[tT,tT,tT,tT,tT,tT,tT,tT,fF,fF]) (by kernel_rfl) rfl rfl (st_call Try.call14 hA [(.agg (pSipKey.enc r166).toArray), (.slice A276 r252.length c277)] rfl (by decide) (ref04_Sum.calls _ _ _ _ _ _ _ ((hM.roV (p := (Pl.int .u8)) (Ms := []) .z)) (hM.front (Ms := [])) H260) ?_)
      clear hA; rintro _ w278 ⟨rfl, hMc⟩ a hA
      have hE := hMc.below; have hM := hM.call (Ms := []) hMc
      clear hMc; simp only [List.cons_append, List.nil_append] at hM
      replace hS := hS.trans (hE.mono hS.size)
      refine ⟨fun _ => hS, ?_⟩
      refine d_takef (i := 8) (L' := #[tT,tT,tT,tT,tT,tT,tT,tT,tT,fF]) rfl (by kernel_rfl) rfl (fun _ _ _ h => h) hA (by decide) (fun _ => hS) (fun a w' hA => run_bin (hA.ev rfl) (hA.ev rfl) (bin_rem _ _ _ _ (by decide))) ?_; clear hA; intro a hA
      refine d_takef (i := 9) (L' := #[tT,tT,tT,tT,tT,tT,tT,tT,tT,tT]) rfl (by kernel_rfl) rfl (fun _ _ _ h => h) hA (by decide) (fun _ => hS) (fun a w' hA => run_assign (hA.ev rfl)) ?_; clear hA; intro a hA
      refine d_done (by kernel_rfl) ?_
      exact ⟨r259.tmod 4, Option.some.inj H235, (hM.sel [3] rfl (by decide)), (((hA.nil.cons (hA.get 8 _ rfl)).cons (hA.get 7 _ rfl)).cons (hA.get 2 _ rfl))⟩
    · refine d_op (i := 3) (L' := #[tT,fF,tT,tT,fF,tT,fF,fF,fF,fF]) rfl rfl (st_call Try.call79 hA [(.agg (pNAddr.enc a_1).toArray)] rfl (by decide) (ref38_Group.calls _ _ _ _ _ (hM.front (Ms := [])) H243) ?_)
      clear hA; rintro _ w279 ⟨rfl, hMc⟩ a hA
      have hE := hMc.below; have hM := hM.call (Ms := []) hMc
      clear hMc; simp only [List.cons_append, List.nil_append] at hM
      replace hS := hS.trans (hE.mono hS.size)
      refine ⟨fun _ => hS, ?_⟩
      refine d_one (i := 1) (L' := #[tT,tT,tT,tT,fF,tT,fF,fF,fF,fF]) (by kernel_rfl) rfl rfl (e_litNL [(2 : Int)] [(.int .u8 2)] elt25 hM rfl (by decide) hA rfl rfl (List.cons_ne_nil _ _) (by decide) ?_)
      clear hM hA; intro w281 g280 hM hE hlo282 a hA
      have hlw283 : ∀ k, Value.ownBlock (.slice (some ⟨g280, 0, none⟩) 1 1) = some k → w262.heap.size ≤ k := fun k hk => by cases hk; exact Nat.le_trans hS.size hlo282
      replace hS := hS.trans (hE.mono hS.size)
      refine ⟨fun _ => hS, ?_⟩
      refine d_one (i := 4) (L' := #[tT,tT,tT,tT,tT,tT,fF,fF,fF,fF]) (by kernel_rfl) rfl rfl (st_call Try.call94 hA [(.slice (some ⟨g280, 0, none⟩) 1 1), (.int .u32 r242)] rfl (by decide) (ref01_AppendU32.calls _ _ _ _ _ _ _ ((hM.roV (p := (Pl.int .u8)) (Ms := []) .z)) (hM.front (Ms := [])) H246) ?_)
      clear hA; rintro _ w284 ⟨v285, rfl, hMc⟩ a hA
      have hE := hMc.below; have hM := hM.call (Ms := []) hMc
      have hlw286 : ∀ k, _ → w262.heap.size ≤ k := fun k hk => Nat.le_trans hS.size ((hMc.low _ (List.Mem.head _) k hk).resolve_right (by simp))
      clear hMc; simp only [List.cons_append, List.nil_append] at hM
      obtain ⟨A287, c288, rfl⟩ := RowOk.form (hM.row (p := (Pl.int .u8)) .z)
      replace hS := hS.trans (hE.mono hS.size)
      refine ⟨fun _ => hS, ?_⟩
      refine d_one (i := 6) (L' := #[tT,tT,tT,tT,tT,tT,tT,fF,fF,fF]) (by kernel_rfl) rfl rfl (st_call Try.call94 hA [(.slice A287 r245.length c288), (.int .u32 source_2)] rfl (by decide) (ref01_AppendU32.calls _ _ _ _ _ _ _ ((hM.roV (p := (Pl.int .u8)) (Ms := []) .z)) (hM.front (Ms := [])) H253) ?_)
      clear hA; rintro _ w289 ⟨v290, rfl, hMc⟩ a hA
      have hE := hMc.below; have hM := hM.call (Ms := []) hMc
      have hlw291 : ∀ k, _ → w262.heap.size ≤ k := fun k hk => Nat.le_trans hS.size ((hMc.low _ (List.Mem.head _) k hk).resolve_right (by simp))
      clear hMc; simp only [List.cons_append, List.nil_append] at hM
      obtain ⟨A292, c293, rfl⟩ := RowOk.form (hM.row (p := (Pl.int .u8)) .z)
      replace hS := hS.trans (hE.mono hS.size)
      refine ⟨fun _ => hS, ?_⟩
      refine d_one (i := 7) (L' := #[tT,tT,tT,tT,tT,tT,tT,tT,fF,fF]) (by kernel_rfl) rfl rfl (st_call Try.call14 hA [(.agg (pSipKey.enc r166).toArray), (.slice A292 r252.length c293)] rfl (by decide) (ref04_Sum.calls _ _ _ _ _ _ _ ((hM.roV (p := (Pl.int .u8)) (Ms := []) .z)) (hM.front (Ms := [])) H260) ?_)
      clear hA; rintro _ w294 ⟨rfl, hMc⟩ a hA
      have hE := hMc.below; have hM := hM.call (Ms := []) hMc
      clear hMc; simp only [List.cons_append, List.nil_append] at hM
      replace hS := hS.trans (hE.mono hS.size)
      refine ⟨fun _ => hS, ?_⟩
      refine d_takef (i := 8) (L' := #[tT,tT,tT,tT,tT,tT,tT,tT,tT,fF]) rfl (by kernel_rfl) rfl (fun _ _ _ h => h) hA (by decide) (fun _ => hS) (fun a w' hA => run_bin (hA.ev rfl) (hA.ev rfl) (bin_rem _ _ _ _ (by decide))) ?_; clear hA; intro a hA
      refine d_takef (i := 9) (L' := #[tT,tT,tT,tT,tT,tT,tT,tT,tT,tT]) rfl (by kernel_rfl) rfl (fun _ _ _ h => h) hA (by decide) (fun _ => hS) (fun a w' hA => run_assign (hA.ev rfl)) ?_; clear hA; intro a hA
      refine d_done (by kernel_rfl) ?_
      exact ⟨r259.tmod 4, Option.some.inj H235, (hM.sel [3] rfl (by decide)), (((hA.nil.cons (hA.get 8 _ rfl)).cons (hA.get 7 _ rfl)).cons (hA.get 2 _ rfl))⟩
  clear hM hA
  rintro a w295 ⟨x234, rfl, hM, hA⟩
  try dsimp only at H
  refine TN ?_
  refine wp_seq ?_
  refine draw (fun w' => Below w295.heap.size w295 w') [] rfl ?_
  intro w296 hw hS; replace hM := hM.ext hS; clear hw
  refine rebase hS ?_; clear hS; intro hS
  refine d_take (i := 0) (L' := #[tT,fF,fF,fF,fF,fF,fF,fF,fF,fF,fF]) rfl (by kernel_rfl) rfl (fun _ _ _ h => h) hA (by decide) rfl hS (fun a w' hA hS' => run_ld (hA.ev rfl) (run_loadP Try.isAgg24 Try.sizeOf24 ((hM.box .z).extB hS'))) ?_; clear hA; intro a hA
  refine d_takef (i := 2) (L' := #[tT,fF,tT,fF,fF,fF,fF,fF,fF,fF,fF]) rfl (by kernel_rfl) rfl (fun _ _ _ h => h) hA (by decide) (fun _ => hS) (fun a w' hA => run_move (hA.ev rfl)) ?_; clear hA; intro a hA
  refine d_takef (i := 4) (L' := #[tT,fF,tT,fF,tT,fF,fF,fF,fF,fF,fF]) rfl (by kernel_rfl) rfl (fun _ _ _ h => h) hA (by decide) (fun _ => hS) (fun a w' hA => run_move (hA.ev rfl)) ?_; clear hA; intro a hA
  refine d_takef (i := 5) (L' := #[tT,fF,tT,fF,tT,tT,fF,fF,fF,fF,fF]) rfl (by kernel_rfl) rfl (fun _ _ _ h => h) hA (by decide) (fun _ => hS) (fun a w' hA => run_conv Try.underlying22 Try.underlying43 (hA.ev rfl)) ?_; clear hA; intro a hA
  refine d_one (i := 1) (L' := #[tT,tT,tT,fF,tT,tT,fF,fF,fF,fF,fF]) (by kernel_rfl) rfl rfl (e_litNL [(1 : Int)] [(.int .u8 1)] elt25 hM rfl (by decide) hA rfl rfl (List.cons_ne_nil _ _) (by decide) ?_)
  clear hM hA; intro w299 g298 hM hE hlo300 a hA
  have hlw301 : ∀ k, Value.ownBlock (.slice (some ⟨g298, 0, none⟩) 1 1) = some k → w296.heap.size ≤ k := fun k hk => by cases hk; exact Nat.le_trans hS.size hlo300
  replace hS := hS.trans (hE.mono hS.size)
  refine ⟨fun _ => hS, ?_⟩
  obtain ⟨r302, H303, H⟩ := Option.bind_eq_some_iff.1 H
  refine d_one (i := 3) (L' := #[tT,tT,tT,tT,tT,tT,fF,fF,fF,fF,fF]) (by kernel_rfl) rfl rfl (st_call Try.call94 hA [(.slice (some ⟨g298, 0, none⟩) 1 1), (.int .u32 source_2)] rfl (by decide) (ref01_AppendU32.calls _ _ _ _ _ _ _ ((hM.roV (p := (Pl.int .u8)) (Ms := []) .z)) (hM.front (Ms := [])) H303) ?_)
  clear hA; rintro _ w304 ⟨v305, rfl, hMc⟩ a hA
  have hE := hMc.below; have hM := hM.call (Ms := []) hMc
  have hlw306 : ∀ k, _ → w296.heap.size ≤ k := fun k hk => Nat.le_trans hS.size ((hMc.low _ (List.Mem.head _) k hk).resolve_right (by simp))
  clear hMc; simp only [List.cons_append, List.nil_append] at hM
  obtain ⟨A307, c308, rfl⟩ := RowOk.form (hM.row (p := (Pl.int .u8)) .z)
  replace hS := hS.trans (hE.mono hS.size)
  refine ⟨fun _ => hS, ?_⟩
  obtain ⟨r309, H310, H⟩ := Option.bind_eq_some_iff.1 H
  refine d_one (i := 6) (L' := #[tT,tT,tT,tT,tT,tT,tT,fF,fF,fF,fF]) (by kernel_rfl) rfl rfl (st_call Try.call94 hA [(.slice A307 r302.length c308), (.int .u32 (IntKind.u32.wrap x234))] rfl (by decide) (ref01_AppendU32.calls _ _ _ _ _ _ _ ((hM.roV (p := (Pl.int .u8)) (Ms := []) .z)) (hM.front (Ms := [])) H310) ?_)
  clear hA; rintro _ w311 ⟨v312, rfl, hMc⟩ a hA
  have hE := hMc.below; have hM := hM.call (Ms := []) hMc
  have hlw313 : ∀ k, _ → w296.heap.size ≤ k := fun k hk => Nat.le_trans hS.size ((hMc.low _ (List.Mem.head _) k hk).resolve_right (by simp))
  clear hMc; simp only [List.cons_append, List.nil_append] at hM
  obtain ⟨A314, c315, rfl⟩ := RowOk.form (hM.row (p := (Pl.int .u8)) .z)
  replace hS := hS.trans (hE.mono hS.size)
  refine ⟨fun _ => hS, ?_⟩
  obtain ⟨r316, H317, H⟩ := Option.bind_eq_some_iff.1 H
  refine d_one (i := 7) (L' := #[tT,tT,tT,tT,tT,tT,tT,tT,fF,fF,fF]) (by kernel_rfl) rfl rfl (st_call Try.call14 hA [(.agg (pSipKey.enc r166).toArray), (.slice A314 r309.length c315)] rfl (by decide) (ref04_Sum.calls _ _ _ _ _ _ _ ((hM.roV (p := (Pl.int .u8)) (Ms := []) .z)) (hM.front (Ms := [])) H317) ?_)
  clear hA; rintro _ w318 ⟨rfl, hMc⟩ a hA
  have hE := hMc.below; have hM := hM.call (Ms := []) hMc
  clear hMc; simp only [List.cons_append, List.nil_append] at hM
  replace hS := hS.trans (hE.mono hS.size)
  refine ⟨fun _ => hS, ?_⟩
  refine d_takef (i := 8) (L' := #[tT,tT,tT,tT,tT,tT,tT,tT,tT,fF,fF]) rfl (by kernel_rfl) rfl (fun _ _ _ h => h) hA (by decide) (fun _ => hS) (fun a w' hA => run_bin (hA.ev rfl) (hA.ev rfl) (bin_rem _ _ _ _ (by decide))) ?_; clear hA; intro a hA
  refine d_takef (i := 9) (L' := #[tT,tT,tT,tT,tT,tT,tT,tT,tT,tT,fF]) rfl (by kernel_rfl) rfl (fun _ _ _ h => h) hA (by decide) (fun _ => hS) (fun a w' hA => run_conv Try.underlying22 Try.underlying3 (hA.ev rfl)) ?_; clear hA; intro a hA
  refine d_takef (i := 10) (L' := #[tT,tT,tT,tT,tT,tT,tT,tT,tT,tT,tT]) rfl (by kernel_rfl) rfl (fun _ _ _ h => h) hA (by decide) (fun _ => hS) (fun a w' hA => run_assign (hA.ev rfl)) ?_; clear hA; intro a hA
  refine d_done (by kernel_rfl) ?_
  refine TN ?_
  refine wp_ret ?_
  obtain rfl := Option.some.inj H
  exact ret_post1 (fn := Try.f95) hA rfl rfl ⟨_, rfl, rfl, (hM.sel [] rfl (by decide))⟩

def ref38_table.l0 (salt_0 : (Vector Int 32)) (l_1 : (List Place)) (heard_2 : Bool) : Nat → Int → Option (Out Bool (Unit))
  | 0, _ => none
  | k + 1, i1131 => (if (decide (i1131 < ((l_1.length : Nat) : Int))) = true then (if 0 ≤ i1131 ∧ i1131 < ((l_1.length : Nat) : Int) then ((ref38_TriedBucket.f k salt_0 ((l_1.getD i1131.toNat Place.z).Addr_)).bind fun r1144 => (Option.bind (α := Int) (if heard_2 = true then (if 0 ≤ i1131 ∧ i1131 < ((l_1.length : Nat) : Int) then (if 0 ≤ i1131 ∧ i1131 < ((l_1.length : Nat) : Int) then ((ref38_HeardBucket.f k salt_0 ((l_1.getD i1131.toNat Place.z).Addr_) ((l_1.getD i1131.toNat Place.z).Source)).bind fun r1184 => (some r1184)) else none) else none) else (some r1144)) (fun b1168 => (Option.bind (α := Bool) (if 0 ≤ i1131 ∧ i1131 < ((l_1.length : Nat) : Int) then (if (((l_1.getD i1131.toNat Place.z).Bucket) != b1168) = true then (some true) else (if (decide (i1131 > 0)) = true then (if 0 ≤ (IntKind.i64.wrap (i1131 - 1)) ∧ (IntKind.i64.wrap (i1131 - 1)) < ((l_1.length : Nat) : Int) then (if (decide (((l_1.getD (IntKind.i64.wrap (i1131 - 1)).toNat Place.z).Bucket) > b1168)) = true then (some true) else (if (decide (i1131 ≥ 8)) = true then (if 0 ≤ (IntKind.i64.wrap (i1131 - 8)) ∧ (IntKind.i64.wrap (i1131 - 8)) < ((l_1.length : Nat) : Int) then (if (((l_1.getD (IntKind.i64.wrap (i1131 - 8)).toNat Place.z).Bucket) == b1168) = true then (some true) else (if 0 ≤ i1131 ∧ i1131 < ((l_1.length : Nat) : Int) then ((ref38_find.f k l_1 ((l_1.getD i1131.toNat Place.z).Addr_)).bind fun r1280 => (some (r1280 != i1131))) else none)) else none) else (if 0 ≤ i1131 ∧ i1131 < ((l_1.length : Nat) : Int) then ((ref38_find.f k l_1 ((l_1.getD i1131.toNat Place.z).Addr_)).bind fun r1288 => (some (r1288 != i1131))) else none))) else none) else (if (decide (i1131 ≥ 8)) = true then (if 0 ≤ (IntKind.i64.wrap (i1131 - 8)) ∧ (IntKind.i64.wrap (i1131 - 8)) < ((l_1.length : Nat) : Int) then (if (((l_1.getD (IntKind.i64.wrap (i1131 - 8)).toNat Place.z).Bucket) == b1168) = true then (some true) else (if 0 ≤ i1131 ∧ i1131 < ((l_1.length : Nat) : Int) then ((ref38_find.f k l_1 ((l_1.getD i1131.toNat Place.z).Addr_)).bind fun r1303 => (some (r1303 != i1131))) else none)) else none) else (if 0 ≤ i1131 ∧ i1131 < ((l_1.length : Nat) : Int) then ((ref38_find.f k l_1 ((l_1.getD i1131.toNat Place.z).Addr_)).bind fun r1311 => (some (r1311 != i1131))) else none)))) else none) (fun t1252 => (if t1252 = true then (some (.ret false)) else (ref38_table.l0 salt_0 l_1 heard_2 k (IntKind.i64.wrap (i1131 + 1))))))))) else none) else (some (.go ())))
def ref38_table.f (k : Nat) (salt_0 : (Vector Int 32)) (l_1 : (List Place)) (heard_2 : Bool) : Option Bool := (if (decide (((l_1.length : Nat) : Int) > 512)) = true then (some false) else (Option.bind (α := Out Bool (Unit)) (ref38_table.l0 salt_0 l_1 heard_2 k 0) (fun o => match o with | .ret r => some r | .go _ => (some true))))
set_option maxHeartbeats 2000000 in
set_option maxRecDepth 100000 in
theorem ref38_table.calls (k : Nat) (salt_0 : (Vector Int 32)) (l_1 : (List Place)) (heard_2 : Bool) (F : List (Option Nat)) (v1 : Value) (r : Bool) (w0 : World) (h1 : RoV F pPlace w0 v1 l_1) (hM : Mem F w0 w0 []) (H : ref38_table.f k salt_0 l_1 heard_2 = some r) :
    Calls Try.prog 91 #[(.agg (pHash.enc salt_0).toArray), v1, (.bool heard_2)] w0 fun e w' => ∃ v, e = .returned v ∧ v = (.bool r) ∧ Mem F w0 w' [] := by
  unfold ref38_table.f at H
  obtain ⟨A1, c1, rfl, hr1, hc1⟩ := h1
  refine enterL (n := 84) [(.agg (pHash.enc salt_0).toArray), (.slice A1 l_1.length c1), (.bool heard_2)] Try.func91 rfl rfl rfl ?_
  intro a hA
  refine wp_seq ?_
  refine wp_region_lit ?_
  refine L1 (e_box (cs := (pHash.enc salt_0)) hM hA rfl rfl (by decide) ?_)
  clear hM hA; intro w660 g659 hM hE  a hA
  refine L1 (stv hA (by decide) (run_assign (hA.ev rfl)) ?_)
  clear hA; intro a hA
  refine LQ ?_
  refine TN ?_
  refine wp_seq ?_
  refine wp_seq ?_
  refine wp_region_lit ?_
  refine L1 (stv hA (by decide) (run_move (hA.ev rfl)) ?_)
  clear hA; intro a hA
  refine L1 (stv hA (by decide) (run_len_slice Try.underlying39 (hA.ev rfl)) ?_)
  clear hA; intro a hA
  refine L1 (stv hA (by decide) (run_bin (hA.ev rfl) (hA.ev rfl) (bin_gtr _ _ _ _)) ?_)
  clear hA; intro a hA
  refine LQ ?_
  refine TN ?_
  refine tcond (b := (decide (((l_1.length : Nat) : Int) > 512))) hA rfl (fun hb662 => ?_) (fun hb662 => ?_)
  · replace H := ite_t hb662 H
    refine wp_seq ?_
    refine wp_region_lit ?_
    refine L1 (stv hA (by decide) (run_assign (hA.ev rfl)) ?_)
    clear hA; intro a hA
    refine LQ ?_
    refine TN ?_
    refine wp_ret ?_
    obtain rfl := Option.some.inj H
    refine TR ?_
    exact ret_post1 (fn := Try.f91) hA rfl rfl ⟨_, rfl, rfl, (hM.sel [] rfl (by decide))⟩
  · replace H := ite_f hb662 H
    refine wp_skip ?_
    refine TN ?_
    refine wp_seq ?_
    refine wp_seq ?_
    refine wp_region_lit ?_
    refine L1 (stv hA (by decide) (run_assign (hA.ev rfl)) ?_)
    clear hA; intro a hA
    refine LQ ?_
    refine TN ?_
    obtain ⟨o1133, H1132, H⟩ := Option.bind_eq_some_iff.1 H
    refine cutC (fun a w => (.go ()) = o1133 ∧ Mem F w0 w [] ∧ Has 84 [] a) ?_ ?_
    · refine wp_block ?_
      refine wp_loop_ghost (fun m a w => ∃ (i1131 : Int), ref38_table.l0 salt_0 l_1 heard_2 m i1131 = some o1133 ∧ Mem F w0 w [.box g659 33 (pHash.enc salt_0)] ∧ Has 84 [(1, (.slice A1 l_1.length c1)), (2, (.bool heard_2)), (3, (.pointer (some (⟨g659, 0, none⟩)))), (7, (.int .i64 i1131))] a) k ⟨0, H1132, hM, ((((hA.nil.cons (hA.get 7 _ rfl)).cons (hA.get 3 _ rfl)).cons (hA.get 2 _ rfl)).cons (hA.get 1 _ rfl))⟩ ?_
      clear hM hA; rintro m1134 a w1135 ⟨i1131, H1132, hM, hA⟩
      cases m1134 with
      | zero => exact absurd H1132 (by simp [ref38_table.l0])
      | succ m1134 =>
      rw [ref38_table.l0] at H1132
      refine wp_seq ?_
      refine wp_seq ?_
      refine wp_region_lit ?_
      refine L1 (stv hA (by decide) (run_move (hA.ev rfl)) ?_)
      clear hA; intro a hA
      refine L1 (stv hA (by decide) (run_move (hA.ev rfl)) ?_)
      clear hA; intro a hA
      refine L1 (stv hA (by decide) (run_len_slice Try.underlying39 (hA.ev rfl)) ?_)
      clear hA; intro a hA
      refine L1 (stv hA (by decide) (run_bin (hA.ev rfl) (hA.ev rfl) (bin_lss _ _ _ _)) ?_)
      clear hA; intro a hA
      refine LQ ?_
      refine TN ?_
      refine tcond (b := (decide (i1131 < ((l_1.length : Nat) : Int)))) hA rfl (fun hb1136 => ?_) (fun hb1136 => ?_)
      · replace H1132 := ite_t hb1136 H1132
        refine wp_skip ?_
        refine TN ?_
        refine wp_seq ?_
        refine wp_block ?_
        refine wp_seq ?_
        refine draw (fun w' => Below w1135.heap.size w1135 w') [] rfl ?_
        intro w1137 hw hS; replace hM := hM.ext hS; clear hw
        refine rebase hS ?_; clear hS; intro hS
        refine d_take (i := 0) (L' := #[tT,fF,fF,fF,fF,fF,fF,fF]) rfl (by kernel_rfl) rfl (fun _ _ _ h => h) hA (by decide) rfl hS (fun a w' hA hS' => run_ld (hA.ev rfl) (run_loadP Try.isAgg33 Try.sizeOf33 ((hM.box .z).extB hS'))) ?_; clear hA; intro a hA
        refine d_takef (i := 1) (L' := #[tT,tT,fF,fF,fF,fF,fF,fF]) rfl (by kernel_rfl) rfl (fun _ _ _ h => h) hA (by decide) (fun _ => hS) (fun a w' hA => run_move (hA.ev rfl)) ?_; clear hA; intro a hA
        refine d_takef (i := 2) (L' := #[tT,tT,tT,fF,fF,fF,fF,fF]) rfl (by kernel_rfl) rfl (fun _ _ _ h => h) hA (by decide) (fun _ => hS) (fun a w' hA => run_move (hA.ev rfl)) ?_; clear hA; intro a hA
        obtain ⟨⟨hi1139, hj1140⟩, H1132⟩ := ite_some H1132
        obtain ⟨ad1141, hq1142, hat1143⟩ := Row.elem' (p := pPlace) (hM.ro hr1) (Eq.refl l_1.length) Place.z i1131 hi1139 hj1140
        refine d_takef (i := 3) (L' := #[tT,tT,tT,tT,fF,fF,fF,fF]) rfl (by kernel_rfl) rfl (fun _ _ _ h => h) hA (by decide) (fun _ => hS) (fun a w' hA => run_idx Try.underlying39 Try.sizeOf70 (hA.ev rfl) hq1142 (hA.ev rfl) hi1139 hj1140) ?_; clear hA; intro a hA
        refine d_takef (i := 4) (L' := #[tT,tT,tT,tT,tT,fF,fF,fF]) rfl (by kernel_rfl) rfl (fun _ _ _ h => h) hA (by decide) (fun _ => hS) (fun a w' hA => run_field' Try.underlying70 rfl rfl Try.sizeOf46 (by decide) (hA.ev rfl)) ?_; clear hA; intro a hA
        refine d_take (i := 5) (L' := #[tT,tT,tT,tT,tT,tT,fF,fF]) rfl (by kernel_rfl) rfl (fun _ _ _ h => h) hA (by decide) rfl hS (fun a w' hA hS' => run_ld (hA.ev rfl) (run_loadP Try.isAgg46 Try.sizeOf46 ((Place.at_Addr_ (hat1143)).extB hS'))) ?_; clear hA; intro a hA
        obtain ⟨r1144, H1145, H1132⟩ := Option.bind_eq_some_iff.1 H1132
        refine d_one (i := 6) (L' := #[tT,tT,tT,tT,tT,tT,tT,fF]) (by kernel_rfl) rfl rfl (st_call Try.call75 hA [(.agg (pHash.enc salt_0).toArray), (.agg (pNAddr.enc ((l_1.getD i1131.toNat Place.z).Addr_)).toArray)] rfl (by decide) (ref38_TriedBucket.calls _ _ _ _ _ _ (hM.front (Ms := [])) H1145) ?_)
        clear hA; rintro _ w1146 ⟨rfl, hMc⟩ a hA
        have hE := hMc.below; have hM := hM.call (Ms := []) hMc
        clear hMc; simp only [List.cons_append, List.nil_append] at hM
        replace hS := hS.trans (hE.mono hS.size)
        refine ⟨fun _ => hS, ?_⟩
        refine d_takef (i := 7) (L' := #[tT,tT,tT,tT,tT,tT,tT,tT]) rfl (by kernel_rfl) rfl (fun _ _ _ h => h) hA (by decide) (fun _ => hS) (fun a w' hA => run_assign (hA.ev rfl)) ?_; clear hA; intro a hA
        refine d_done (by kernel_rfl) ?_
        refine TN ?_
        refine wp_seq ?_
        refine wp_seq ?_
        refine wp_region_lit ?_
        refine L1 (stv hA (by decide) (run_move (hA.ev rfl)) ?_)
        clear hA; intro a hA
        refine LQ ?_
        refine TN ?_
        obtain ⟨o1170, H1169, H1132⟩ := Option.bind_eq_some_iff.1 H1132
        refine cutC (fun a w => ∃ (b1168 : Int), b1168 = o1170 ∧ Mem F w0 w [.box g659 33 (pHash.enc salt_0)] ∧ Has 84 [(1, (.slice A1 l_1.length c1)), (2, (.bool heard_2)), (3, (.pointer (some (⟨g659, 0, none⟩)))), (7, (.int .i64 i1131)), (8, (.int .i64 b1168))] a) ?_ ?_
        · refine tcond (b := heard_2) hA rfl (fun hb1171 => ?_) (fun hb1171 => ?_)
          · replace H1169 := ite_t hb1171 H1169
            refine draw (fun w' => Below w1146.heap.size w1146 w') [] rfl ?_
            intro w1172 hw hS; replace hM := hM.ext hS; clear hw
            refine rebase hS ?_; clear hS; intro hS
            refine d_take (i := 0) (L' := #[tT,fF,fF,fF,fF,fF,fF,fF,fF,fF,fF,fF,fF]) rfl (by kernel_rfl) rfl (fun _ _ _ h => h) hA (by decide) rfl hS (fun a w' hA hS' => run_ld (hA.ev rfl) (run_loadP Try.isAgg33 Try.sizeOf33 ((hM.box .z).extB hS'))) ?_; clear hA; intro a hA
            refine d_takef (i := 1) (L' := #[tT,tT,fF,fF,fF,fF,fF,fF,fF,fF,fF,fF,fF]) rfl (by kernel_rfl) rfl (fun _ _ _ h => h) hA (by decide) (fun _ => hS) (fun a w' hA => run_move (hA.ev rfl)) ?_; clear hA; intro a hA
            refine d_takef (i := 2) (L' := #[tT,tT,tT,fF,fF,fF,fF,fF,fF,fF,fF,fF,fF]) rfl (by kernel_rfl) rfl (fun _ _ _ h => h) hA (by decide) (fun _ => hS) (fun a w' hA => run_move (hA.ev rfl)) ?_; clear hA; intro a hA
            obtain ⟨⟨hi1174, hj1175⟩, H1169⟩ := ite_some H1169
            obtain ⟨ad1176, hq1177, hat1178⟩ := Row.elem' (p := pPlace) (hM.ro hr1) (Eq.refl l_1.length) Place.z i1131 hi1174 hj1175
            refine d_takef (i := 3) (L' := #[tT,tT,tT,tT,fF,fF,fF,fF,fF,fF,fF,fF,fF]) rfl (by kernel_rfl) rfl (fun _ _ _ h => h) hA (by decide) (fun _ => hS) (fun a w' hA => run_idx Try.underlying39 Try.sizeOf70 (hA.ev rfl) hq1177 (hA.ev rfl) hi1174 hj1175) ?_; clear hA; intro a hA
            refine d_takef (i := 4) (L' := #[tT,tT,tT,tT,tT,fF,fF,fF,fF,fF,fF,fF,fF]) rfl (by kernel_rfl) rfl (fun _ _ _ h => h) hA (by decide) (fun _ => hS) (fun a w' hA => run_field' Try.underlying70 rfl rfl Try.sizeOf46 (by decide) (hA.ev rfl)) ?_; clear hA; intro a hA
            refine d_take (i := 5) (L' := #[tT,tT,tT,tT,tT,tT,fF,fF,fF,fF,fF,fF,fF]) rfl (by kernel_rfl) rfl (fun _ _ _ h => h) hA (by decide) rfl hS (fun a w' hA hS' => run_ld (hA.ev rfl) (run_loadP Try.isAgg46 Try.sizeOf46 ((Place.at_Addr_ (hat1178)).extB hS'))) ?_; clear hA; intro a hA
            refine d_takef (i := 6) (L' := #[tT,tT,tT,tT,tT,tT,tT,fF,fF,fF,fF,fF,fF]) rfl (by kernel_rfl) rfl (fun _ _ _ h => h) hA (by decide) (fun _ => hS) (fun a w' hA => run_move (hA.ev rfl)) ?_; clear hA; intro a hA
            refine d_takef (i := 7) (L' := #[tT,tT,tT,tT,tT,tT,tT,tT,fF,fF,fF,fF,fF]) rfl (by kernel_rfl) rfl (fun _ _ _ h => h) hA (by decide) (fun _ => hS) (fun a w' hA => run_move (hA.ev rfl)) ?_; clear hA; intro a hA
            obtain ⟨⟨hi1179, hj1180⟩, H1169⟩ := ite_some H1169
            obtain ⟨ad1181, hq1182, hat1183⟩ := Row.elem' (p := pPlace) (hM.ro hr1) (Eq.refl l_1.length) Place.z i1131 hi1179 hj1180
            refine d_takef (i := 8) (L' := #[tT,tT,tT,tT,tT,tT,tT,tT,tT,fF,fF,fF,fF]) rfl (by kernel_rfl) rfl (fun _ _ _ h => h) hA (by decide) (fun _ => hS) (fun a w' hA => run_idx Try.underlying39 Try.sizeOf70 (hA.ev rfl) hq1182 (hA.ev rfl) hi1179 hj1180) ?_; clear hA; intro a hA
            refine d_takef (i := 9) (L' := #[tT,tT,tT,tT,tT,tT,tT,tT,tT,tT,fF,fF,fF]) rfl (by kernel_rfl) rfl (fun _ _ _ h => h) hA (by decide) (fun _ => hS) (fun a w' hA => run_field' Try.underlying70 rfl rfl Try.sizeOf43 (by decide) (hA.ev rfl)) ?_; clear hA; intro a hA
            refine d_take (i := 10) (L' := #[tT,tT,tT,tT,tT,tT,tT,tT,tT,tT,tT,fF,fF]) rfl (by kernel_rfl) rfl (fun _ _ _ h => h) hA (by decide) rfl hS (fun a w' hA hS' => run_ld (hA.ev rfl) (run_loadS Try.isAgg43 ((Place.at_Source (hat1183)).extB hS'))) ?_; clear hA; intro a hA
            obtain ⟨r1184, H1185, H1169⟩ := Option.bind_eq_some_iff.1 H1169
            refine d_one (i := 11) (L' := #[tT,tT,tT,tT,tT,tT,tT,tT,tT,tT,tT,tT,fF]) (by kernel_rfl) rfl rfl (st_call Try.call95 hA [(.agg (pHash.enc salt_0).toArray), (.agg (pNAddr.enc ((l_1.getD i1131.toNat Place.z).Addr_)).toArray), (.int .u32 ((l_1.getD i1131.toNat Place.z).Source))] rfl (by decide) (ref38_HeardBucket.calls _ _ _ _ _ _ _ (hM.front (Ms := [])) H1185) ?_)
            clear hA; rintro _ w1186 ⟨rfl, hMc⟩ a hA
            have hE := hMc.below; have hM := hM.call (Ms := []) hMc
            clear hMc; simp only [List.cons_append, List.nil_append] at hM
            replace hS := hS.trans (hE.mono hS.size)
            refine ⟨fun _ => hS, ?_⟩
            refine d_takef (i := 12) (L' := #[tT,tT,tT,tT,tT,tT,tT,tT,tT,tT,tT,tT,tT]) rfl (by kernel_rfl) rfl (fun _ _ _ h => h) hA (by decide) (fun _ => hS) (fun a w' hA => run_assign (hA.ev rfl)) ?_; clear hA; intro a hA
            refine d_done (by kernel_rfl) ?_
            exact ⟨r1184, Option.some.inj H1169, hM, (((((hA.nil.cons (hA.get 8 _ rfl)).cons (hA.get 7 _ rfl)).cons (hA.get 3 _ rfl)).cons (hA.get 2 _ rfl)).cons (hA.get 1 _ rfl))⟩
          · replace H1169 := ite_f hb1171 H1169
            refine wp_skip ?_
            exact ⟨r1144, Option.some.inj H1169, hM, (((((hA.nil.cons (hA.get 8 _ rfl)).cons (hA.get 7 _ rfl)).cons (hA.get 3 _ rfl)).cons (hA.get 2 _ rfl)).cons (hA.get 1 _ rfl))⟩
        clear hM hA
        rintro a w1187 ⟨b1168, rfl, hM, hA⟩
        try dsimp only at H1132
        refine TN ?_
        refine wp_seq ?_
        obtain ⟨o1254, H1253, H1132⟩ := Option.bind_eq_some_iff.1 H1132
        refine cutC (fun a w => ∃ (t1252 : Bool), t1252 = o1254 ∧ Mem F w0 w [.box g659 33 (pHash.enc salt_0)] ∧ Has 84 [(1, (.slice A1 l_1.length c1)), (2, (.bool heard_2)), (3, (.pointer (some (⟨g659, 0, none⟩)))), (7, (.int .i64 i1131)), (83, (.bool t1252))] a) ?_ ?_
        · refine wp_region_lit ?_
          refine L1 (stv hA (by decide) (run_move (hA.ev rfl)) ?_)
          clear hA; intro a hA
          refine L1 (stv hA (by decide) (run_move (hA.ev rfl)) ?_)
          clear hA; intro a hA
          obtain ⟨⟨hi1255, hj1256⟩, H1253⟩ := ite_some H1253
          obtain ⟨ad1257, hq1258, hat1259⟩ := Row.elem' (p := pPlace) (hM.ro hr1) (Eq.refl l_1.length) Place.z i1131 hi1255 hj1256
          refine L1 (stv hA (by decide) (run_idx Try.underlying39 Try.sizeOf70 (hA.ev rfl) hq1258 (hA.ev rfl) hi1255 hj1256) ?_)
          clear hA; intro a hA
          refine L1 (stv hA (by decide) (run_field' Try.underlying70 rfl rfl Try.sizeOf3 (by decide) (hA.ev rfl)) ?_)
          clear hA; intro a hA
          refine L1 (stv hA (by decide) (run_ld (hA.ev rfl) (run_loadS Try.isAgg3 (Place.at_Bucket (hat1259)))) ?_)
          clear hA; intro a hA
          refine L1 (stv hA (by decide) (run_move (hA.ev rfl)) ?_)
          clear hA; intro a hA
          refine L1 (stv hA (by decide) (run_bin (hA.ev rfl) (hA.ev rfl) (bin_neq _ _ _ _)) ?_)
          clear hA; intro a hA
          refine L1 (stv hA (by decide) (run_move (hA.ev rfl)) ?_)
          clear hA; intro a hA
          refine bsplit (b := (((l_1.getD i1131.toNat Place.z).Bucket) != b1168)) (fun hb1260 => ?_) (fun hb1260 => ?_)
          · replace H1253 := ite_t hb1260 H1253
            have hA := hA.re (t := 45) rfl (congrArg Value.bool hb1260)
            refine L1 (gate_off rfl (by decide) rfl hA (by decide) rfl rfl ?_); clear hA; intro a hA
            refine L1 (gate_off rfl (by decide) rfl hA (by decide) rfl rfl ?_); clear hA; intro a hA
            refine L1 (gate_off rfl (by decide) rfl hA (by decide) rfl rfl ?_); clear hA; intro a hA
            refine L1 (gate_undef rfl (by decide) rfl hA (by decide) rfl ?_); clear hA; intro a hA
            refine L1 (gate_undef rfl (by decide) rfl hA (by decide) rfl ?_); clear hA; intro a hA
            refine L1 (gate_undef rfl (by decide) rfl hA (by decide) rfl ?_); clear hA; intro a hA
            refine L1 (gate_undef rfl (by decide) rfl hA (by decide) rfl ?_); clear hA; intro a hA
            refine L1 (gate_undef rfl (by decide) rfl hA (by decide) rfl ?_); clear hA; intro a hA
            refine L1 (gate_undef rfl (by decide) rfl hA (by decide) rfl ?_); clear hA; intro a hA
            refine L1 (gate_undef rfl (by decide) rfl hA (by decide) rfl ?_); clear hA; intro a hA
            refine L1 (gate_undef rfl (by decide) rfl hA (by decide) rfl ?_); clear hA; intro a hA
            refine L1 (gate_off rfl (by decide) rfl hA (by decide) rfl rfl ?_); clear hA; intro a hA
            refine L1 (stv hA (by decide) (run_pick (hA.ev rfl) (fun _ => hA.ev rfl) (fun h => Bool.noConfusion h)) ?_)
            clear hA; intro a hA
            refine L1 (stv hA (by decide) (run_move (hA.ev rfl)) ?_)
            clear hA; intro a hA
            refine L1 (gate_off rfl (by decide) rfl hA (by decide) rfl rfl ?_); clear hA; intro a hA
            refine L1 (gate_off rfl (by decide) rfl hA (by decide) rfl rfl ?_); clear hA; intro a hA
            refine L1 (gate_off rfl (by decide) rfl hA (by decide) rfl rfl ?_); clear hA; intro a hA
            refine L1 (gate_undef rfl (by decide) rfl hA (by decide) rfl ?_); clear hA; intro a hA
            refine L1 (gate_undef rfl (by decide) rfl hA (by decide) rfl ?_); clear hA; intro a hA
            refine L1 (gate_undef rfl (by decide) rfl hA (by decide) rfl ?_); clear hA; intro a hA
            refine L1 (gate_undef rfl (by decide) rfl hA (by decide) rfl ?_); clear hA; intro a hA
            refine L1 (gate_undef rfl (by decide) rfl hA (by decide) rfl ?_); clear hA; intro a hA
            refine L1 (gate_undef rfl (by decide) rfl hA (by decide) rfl ?_); clear hA; intro a hA
            refine L1 (gate_undef rfl (by decide) rfl hA (by decide) rfl ?_); clear hA; intro a hA
            refine L1 (gate_undef rfl (by decide) rfl hA (by decide) rfl ?_); clear hA; intro a hA
            refine L1 (gate_off rfl (by decide) rfl hA (by decide) rfl rfl ?_); clear hA; intro a hA
            refine L1 (stv hA (by decide) (run_pick (hA.ev rfl) (fun _ => hA.ev rfl) (fun h => Bool.noConfusion h)) ?_)
            clear hA; intro a hA
            refine L1 (stv hA (by decide) (run_move (hA.ev rfl)) ?_)
            clear hA; intro a hA
            refine L1 (gate_off rfl (by decide) rfl hA (by decide) rfl rfl ?_); clear hA; intro a hA
            refine L1 (gate_off rfl (by decide) rfl hA (by decide) rfl rfl ?_); clear hA; intro a hA
            refine L1 (gate_off rfl (by decide) rfl hA (by decide) rfl rfl ?_); clear hA; intro a hA
            refine L1 (gate_off rfl (by decide) rfl hA (by decide) rfl rfl ?_); clear hA; intro a hA
            refine L1 (gate_off rfl (by decide) rfl hA (by decide) rfl rfl ?_); clear hA; intro a hA
            refine L1 (gate_off rfl (by decide) rfl hA (by decide) rfl rfl ?_); clear hA; intro a hA
            refine L1 (gate_off rfl (by decide) rfl hA (by decide) rfl rfl ?_); clear hA; intro a hA
            refine L1 (gate_off rfl (by decide) rfl hA (by decide) rfl rfl ?_); clear hA; intro a hA
            refine L1 (gate_off rfl (by decide) rfl hA (by decide) rfl rfl ?_); clear hA; intro a hA
            refine L1 (stv hA (by decide) (run_pick (hA.ev rfl) (fun _ => hA.ev rfl) (fun h => Bool.noConfusion h)) ?_)
            clear hA; intro a hA
            refine LQ ?_
            exact ⟨true, Option.some.inj H1253, hM, (((((hA.nil.cons (hA.get 83 _ rfl)).cons (hA.get 7 _ rfl)).cons (hA.get 3 _ rfl)).cons (hA.get 2 _ rfl)).cons (hA.get 1 _ rfl))⟩
          · replace H1253 := ite_f hb1260 H1253
            have hA := hA.re (t := 45) rfl (congrArg Value.bool hb1260)
            refine L1 (gate_on rfl rfl hA (by decide) rfl (stv hA (by decide) (run_move (hA.ev rfl)) ?_))
            clear hA; intro a hA
            refine L1 (gate_on rfl rfl hA (by decide) rfl (stv hA (by decide) (run_bin (hA.ev rfl) (hA.ev rfl) (bin_gtr _ _ _ _)) ?_))
            clear hA; intro a hA
            refine L1 (gate_on rfl rfl hA (by decide) rfl (stv hA (by decide) (run_move (hA.ev rfl)) ?_))
            clear hA; intro a hA
            refine bsplit (b := (decide (i1131 > 0))) (fun hb1261 => ?_) (fun hb1261 => ?_)
            · replace H1253 := ite_t hb1261 H1253
              have hA := hA.re (t := 48) rfl (congrArg Value.bool hb1261)
              refine L1 (gate_on rfl rfl hA (by decide) rfl (stv hA (by decide) (run_move (hA.ev rfl)) ?_))
              clear hA; intro a hA
              refine L1 (gate_on rfl rfl hA (by decide) rfl (stv hA (by decide) (run_move (hA.ev rfl)) ?_))
              clear hA; intro a hA
              refine L1 (gate_on rfl rfl hA (by decide) rfl (stv hA (by decide) (run_bin (hA.ev rfl) (hA.ev rfl) (bin_sub _ _ _ _)) ?_))
              clear hA; intro a hA
              obtain ⟨⟨hi1262, hj1263⟩, H1253⟩ := ite_some H1253
              obtain ⟨ad1264, hq1265, hat1266⟩ := Row.elem' (p := pPlace) (hM.ro hr1) (Eq.refl l_1.length) Place.z (IntKind.i64.wrap (i1131 - 1)) hi1262 hj1263
              refine L1 (gate_on rfl rfl hA (by decide) rfl (stv hA (by decide) (run_idx Try.underlying39 Try.sizeOf70 (hA.ev rfl) hq1265 (hA.ev rfl) hi1262 hj1263) ?_))
              clear hA; intro a hA
              refine L1 (gate_on rfl rfl hA (by decide) rfl (stv hA (by decide) (run_field' Try.underlying70 rfl rfl Try.sizeOf3 (by decide) (hA.ev rfl)) ?_))
              clear hA; intro a hA
              refine L1 (gate_on rfl rfl hA (by decide) rfl (stv hA (by decide) (run_ld (hA.ev rfl) (run_loadS Try.isAgg3 (Place.at_Bucket (hat1266)))) ?_))
              clear hA; intro a hA
              refine L1 (gate_on rfl rfl hA (by decide) rfl (stv hA (by decide) (run_move (hA.ev rfl)) ?_))
              clear hA; intro a hA
              refine L1 (gate_on rfl rfl hA (by decide) rfl (stv hA (by decide) (run_bin (hA.ev rfl) (hA.ev rfl) (bin_gtr _ _ _ _)) ?_))
              clear hA; intro a hA
              refine L1 (gate_on rfl rfl hA (by decide) rfl (stv hA (by decide) (run_pick (hA.ev rfl) (fun _ => hA.ev rfl) (fun h => Bool.noConfusion h)) ?_))
              clear hA; intro a hA
              refine L1 (stv hA (by decide) (run_pick (hA.ev rfl) (fun h => Bool.noConfusion h) (fun _ => hA.ev rfl)) ?_)
              clear hA; intro a hA
              refine L1 (stv hA (by decide) (run_move (hA.ev rfl)) ?_)
              clear hA; intro a hA
              refine bsplit (b := (decide (((l_1.getD (IntKind.i64.wrap (i1131 - 1)).toNat Place.z).Bucket) > b1168))) (fun hb1267 => ?_) (fun hb1267 => ?_)
              · replace H1253 := ite_t hb1267 H1253
                have hA := hA.re (t := 59) rfl (congrArg Value.bool hb1267)
                refine L1 (gate_off rfl (by decide) rfl hA (by decide) rfl rfl ?_); clear hA; intro a hA
                refine L1 (gate_off rfl (by decide) rfl hA (by decide) rfl rfl ?_); clear hA; intro a hA
                refine L1 (gate_off rfl (by decide) rfl hA (by decide) rfl rfl ?_); clear hA; intro a hA
                refine L1 (gate_undef rfl (by decide) rfl hA (by decide) rfl ?_); clear hA; intro a hA
                refine L1 (gate_undef rfl (by decide) rfl hA (by decide) rfl ?_); clear hA; intro a hA
                refine L1 (gate_undef rfl (by decide) rfl hA (by decide) rfl ?_); clear hA; intro a hA
                refine L1 (gate_undef rfl (by decide) rfl hA (by decide) rfl ?_); clear hA; intro a hA
                refine L1 (gate_undef rfl (by decide) rfl hA (by decide) rfl ?_); clear hA; intro a hA
                refine L1 (gate_undef rfl (by decide) rfl hA (by decide) rfl ?_); clear hA; intro a hA
                refine L1 (gate_undef rfl (by decide) rfl hA (by decide) rfl ?_); clear hA; intro a hA
                refine L1 (gate_undef rfl (by decide) rfl hA (by decide) rfl ?_); clear hA; intro a hA
                refine L1 (gate_off rfl (by decide) rfl hA (by decide) rfl rfl ?_); clear hA; intro a hA
                refine L1 (stv hA (by decide) (run_pick (hA.ev rfl) (fun _ => hA.ev rfl) (fun h => Bool.noConfusion h)) ?_)
                clear hA; intro a hA
                refine L1 (stv hA (by decide) (run_move (hA.ev rfl)) ?_)
                clear hA; intro a hA
                refine L1 (gate_off rfl (by decide) rfl hA (by decide) rfl rfl ?_); clear hA; intro a hA
                refine L1 (gate_off rfl (by decide) rfl hA (by decide) rfl rfl ?_); clear hA; intro a hA
                refine L1 (gate_off rfl (by decide) rfl hA (by decide) rfl rfl ?_); clear hA; intro a hA
                refine L1 (gate_off rfl (by decide) rfl hA (by decide) rfl rfl ?_); clear hA; intro a hA
                refine L1 (gate_off rfl (by decide) rfl hA (by decide) rfl rfl ?_); clear hA; intro a hA
                refine L1 (gate_off rfl (by decide) rfl hA (by decide) rfl rfl ?_); clear hA; intro a hA
                refine L1 (gate_off rfl (by decide) rfl hA (by decide) rfl rfl ?_); clear hA; intro a hA
                refine L1 (gate_off rfl (by decide) rfl hA (by decide) rfl rfl ?_); clear hA; intro a hA
                refine L1 (gate_off rfl (by decide) rfl hA (by decide) rfl rfl ?_); clear hA; intro a hA
                refine L1 (stv hA (by decide) (run_pick (hA.ev rfl) (fun _ => hA.ev rfl) (fun h => Bool.noConfusion h)) ?_)
                clear hA; intro a hA
                refine LQ ?_
                exact ⟨true, Option.some.inj H1253, hM, (((((hA.nil.cons (hA.get 83 _ rfl)).cons (hA.get 7 _ rfl)).cons (hA.get 3 _ rfl)).cons (hA.get 2 _ rfl)).cons (hA.get 1 _ rfl))⟩
              · replace H1253 := ite_f hb1267 H1253
                have hA := hA.re (t := 59) rfl (congrArg Value.bool hb1267)
                refine L1 (gate_on rfl rfl hA (by decide) rfl (stv hA (by decide) (run_move (hA.ev rfl)) ?_))
                clear hA; intro a hA
                refine L1 (gate_on rfl rfl hA (by decide) rfl (stv hA (by decide) (run_bin (hA.ev rfl) (hA.ev rfl) (bin_geq _ _ _ _)) ?_))
                clear hA; intro a hA
                refine L1 (gate_on rfl rfl hA (by decide) rfl (stv hA (by decide) (run_move (hA.ev rfl)) ?_))
                clear hA; intro a hA
                refine bsplit (b := (decide (i1131 ≥ 8))) (fun hb1268 => ?_) (fun hb1268 => ?_)
                · replace H1253 := ite_t hb1268 H1253
                  have hA := hA.re (t := 62) rfl (congrArg Value.bool hb1268)
                  refine L1 (gate_on rfl rfl hA (by decide) rfl (stv hA (by decide) (run_move (hA.ev rfl)) ?_))
                  clear hA; intro a hA
                  refine L1 (gate_on rfl rfl hA (by decide) rfl (stv hA (by decide) (run_move (hA.ev rfl)) ?_))
                  clear hA; intro a hA
                  refine L1 (gate_on rfl rfl hA (by decide) rfl (stv hA (by decide) (run_bin (hA.ev rfl) (hA.ev rfl) (bin_sub _ _ _ _)) ?_))
                  clear hA; intro a hA
                  obtain ⟨⟨hi1269, hj1270⟩, H1253⟩ := ite_some H1253
                  obtain ⟨ad1271, hq1272, hat1273⟩ := Row.elem' (p := pPlace) (hM.ro hr1) (Eq.refl l_1.length) Place.z (IntKind.i64.wrap (i1131 - 8)) hi1269 hj1270
                  refine L1 (gate_on rfl rfl hA (by decide) rfl (stv hA (by decide) (run_idx Try.underlying39 Try.sizeOf70 (hA.ev rfl) hq1272 (hA.ev rfl) hi1269 hj1270) ?_))
                  clear hA; intro a hA
                  refine L1 (gate_on rfl rfl hA (by decide) rfl (stv hA (by decide) (run_field' Try.underlying70 rfl rfl Try.sizeOf3 (by decide) (hA.ev rfl)) ?_))
                  clear hA; intro a hA
                  refine L1 (gate_on rfl rfl hA (by decide) rfl (stv hA (by decide) (run_ld (hA.ev rfl) (run_loadS Try.isAgg3 (Place.at_Bucket (hat1273)))) ?_))
                  clear hA; intro a hA
                  refine L1 (gate_on rfl rfl hA (by decide) rfl (stv hA (by decide) (run_move (hA.ev rfl)) ?_))
                  clear hA; intro a hA
                  refine L1 (gate_on rfl rfl hA (by decide) rfl (stv hA (by decide) (run_bin (hA.ev rfl) (hA.ev rfl) (bin_eql _ _ _ _)) ?_))
                  clear hA; intro a hA
                  refine L1 (gate_on rfl rfl hA (by decide) rfl (stv hA (by decide) (run_pick (hA.ev rfl) (fun _ => hA.ev rfl) (fun h => Bool.noConfusion h)) ?_))
                  clear hA; intro a hA
                  refine L1 (stv hA (by decide) (run_pick (hA.ev rfl) (fun h => Bool.noConfusion h) (fun _ => hA.ev rfl)) ?_)
                  clear hA; intro a hA
                  refine L1 (stv hA (by decide) (run_move (hA.ev rfl)) ?_)
                  clear hA; intro a hA
                  refine bsplit (b := (((l_1.getD (IntKind.i64.wrap (i1131 - 8)).toNat Place.z).Bucket) == b1168)) (fun hb1274 => ?_) (fun hb1274 => ?_)
                  · replace H1253 := ite_t hb1274 H1253
                    have hA := hA.re (t := 73) rfl (congrArg Value.bool hb1274)
                    refine L1 (gate_off rfl (by decide) rfl hA (by decide) rfl rfl ?_); clear hA; intro a hA
                    refine L1 (gate_off rfl (by decide) rfl hA (by decide) rfl rfl ?_); clear hA; intro a hA
                    refine L1 (gate_off rfl (by decide) rfl hA (by decide) rfl rfl ?_); clear hA; intro a hA
                    refine L1 (gate_off rfl (by decide) rfl hA (by decide) rfl rfl ?_); clear hA; intro a hA
                    refine L1 (gate_off rfl (by decide) rfl hA (by decide) rfl rfl ?_); clear hA; intro a hA
                    refine L1 (gate_off rfl (by decide) rfl hA (by decide) rfl rfl ?_); clear hA; intro a hA
                    refine L1 (gate_off rfl (by decide) rfl hA (by decide) rfl rfl ?_); clear hA; intro a hA
                    refine L1 (gate_off rfl (by decide) rfl hA (by decide) rfl rfl ?_); clear hA; intro a hA
                    refine L1 (gate_off rfl (by decide) rfl hA (by decide) rfl rfl ?_); clear hA; intro a hA
                    refine L1 (stv hA (by decide) (run_pick (hA.ev rfl) (fun _ => hA.ev rfl) (fun h => Bool.noConfusion h)) ?_)
                    clear hA; intro a hA
                    refine LQ ?_
                    exact ⟨true, Option.some.inj H1253, hM, (((((hA.nil.cons (hA.get 83 _ rfl)).cons (hA.get 7 _ rfl)).cons (hA.get 3 _ rfl)).cons (hA.get 2 _ rfl)).cons (hA.get 1 _ rfl))⟩
                  · replace H1253 := ite_f hb1274 H1253
                    have hA := hA.re (t := 73) rfl (congrArg Value.bool hb1274)
                    refine L1 (gate_on rfl rfl hA (by decide) rfl (stv hA (by decide) (run_move (hA.ev rfl)) ?_))
                    clear hA; intro a hA
                    refine L1 (gate_on rfl rfl hA (by decide) rfl (stv hA (by decide) (run_move (hA.ev rfl)) ?_))
                    clear hA; intro a hA
                    refine L1 (gate_on rfl rfl hA (by decide) rfl (stv hA (by decide) (run_move (hA.ev rfl)) ?_))
                    clear hA; intro a hA
                    obtain ⟨⟨hi1275, hj1276⟩, H1253⟩ := ite_some H1253
                    obtain ⟨ad1277, hq1278, hat1279⟩ := Row.elem' (p := pPlace) (hM.ro hr1) (Eq.refl l_1.length) Place.z i1131 hi1275 hj1276
                    refine L1 (gate_on rfl rfl hA (by decide) rfl (stv hA (by decide) (run_idx Try.underlying39 Try.sizeOf70 (hA.ev rfl) hq1278 (hA.ev rfl) hi1275 hj1276) ?_))
                    clear hA; intro a hA
                    refine L1 (gate_on rfl rfl hA (by decide) rfl (stv hA (by decide) (run_field' Try.underlying70 rfl rfl Try.sizeOf46 (by decide) (hA.ev rfl)) ?_))
                    clear hA; intro a hA
                    refine L1 (gate_on rfl rfl hA (by decide) rfl (stv hA (by decide) (run_ld (hA.ev rfl) (run_loadP Try.isAgg46 Try.sizeOf46 (Place.at_Addr_ (hat1279)))) ?_))
                    clear hA; intro a hA
                    obtain ⟨r1280, H1281, H1253⟩ := Option.bind_eq_some_iff.1 H1253
                    refine L1 (gate_on rfl rfl hA (by decide) rfl (st_call Try.call72 hA [(.slice A1 l_1.length c1), (.agg (pNAddr.enc ((l_1.getD i1131.toNat Place.z).Addr_)).toArray)] rfl (by decide) (ref38_find.calls _ _ _ _ _ _ _ ((RoV.mk (hM.roC (Ms := []) hr1) (Eq.refl l_1.length) hc1)) (hM.front (Ms := [])) H1281) ?_))
                    clear hA; rintro _ w1282 ⟨rfl, hMc⟩ a hA
                    have hE := hMc.below; have hM := hM.call (Ms := []) hMc
                    clear hMc; simp only [List.cons_append, List.nil_append] at hM
                    refine L1 (gate_on rfl rfl hA (by decide) rfl (stv hA (by decide) (run_move (hA.ev rfl)) ?_))
                    clear hA; intro a hA
                    refine L1 (gate_on rfl rfl hA (by decide) rfl (stv hA (by decide) (run_bin (hA.ev rfl) (hA.ev rfl) (bin_neq _ _ _ _)) ?_))
                    clear hA; intro a hA
                    refine L1 (stv hA (by decide) (run_pick (hA.ev rfl) (fun h => Bool.noConfusion h) (fun _ => hA.ev rfl)) ?_)
                    clear hA; intro a hA
                    refine LQ ?_
                    exact ⟨(r1280 != i1131), Option.some.inj H1253, hM, (((((hA.nil.cons (hA.get 83 _ rfl)).cons (hA.get 7 _ rfl)).cons (hA.get 3 _ rfl)).cons (hA.get 2 _ rfl)).cons (hA.get 1 _ rfl))⟩
                · replace H1253 := ite_f hb1268 H1253
                  have hA := hA.re (t := 62) rfl (congrArg Value.bool hb1268)
                  refine L1 (gate_off rfl (by decide) rfl hA (by decide) rfl rfl ?_); clear hA; intro a hA
                  refine L1 (gate_off rfl (by decide) rfl hA (by decide) rfl rfl ?_); clear hA; intro a hA
                  refine L1 (gate_off rfl (by decide) rfl hA (by decide) rfl rfl ?_); clear hA; intro a hA
                  refine L1 (gate_off rfl (by decide) rfl hA (by decide) rfl rfl ?_); clear hA; intro a hA
                  refine L1 (gate_off rfl (by decide) rfl hA (by decide) rfl rfl ?_); clear hA; intro a hA
                  refine L1 (gate_off rfl (by decide) rfl hA (by decide) rfl rfl ?_); clear hA; intro a hA
                  refine L1 (gate_off rfl (by decide) rfl hA (by decide) rfl rfl ?_); clear hA; intro a hA
                  refine L1 (gate_off rfl (by decide) rfl hA (by decide) rfl rfl ?_); clear hA; intro a hA
                  refine L1 (gate_on rfl rfl hA (by decide) rfl (stv hA (by decide) (run_pick (hA.ev rfl) (fun h => Bool.noConfusion h) (fun _ => hA.ev rfl)) ?_))
                  clear hA; intro a hA
                  refine L1 (stv hA (by decide) (run_pick (hA.ev rfl) (fun h => Bool.noConfusion h) (fun _ => hA.ev rfl)) ?_)
                  clear hA; intro a hA
                  refine L1 (stv hA (by decide) (run_move (hA.ev rfl)) ?_)
                  clear hA; intro a hA
                  refine L1 (gate_on rfl rfl hA (by decide) rfl (stv hA (by decide) (run_move (hA.ev rfl)) ?_))
                  clear hA; intro a hA
                  refine L1 (gate_on rfl rfl hA (by decide) rfl (stv hA (by decide) (run_move (hA.ev rfl)) ?_))
                  clear hA; intro a hA
                  refine L1 (gate_on rfl rfl hA (by decide) rfl (stv hA (by decide) (run_move (hA.ev rfl)) ?_))
                  clear hA; intro a hA
                  obtain ⟨⟨hi1283, hj1284⟩, H1253⟩ := ite_some H1253
                  obtain ⟨ad1285, hq1286, hat1287⟩ := Row.elem' (p := pPlace) (hM.ro hr1) (Eq.refl l_1.length) Place.z i1131 hi1283 hj1284
                  refine L1 (gate_on rfl rfl hA (by decide) rfl (stv hA (by decide) (run_idx Try.underlying39 Try.sizeOf70 (hA.ev rfl) hq1286 (hA.ev rfl) hi1283 hj1284) ?_))
                  clear hA; intro a hA
                  refine L1 (gate_on rfl rfl hA (by decide) rfl (stv hA (by decide) (run_field' Try.underlying70 rfl rfl Try.sizeOf46 (by decide) (hA.ev rfl)) ?_))
                  clear hA; intro a hA
                  refine L1 (gate_on rfl rfl hA (by decide) rfl (stv hA (by decide) (run_ld (hA.ev rfl) (run_loadP Try.isAgg46 Try.sizeOf46 (Place.at_Addr_ (hat1287)))) ?_))
                  clear hA; intro a hA
                  obtain ⟨r1288, H1289, H1253⟩ := Option.bind_eq_some_iff.1 H1253
                  refine L1 (gate_on rfl rfl hA (by decide) rfl (st_call Try.call72 hA [(.slice A1 l_1.length c1), (.agg (pNAddr.enc ((l_1.getD i1131.toNat Place.z).Addr_)).toArray)] rfl (by decide) (ref38_find.calls _ _ _ _ _ _ _ ((RoV.mk (hM.roC (Ms := []) hr1) (Eq.refl l_1.length) hc1)) (hM.front (Ms := [])) H1289) ?_))
                  clear hA; rintro _ w1290 ⟨rfl, hMc⟩ a hA
                  have hE := hMc.below; have hM := hM.call (Ms := []) hMc
                  clear hMc; simp only [List.cons_append, List.nil_append] at hM
                  refine L1 (gate_on rfl rfl hA (by decide) rfl (stv hA (by decide) (run_move (hA.ev rfl)) ?_))
                  clear hA; intro a hA
                  refine L1 (gate_on rfl rfl hA (by decide) rfl (stv hA (by decide) (run_bin (hA.ev rfl) (hA.ev rfl) (bin_neq _ _ _ _)) ?_))
                  clear hA; intro a hA
                  refine L1 (stv hA (by decide) (run_pick (hA.ev rfl) (fun h => Bool.noConfusion h) (fun _ => hA.ev rfl)) ?_)
                  clear hA; intro a hA
                  refine LQ ?_
                  exact ⟨(r1288 != i1131), Option.some.inj H1253, hM, (((((hA.nil.cons (hA.get 83 _ rfl)).cons (hA.get 7 _ rfl)).cons (hA.get 3 _ rfl)).cons (hA.get 2 _ rfl)).cons (hA.get 1 _ rfl))⟩
            · replace H1253 := ite_f hb1261 H1253
              have hA := hA.re (t := 48) rfl (congrArg Value.bool hb1261)
              refine L1 (gate_off rfl (by decide) rfl hA (by decide) rfl rfl ?_); clear hA; intro a hA
              refine L1 (gate_off rfl (by decide) rfl hA (by decide) rfl rfl ?_); clear hA; intro a hA
              refine L1 (gate_off rfl (by decide) rfl hA (by decide) rfl rfl ?_); clear hA; intro a hA
              refine L1 (gate_off rfl (by decide) rfl hA (by decide) rfl rfl ?_); clear hA; intro a hA
              refine L1 (gate_off rfl (by decide) rfl hA (by decide) rfl rfl ?_); clear hA; intro a hA
              refine L1 (gate_off rfl (by decide) rfl hA (by decide) rfl rfl ?_); clear hA; intro a hA
              refine L1 (gate_off rfl (by decide) rfl hA (by decide) rfl rfl ?_); clear hA; intro a hA
              refine L1 (gate_off rfl (by decide) rfl hA (by decide) rfl rfl ?_); clear hA; intro a hA
              refine L1 (gate_on rfl rfl hA (by decide) rfl (stv hA (by decide) (run_pick (hA.ev rfl) (fun h => Bool.noConfusion h) (fun _ => hA.ev rfl)) ?_))
              clear hA; intro a hA
              refine L1 (stv hA (by decide) (run_pick (hA.ev rfl) (fun h => Bool.noConfusion h) (fun _ => hA.ev rfl)) ?_)
              clear hA; intro a hA
              refine L1 (stv hA (by decide) (run_move (hA.ev rfl)) ?_)
              clear hA; intro a hA
              refine L1 (gate_on rfl rfl hA (by decide) rfl (stv hA (by decide) (run_move (hA.ev rfl)) ?_))
              clear hA; intro a hA
              refine L1 (gate_on rfl rfl hA (by decide) rfl (stv hA (by decide) (run_bin (hA.ev rfl) (hA.ev rfl) (bin_geq _ _ _ _)) ?_))
              clear hA; intro a hA
              refine L1 (gate_on rfl rfl hA (by decide) rfl (stv hA (by decide) (run_move (hA.ev rfl)) ?_))
              clear hA; intro a hA
              refine bsplit (b := (decide (i1131 ≥ 8))) (fun hb1291 => ?_) (fun hb1291 => ?_)
              · replace H1253 := ite_t hb1291 H1253
                have hA := hA.re (t := 62) rfl (congrArg Value.bool hb1291)
                refine L1 (gate_on rfl rfl hA (by decide) rfl (stv hA (by decide) (run_move (hA.ev rfl)) ?_))
                clear hA; intro a hA
                refine L1 (gate_on rfl rfl hA (by decide) rfl (stv hA (by decide) (run_move (hA.ev rfl)) ?_))
                clear hA; intro a hA
                refine L1 (gate_on rfl rfl hA (by decide) rfl (stv hA (by decide) (run_bin (hA.ev rfl) (hA.ev rfl) (bin_sub _ _ _ _)) ?_))
                clear hA; intro a hA
                obtain ⟨⟨hi1292, hj1293⟩, H1253⟩ := ite_some H1253
                obtain ⟨ad1294, hq1295, hat1296⟩ := Row.elem' (p := pPlace) (hM.ro hr1) (Eq.refl l_1.length) Place.z (IntKind.i64.wrap (i1131 - 8)) hi1292 hj1293
                refine L1 (gate_on rfl rfl hA (by decide) rfl (stv hA (by decide) (run_idx Try.underlying39 Try.sizeOf70 (hA.ev rfl) hq1295 (hA.ev rfl) hi1292 hj1293) ?_))
                clear hA; intro a hA
                refine L1 (gate_on rfl rfl hA (by decide) rfl (stv hA (by decide) (run_field' Try.underlying70 rfl rfl Try.sizeOf3 (by decide) (hA.ev rfl)) ?_))
                clear hA; intro a hA
                refine L1 (gate_on rfl rfl hA (by decide) rfl (stv hA (by decide) (run_ld (hA.ev rfl) (run_loadS Try.isAgg3 (Place.at_Bucket (hat1296)))) ?_))
                clear hA; intro a hA
                refine L1 (gate_on rfl rfl hA (by decide) rfl (stv hA (by decide) (run_move (hA.ev rfl)) ?_))
                clear hA; intro a hA
                refine L1 (gate_on rfl rfl hA (by decide) rfl (stv hA (by decide) (run_bin (hA.ev rfl) (hA.ev rfl) (bin_eql _ _ _ _)) ?_))
                clear hA; intro a hA
                refine L1 (gate_on rfl rfl hA (by decide) rfl (stv hA (by decide) (run_pick (hA.ev rfl) (fun _ => hA.ev rfl) (fun h => Bool.noConfusion h)) ?_))
                clear hA; intro a hA
                refine L1 (stv hA (by decide) (run_pick (hA.ev rfl) (fun h => Bool.noConfusion h) (fun _ => hA.ev rfl)) ?_)
                clear hA; intro a hA
                refine L1 (stv hA (by decide) (run_move (hA.ev rfl)) ?_)
                clear hA; intro a hA
                refine bsplit (b := (((l_1.getD (IntKind.i64.wrap (i1131 - 8)).toNat Place.z).Bucket) == b1168)) (fun hb1297 => ?_) (fun hb1297 => ?_)
                · replace H1253 := ite_t hb1297 H1253
                  have hA := hA.re (t := 73) rfl (congrArg Value.bool hb1297)
                  refine L1 (gate_off rfl (by decide) rfl hA (by decide) rfl rfl ?_); clear hA; intro a hA
                  refine L1 (gate_off rfl (by decide) rfl hA (by decide) rfl rfl ?_); clear hA; intro a hA
                  refine L1 (gate_off rfl (by decide) rfl hA (by decide) rfl rfl ?_); clear hA; intro a hA
                  refine L1 (gate_off rfl (by decide) rfl hA (by decide) rfl rfl ?_); clear hA; intro a hA
                  refine L1 (gate_off rfl (by decide) rfl hA (by decide) rfl rfl ?_); clear hA; intro a hA
                  refine L1 (gate_off rfl (by decide) rfl hA (by decide) rfl rfl ?_); clear hA; intro a hA
                  refine L1 (gate_off rfl (by decide) rfl hA (by decide) rfl rfl ?_); clear hA; intro a hA
                  refine L1 (gate_off rfl (by decide) rfl hA (by decide) rfl rfl ?_); clear hA; intro a hA
                  refine L1 (gate_off rfl (by decide) rfl hA (by decide) rfl rfl ?_); clear hA; intro a hA
                  refine L1 (stv hA (by decide) (run_pick (hA.ev rfl) (fun _ => hA.ev rfl) (fun h => Bool.noConfusion h)) ?_)
                  clear hA; intro a hA
                  refine LQ ?_
                  exact ⟨true, Option.some.inj H1253, hM, (((((hA.nil.cons (hA.get 83 _ rfl)).cons (hA.get 7 _ rfl)).cons (hA.get 3 _ rfl)).cons (hA.get 2 _ rfl)).cons (hA.get 1 _ rfl))⟩
                · replace H1253 := ite_f hb1297 H1253
                  have hA := hA.re (t := 73) rfl (congrArg Value.bool hb1297)
                  refine L1 (gate_on rfl rfl hA (by decide) rfl (stv hA (by decide) (run_move (hA.ev rfl)) ?_))
                  clear hA; intro a hA
                  refine L1 (gate_on rfl rfl hA (by decide) rfl (stv hA (by decide) (run_move (hA.ev rfl)) ?_))
                  clear hA; intro a hA
                  refine L1 (gate_on rfl rfl hA (by decide) rfl (stv hA (by decide) (run_move (hA.ev rfl)) ?_))
                  clear hA; intro a hA
                  obtain ⟨⟨hi1298, hj1299⟩, H1253⟩ := ite_some H1253
                  obtain ⟨ad1300, hq1301, hat1302⟩ := Row.elem' (p := pPlace) (hM.ro hr1) (Eq.refl l_1.length) Place.z i1131 hi1298 hj1299
                  refine L1 (gate_on rfl rfl hA (by decide) rfl (stv hA (by decide) (run_idx Try.underlying39 Try.sizeOf70 (hA.ev rfl) hq1301 (hA.ev rfl) hi1298 hj1299) ?_))
                  clear hA; intro a hA
                  refine L1 (gate_on rfl rfl hA (by decide) rfl (stv hA (by decide) (run_field' Try.underlying70 rfl rfl Try.sizeOf46 (by decide) (hA.ev rfl)) ?_))
                  clear hA; intro a hA
                  refine L1 (gate_on rfl rfl hA (by decide) rfl (stv hA (by decide) (run_ld (hA.ev rfl) (run_loadP Try.isAgg46 Try.sizeOf46 (Place.at_Addr_ (hat1302)))) ?_))
                  clear hA; intro a hA
                  obtain ⟨r1303, H1304, H1253⟩ := Option.bind_eq_some_iff.1 H1253
                  refine L1 (gate_on rfl rfl hA (by decide) rfl (st_call Try.call72 hA [(.slice A1 l_1.length c1), (.agg (pNAddr.enc ((l_1.getD i1131.toNat Place.z).Addr_)).toArray)] rfl (by decide) (ref38_find.calls _ _ _ _ _ _ _ ((RoV.mk (hM.roC (Ms := []) hr1) (Eq.refl l_1.length) hc1)) (hM.front (Ms := [])) H1304) ?_))
                  clear hA; rintro _ w1305 ⟨rfl, hMc⟩ a hA
                  have hE := hMc.below; have hM := hM.call (Ms := []) hMc
                  clear hMc; simp only [List.cons_append, List.nil_append] at hM
                  refine L1 (gate_on rfl rfl hA (by decide) rfl (stv hA (by decide) (run_move (hA.ev rfl)) ?_))
                  clear hA; intro a hA
                  refine L1 (gate_on rfl rfl hA (by decide) rfl (stv hA (by decide) (run_bin (hA.ev rfl) (hA.ev rfl) (bin_neq _ _ _ _)) ?_))
                  clear hA; intro a hA
                  refine L1 (stv hA (by decide) (run_pick (hA.ev rfl) (fun h => Bool.noConfusion h) (fun _ => hA.ev rfl)) ?_)
                  clear hA; intro a hA
                  refine LQ ?_
                  exact ⟨(r1303 != i1131), Option.some.inj H1253, hM, (((((hA.nil.cons (hA.get 83 _ rfl)).cons (hA.get 7 _ rfl)).cons (hA.get 3 _ rfl)).cons (hA.get 2 _ rfl)).cons (hA.get 1 _ rfl))⟩
              · replace H1253 := ite_f hb1291 H1253
                have hA := hA.re (t := 62) rfl (congrArg Value.bool hb1291)
                refine L1 (gate_off rfl (by decide) rfl hA (by decide) rfl rfl ?_); clear hA; intro a hA
                refine L1 (gate_off rfl (by decide) rfl hA (by decide) rfl rfl ?_); clear hA; intro a hA
                refine L1 (gate_off rfl (by decide) rfl hA (by decide) rfl rfl ?_); clear hA; intro a hA
                refine L1 (gate_off rfl (by decide) rfl hA (by decide) rfl rfl ?_); clear hA; intro a hA
                refine L1 (gate_off rfl (by decide) rfl hA (by decide) rfl rfl ?_); clear hA; intro a hA
                refine L1 (gate_off rfl (by decide) rfl hA (by decide) rfl rfl ?_); clear hA; intro a hA
                refine L1 (gate_off rfl (by decide) rfl hA (by decide) rfl rfl ?_); clear hA; intro a hA
                refine L1 (gate_off rfl (by decide) rfl hA (by decide) rfl rfl ?_); clear hA; intro a hA
                refine L1 (gate_on rfl rfl hA (by decide) rfl (stv hA (by decide) (run_pick (hA.ev rfl) (fun h => Bool.noConfusion h) (fun _ => hA.ev rfl)) ?_))
                clear hA; intro a hA
                refine L1 (stv hA (by decide) (run_pick (hA.ev rfl) (fun h => Bool.noConfusion h) (fun _ => hA.ev rfl)) ?_)
                clear hA; intro a hA
                refine L1 (stv hA (by decide) (run_move (hA.ev rfl)) ?_)
                clear hA; intro a hA
                refine L1 (gate_on rfl rfl hA (by decide) rfl (stv hA (by decide) (run_move (hA.ev rfl)) ?_))
                clear hA; intro a hA
                refine L1 (gate_on rfl rfl hA (by decide) rfl (stv hA (by decide) (run_move (hA.ev rfl)) ?_))
                clear hA; intro a hA
                refine L1 (gate_on rfl rfl hA (by decide) rfl (stv hA (by decide) (run_move (hA.ev rfl)) ?_))
                clear hA; intro a hA
                obtain ⟨⟨hi1306, hj1307⟩, H1253⟩ := ite_some H1253
                obtain ⟨ad1308, hq1309, hat1310⟩ := Row.elem' (p := pPlace) (hM.ro hr1) (Eq.refl l_1.length) Place.z i1131 hi1306 hj1307
                refine L1 (gate_on rfl rfl hA (by decide) rfl (stv hA (by decide) (run_idx Try.underlying39 Try.sizeOf70 (hA.ev rfl) hq1309 (hA.ev rfl) hi1306 hj1307) ?_))
                clear hA; intro a hA
                refine L1 (gate_on rfl rfl hA (by decide) rfl (stv hA (by decide) (run_field' Try.underlying70 rfl rfl Try.sizeOf46 (by decide) (hA.ev rfl)) ?_))
                clear hA; intro a hA
                refine L1 (gate_on rfl rfl hA (by decide) rfl (stv hA (by decide) (run_ld (hA.ev rfl) (run_loadP Try.isAgg46 Try.sizeOf46 (Place.at_Addr_ (hat1310)))) ?_))
                clear hA; intro a hA
                obtain ⟨r1311, H1312, H1253⟩ := Option.bind_eq_some_iff.1 H1253
                refine L1 (gate_on rfl rfl hA (by decide) rfl (st_call Try.call72 hA [(.slice A1 l_1.length c1), (.agg (pNAddr.enc ((l_1.getD i1131.toNat Place.z).Addr_)).toArray)] rfl (by decide) (ref38_find.calls _ _ _ _ _ _ _ ((RoV.mk (hM.roC (Ms := []) hr1) (Eq.refl l_1.length) hc1)) (hM.front (Ms := [])) H1312) ?_))
                clear hA; rintro _ w1313 ⟨rfl, hMc⟩ a hA
                have hE := hMc.below; have hM := hM.call (Ms := []) hMc
                clear hMc; simp only [List.cons_append, List.nil_append] at hM
                refine L1 (gate_on rfl rfl hA (by decide) rfl (stv hA (by decide) (run_move (hA.ev rfl)) ?_))
                clear hA; intro a hA
                refine L1 (gate_on rfl rfl hA (by decide) rfl (stv hA (by decide) (run_bin (hA.ev rfl) (hA.ev rfl) (bin_neq _ _ _ _)) ?_))
                clear hA; intro a hA
                refine L1 (stv hA (by decide) (run_pick (hA.ev rfl) (fun h => Bool.noConfusion h) (fun _ => hA.ev rfl)) ?_)
                clear hA; intro a hA
                refine LQ ?_
                exact ⟨(r1311 != i1131), Option.some.inj H1253, hM, (((((hA.nil.cons (hA.get 83 _ rfl)).cons (hA.get 7 _ rfl)).cons (hA.get 3 _ rfl)).cons (hA.get 2 _ rfl)).cons (hA.get 1 _ rfl))⟩
        clear hM hA
        rintro a w1314 ⟨t1252, rfl, hM, hA⟩
        try dsimp only at H1132
        refine TN ?_
        refine tcond (b := t1252) hA rfl (fun hb1315 => ?_) (fun hb1315 => ?_)
        · replace H1132 := ite_t hb1315 H1132
          refine wp_seq ?_
          refine wp_region_lit ?_
          refine L1 (stv hA (by decide) (run_assign (hA.ev rfl)) ?_)
          clear hA; intro a hA
          refine LQ ?_
          refine TN ?_
          refine wp_ret ?_
          obtain rfl := Option.some.inj H1132
          dsimp only at H
          obtain rfl := Option.some.inj H
          refine BR ?_
          refine TR ?_
          refine TR ?_
          refine BR ?_
          refine TR ?_
          refine TR ?_
          exact ret_post1 (fn := Try.f91) hA rfl rfl ⟨_, rfl, rfl, (hM.sel [] rfl (by decide))⟩
        · replace H1132 := ite_f hb1315 H1132
          refine wp_skip ?_
          refine BN ?_
          refine TN ?_
          refine wp_region_lit ?_
          refine L1 (stv hA (by decide) (run_move (hA.ev rfl)) ?_)
          clear hA; intro a hA
          refine L1 (stv hA (by decide) (run_bin (hA.ev rfl) (hA.ev rfl) (bin_add _ _ _ _)) ?_)
          clear hA; intro a hA
          refine L1 (stv hA (by decide) (run_assign (hA.ev rfl)) ?_)
          clear hA; intro a hA
          refine LQ ?_
          exact ⟨_, Nat.lt_succ_self m1134, IntKind.i64.wrap (i1131 + 1), H1132, hM, ((((hA.nil.cons (hA.get 7 _ rfl)).cons (hA.get 3 _ rfl)).cons (hA.get 2 _ rfl)).cons (hA.get 1 _ rfl))⟩
      · replace H1132 := ite_f hb1136 H1132
        refine wp_exit ?_
        refine TX ?_
        refine TX ?_
        refine BX ?_
        exact ⟨Option.some.inj H1132, (hM.sel [] rfl (by decide)), hA.nil⟩
    clear hM hA
    rintro a w1316 ⟨rfl, hM, hA⟩
    try dsimp only at H
    refine TN ?_
    refine wp_seq ?_
    refine wp_region_lit ?_
    refine L1 (stv hA (by decide) (run_assign (hA.ev rfl)) ?_)
    clear hA; intro a hA
    refine LQ ?_
    refine TN ?_
    refine wp_ret ?_
    obtain rfl := Option.some.inj H
    exact ret_post1 (fn := Try.f91) hA rfl rfl ⟨_, rfl, rfl, hM⟩

def ref38_Sound.l0 (b_0 : Book) : Nat → Int → Option (Out Bool (Unit))
  | 0, _ => none
  | k + 1, i159 => (if (decide (i159 < ((b_0.Heard.length : Nat) : Int))) = true then (if 0 ≤ i159 ∧ i159 < ((b_0.Heard.length : Nat) : Int) then ((ref38_find.f k b_0.Tried ((b_0.Heard.getD i159.toNat Place.z).Addr_)).bind fun r172 => (if (decide (r172 ≥ 0)) = true then (some (.ret false)) else (ref38_Sound.l0 b_0 k (IntKind.i64.wrap (i159 + 1))))) else none) else (some (.go ())))
def ref38_Sound.f (k : Nat) (b_0 : Book) : Option Bool := (Option.bind (α := Bool) ((ref38_table.f k b_0.Salt b_0.Heard true).bind fun r104 => (if (!r104) = true then (some true) else ((ref38_table.f k b_0.Salt b_0.Tried false).bind fun r108 => (some (!r108))))) (fun t101 => (if t101 = true then (some false) else (Option.bind (α := Out Bool (Unit)) (ref38_Sound.l0 b_0 k 0) (fun o => match o with | .ret r => some r | .go _ => (some true))))))
set_option maxHeartbeats 2000000 in
set_option maxRecDepth 100000 in
theorem ref38_Sound.calls (k : Nat) (b_0 : Book) (F : List (Option Nat)) (v0_1 : Value) (v0_2 : Value) (r : Bool) (w0 : World) (h0_1 : RoV F pPlace w0 v0_1 b_0.Heard) (h0_2 : RoV F pPlace w0 v0_2 b_0.Tried) (hM : Mem F w0 w0 []) (H : ref38_Sound.f k b_0 = some r) :
    Calls Try.prog 71 #[(.agg (List.flatten [pHash.enc b_0.Salt, [v0_1], [v0_2]]).toArray)] w0 fun e w' => ∃ v, e = .returned v ∧ v = (.bool r) ∧ Mem F w0 w' [] := by
  unfold ref38_Sound.f at H
  obtain ⟨A0_1, c0_1, rfl, hr0_1, hc0_1⟩ := h0_1
  obtain ⟨A0_2, c0_2, rfl, hr0_2, hc0_2⟩ := h0_2
  refine enterL (n := 35) [(.agg (List.flatten [pHash.enc b_0.Salt, [(.slice A0_1 b_0.Heard.length c0_1)], [(.slice A0_2 b_0.Tried.length c0_2)]]).toArray)] Try.func71 rfl rfl rfl ?_
  intro a hA
  refine wp_seq ?_
  refine wp_region_lit ?_
  refine L1 (e_box (cs := (List.flatten [pHash.enc b_0.Salt, [(.slice A0_1 b_0.Heard.length c0_1)], [(.slice A0_2 b_0.Tried.length c0_2)]])) hM hA rfl rfl (by decide) ?_)
  clear hM hA; intro w90 g89 hM hE  a hA
  refine L1 (stv hA (by decide) (run_assign (hA.ev rfl)) ?_)
  clear hA; intro a hA
  refine LQ ?_
  refine TN ?_
  refine wp_seq ?_
  refine wp_seq ?_
  obtain ⟨o103, H102, H⟩ := Option.bind_eq_some_iff.1 H
  refine cutC (fun a w => ∃ (t101 : Bool), t101 = o103 ∧ Mem F w0 w [.box g89 41 (List.flatten [pHash.enc b_0.Salt, [(.slice A0_1 b_0.Heard.length c0_1)], [(.slice A0_2 b_0.Tried.length c0_2)]])] ∧ Has 35 [(1, (.pointer (some (⟨g89, 0, none⟩)))), (17, (.bool t101))] a) ?_ ?_
  · refine wp_region_lit ?_
    refine L1 (stv hA (by decide) (run_field' Try.underlying41 rfl rfl Try.sizeOf33 (by decide) (hA.ev rfl)) ?_)
    clear hA; intro a hA
    refine L1 (stv hA (by decide) (run_ld (hA.ev rfl) (run_loadP Try.isAgg33 Try.sizeOf33 (At.seg (segs := [pHash.enc b_0.Salt, [(.slice A0_1 b_0.Heard.length c0_1)], [(.slice A0_2 b_0.Tried.length c0_2)]]) (hM.box .z) 0 rfl (by simp [Pl.len]; try rfl)))) ?_)
    clear hA; intro a hA
    refine L1 (stv hA (by decide) (run_field' Try.underlying41 rfl rfl Try.sizeOf39 (by decide) (hA.ev rfl)) ?_)
    clear hA; intro a hA
    refine L1 (stv hA (by decide) (run_ld (hA.ev rfl) (run_loadS Try.isAgg39 (At.seg (segs := [pHash.enc b_0.Salt, [(.slice A0_1 b_0.Heard.length c0_1)], [(.slice A0_2 b_0.Tried.length c0_2)]]) (hM.box .z) 1 rfl (by simp [Pl.len]; try rfl)))) ?_)
    clear hA; intro a hA
    obtain ⟨r104, H105, H102⟩ := Option.bind_eq_some_iff.1 H102
    refine L1 (st_call Try.call91 hA [(.agg (pHash.enc b_0.Salt).toArray), (.slice A0_1 b_0.Heard.length c0_1), (.bool true)] rfl (by decide) (ref38_table.calls _ _ _ _ _ _ _ _ ((RoV.mk (hM.roC (Ms := []) hr0_1) (Eq.refl b_0.Heard.length) hc0_1)) (hM.front (Ms := [])) H105) ?_)
    clear hA; rintro _ w106 ⟨rfl, hMc⟩ a hA
    have hE := hMc.below; have hM := hM.call (Ms := []) hMc
    clear hMc; simp only [List.cons_append, List.nil_append] at hM
    refine L1 (stv hA (by decide) (run_not (hA.ev rfl)) ?_)
    clear hA; intro a hA
    refine L1 (stv hA (by decide) (run_move (hA.ev rfl)) ?_)
    clear hA; intro a hA
    refine bsplit (b := (!r104)) (fun hb107 => ?_) (fun hb107 => ?_)
    · replace H102 := ite_t hb107 H102
      have hA := hA.re (t := 10) rfl (congrArg Value.bool hb107)
      refine L1 (gate_off rfl (by decide) rfl hA (by decide) rfl rfl ?_); clear hA; intro a hA
      refine L1 (gate_off rfl (by decide) rfl hA (by decide) rfl rfl ?_); clear hA; intro a hA
      refine L1 (gate_off rfl (by decide) rfl hA (by decide) rfl rfl ?_); clear hA; intro a hA
      refine L1 (gate_off rfl (by decide) rfl hA (by decide) rfl rfl ?_); clear hA; intro a hA
      refine L1 (gate_off rfl (by decide) rfl hA (by decide) rfl rfl ?_); clear hA; intro a hA
      refine L1 (gate_off rfl (by decide) rfl hA (by decide) rfl rfl ?_); clear hA; intro a hA
      refine L1 (stv hA (by decide) (run_pick (hA.ev rfl) (fun _ => hA.ev rfl) (fun h => Bool.noConfusion h)) ?_)
      clear hA; intro a hA
      refine LQ ?_
      exact ⟨true, Option.some.inj H102, hM, ((hA.nil.cons (hA.get 17 _ rfl)).cons (hA.get 1 _ rfl))⟩
    · replace H102 := ite_f hb107 H102
      have hA := hA.re (t := 10) rfl (congrArg Value.bool hb107)
      refine L1 (gate_on rfl rfl hA (by decide) rfl (stv hA (by decide) (run_field' Try.underlying41 rfl rfl Try.sizeOf33 (by decide) (hA.ev rfl)) ?_))
      clear hA; intro a hA
      refine L1 (gate_on rfl rfl hA (by decide) rfl (stv hA (by decide) (run_ld (hA.ev rfl) (run_loadP Try.isAgg33 Try.sizeOf33 (At.seg (segs := [pHash.enc b_0.Salt, [(.slice A0_1 b_0.Heard.length c0_1)], [(.slice A0_2 b_0.Tried.length c0_2)]]) (hM.box .z) 0 rfl (by simp [Pl.len]; try rfl)))) ?_))
      clear hA; intro a hA
      refine L1 (gate_on rfl rfl hA (by decide) rfl (stv hA (by decide) (run_field' Try.underlying41 rfl rfl Try.sizeOf39 (by decide) (hA.ev rfl)) ?_))
      clear hA; intro a hA
      refine L1 (gate_on rfl rfl hA (by decide) rfl (stv hA (by decide) (run_ld (hA.ev rfl) (run_loadS Try.isAgg39 (At.seg (segs := [pHash.enc b_0.Salt, [(.slice A0_1 b_0.Heard.length c0_1)], [(.slice A0_2 b_0.Tried.length c0_2)]]) (hM.box .z) 2 rfl (by simp [Pl.len]; try rfl)))) ?_))
      clear hA; intro a hA
      obtain ⟨r108, H109, H102⟩ := Option.bind_eq_some_iff.1 H102
      refine L1 (gate_on rfl rfl hA (by decide) rfl (st_call Try.call91 hA [(.agg (pHash.enc b_0.Salt).toArray), (.slice A0_2 b_0.Tried.length c0_2), (.bool false)] rfl (by decide) (ref38_table.calls _ _ _ _ _ _ _ _ ((RoV.mk (hM.roC (Ms := []) hr0_2) (Eq.refl b_0.Tried.length) hc0_2)) (hM.front (Ms := [])) H109) ?_))
      clear hA; rintro _ w110 ⟨rfl, hMc⟩ a hA
      have hE := hMc.below; have hM := hM.call (Ms := []) hMc
      clear hMc; simp only [List.cons_append, List.nil_append] at hM
      refine L1 (gate_on rfl rfl hA (by decide) rfl (stv hA (by decide) (run_not (hA.ev rfl)) ?_))
      clear hA; intro a hA
      refine L1 (stv hA (by decide) (run_pick (hA.ev rfl) (fun h => Bool.noConfusion h) (fun _ => hA.ev rfl)) ?_)
      clear hA; intro a hA
      refine LQ ?_
      exact ⟨(!r108), Option.some.inj H102, hM, ((hA.nil.cons (hA.get 17 _ rfl)).cons (hA.get 1 _ rfl))⟩
  clear hM hA
  rintro a w111 ⟨t101, rfl, hM, hA⟩
  try dsimp only at H
  refine TN ?_
  refine tcond (b := t101) hA rfl (fun hb112 => ?_) (fun hb112 => ?_)
  · replace H := ite_t hb112 H
    refine wp_seq ?_
    refine wp_region_lit ?_
    refine L1 (stv hA (by decide) (run_assign (hA.ev rfl)) ?_)
    clear hA; intro a hA
    refine LQ ?_
    refine TN ?_
    refine wp_ret ?_
    obtain rfl := Option.some.inj H
    refine TR ?_
    exact ret_post1 (fn := Try.f71) hA rfl rfl ⟨_, rfl, rfl, (hM.sel [] rfl (by decide))⟩
  · replace H := ite_f hb112 H
    refine wp_skip ?_
    refine TN ?_
    refine wp_seq ?_
    refine wp_seq ?_
    refine wp_region_lit ?_
    refine L1 (stv hA (by decide) (run_assign (hA.ev rfl)) ?_)
    clear hA; intro a hA
    refine LQ ?_
    refine TN ?_
    obtain ⟨o161, H160, H⟩ := Option.bind_eq_some_iff.1 H
    refine cutC (fun a w => (.go ()) = o161 ∧ Mem F w0 w [] ∧ Has 35 [] a) ?_ ?_
    · refine wp_block ?_
      refine wp_loop_ghost (fun m a w => ∃ (i159 : Int), ref38_Sound.l0 b_0 m i159 = some o161 ∧ Mem F w0 w [.box g89 41 (List.flatten [pHash.enc b_0.Salt, [(.slice A0_1 b_0.Heard.length c0_1)], [(.slice A0_2 b_0.Tried.length c0_2)]])] ∧ Has 35 [(1, (.pointer (some (⟨g89, 0, none⟩)))), (3, (.int .i64 i159))] a) k ⟨0, H160, hM, ((hA.nil.cons (hA.get 3 _ rfl)).cons (hA.get 1 _ rfl))⟩ ?_
      clear hM hA; rintro m162 a w163 ⟨i159, H160, hM, hA⟩
      cases m162 with
      | zero => exact absurd H160 (by simp [ref38_Sound.l0])
      | succ m162 =>
      rw [ref38_Sound.l0] at H160
      refine wp_seq ?_
      refine wp_seq ?_
      refine wp_region_lit ?_
      refine L1 (stv hA (by decide) (run_move (hA.ev rfl)) ?_)
      clear hA; intro a hA
      refine L1 (stv hA (by decide) (run_field' Try.underlying41 rfl rfl Try.sizeOf39 (by decide) (hA.ev rfl)) ?_)
      clear hA; intro a hA
      refine L1 (stv hA (by decide) (run_ld (hA.ev rfl) (run_loadS Try.isAgg39 (At.seg (segs := [pHash.enc b_0.Salt, [(.slice A0_1 b_0.Heard.length c0_1)], [(.slice A0_2 b_0.Tried.length c0_2)]]) (hM.box .z) 1 rfl (by simp [Pl.len]; try rfl)))) ?_)
      clear hA; intro a hA
      refine L1 (stv hA (by decide) (run_len_slice Try.underlying39 (hA.ev rfl)) ?_)
      clear hA; intro a hA
      refine L1 (stv hA (by decide) (run_bin (hA.ev rfl) (hA.ev rfl) (bin_lss _ _ _ _)) ?_)
      clear hA; intro a hA
      refine LQ ?_
      refine TN ?_
      refine tcond (b := (decide (i159 < ((b_0.Heard.length : Nat) : Int)))) hA rfl (fun hb164 => ?_) (fun hb164 => ?_)
      · replace H160 := ite_t hb164 H160
        refine wp_skip ?_
        refine TN ?_
        refine wp_seq ?_
        refine wp_block ?_
        refine wp_seq ?_
        refine draw (fun w' => Below w163.heap.size w163 w') [] rfl ?_
        intro w165 hw hS; replace hM := hM.ext hS; clear hw
        refine d_takef (i := 0) (L' := #[tT,fF,fF,fF,fF,fF,fF,fF,fF,fF]) rfl (by kernel_rfl) rfl (fun _ _ _ h => h) hA (by decide) (fun _ => hS) (fun a w' hA => run_field' Try.underlying41 rfl rfl Try.sizeOf39 (by decide) (hA.ev rfl)) ?_; clear hA; intro a hA
        refine rebase hS ?_; clear hS; intro hS
        refine d_take (i := 1) (L' := #[tT,tT,fF,fF,fF,fF,fF,fF,fF,fF]) rfl (by kernel_rfl) rfl (fun _ _ _ h => h) hA (by decide) rfl hS (fun a w' hA hS' => run_ld (hA.ev rfl) (run_loadS Try.isAgg39 ((At.seg (segs := [pHash.enc b_0.Salt, [(.slice A0_1 b_0.Heard.length c0_1)], [(.slice A0_2 b_0.Tried.length c0_2)]]) (hM.box .z) 2 rfl (by simp [Pl.len]; try rfl)).extB hS'))) ?_; clear hA; intro a hA
        refine d_takef (i := 2) (L' := #[tT,tT,tT,fF,fF,fF,fF,fF,fF,fF]) rfl (by kernel_rfl) rfl (fun _ _ _ h => h) hA (by decide) (fun _ => hS) (fun a w' hA => run_field' Try.underlying41 rfl rfl Try.sizeOf39 (by decide) (hA.ev rfl)) ?_; clear hA; intro a hA
        refine d_take (i := 3) (L' := #[tT,tT,tT,tT,fF,fF,fF,fF,fF,fF]) rfl (by kernel_rfl) rfl (fun _ _ _ h => h) hA (by decide) rfl hS (fun a w' hA hS' => run_ld (hA.ev rfl) (run_loadS Try.isAgg39 ((At.seg (segs := [pHash.enc b_0.Salt, [(.slice A0_1 b_0.Heard.length c0_1)], [(.slice A0_2 b_0.Tried.length c0_2)]]) (hM.box .z) 1 rfl (by simp [Pl.len]; try rfl)).extB hS'))) ?_; clear hA; intro a hA
        refine d_takef (i := 4) (L' := #[tT,tT,tT,tT,tT,fF,fF,fF,fF,fF]) rfl (by kernel_rfl) rfl (fun _ _ _ h => h) hA (by decide) (fun _ => hS) (fun a w' hA => run_move (hA.ev rfl)) ?_; clear hA; intro a hA
        obtain ⟨⟨hi167, hj168⟩, H160⟩ := ite_some H160
        obtain ⟨ad169, hq170, hat171⟩ := Row.elem' (p := pPlace) (hM.ro hr0_1) (Eq.refl b_0.Heard.length) Place.z i159 hi167 hj168
        refine d_takef (i := 5) (L' := #[tT,tT,tT,tT,tT,tT,fF,fF,fF,fF]) rfl (by kernel_rfl) rfl (fun _ _ _ h => h) hA (by decide) (fun _ => hS) (fun a w' hA => run_idx Try.underlying39 Try.sizeOf70 (hA.ev rfl) hq170 (hA.ev rfl) hi167 hj168) ?_; clear hA; intro a hA
        refine d_takef (i := 6) (L' := #[tT,tT,tT,tT,tT,tT,tT,fF,fF,fF]) rfl (by kernel_rfl) rfl (fun _ _ _ h => h) hA (by decide) (fun _ => hS) (fun a w' hA => run_field' Try.underlying70 rfl rfl Try.sizeOf46 (by decide) (hA.ev rfl)) ?_; clear hA; intro a hA
        refine d_take (i := 7) (L' := #[tT,tT,tT,tT,tT,tT,tT,tT,fF,fF]) rfl (by kernel_rfl) rfl (fun _ _ _ h => h) hA (by decide) rfl hS (fun a w' hA hS' => run_ld (hA.ev rfl) (run_loadP Try.isAgg46 Try.sizeOf46 ((Place.at_Addr_ (hat171)).extB hS'))) ?_; clear hA; intro a hA
        obtain ⟨r172, H173, H160⟩ := Option.bind_eq_some_iff.1 H160
        refine d_one (i := 8) (L' := #[tT,tT,tT,tT,tT,tT,tT,tT,tT,fF]) (by kernel_rfl) rfl rfl (st_call Try.call72 hA [(.slice A0_2 b_0.Tried.length c0_2), (.agg (pNAddr.enc ((b_0.Heard.getD i159.toNat Place.z).Addr_)).toArray)] rfl (by decide) (ref38_find.calls _ _ _ _ _ _ _ ((RoV.mk (hM.roC (Ms := []) hr0_2) (Eq.refl b_0.Tried.length) hc0_2)) (hM.front (Ms := [])) H173) ?_)
        clear hA; rintro _ w174 ⟨rfl, hMc⟩ a hA
        have hE := hMc.below; have hM := hM.call (Ms := []) hMc
        clear hMc; simp only [List.cons_append, List.nil_append] at hM
        replace hS := hS.trans (hE.mono hS.size)
        refine ⟨fun _ => hS, ?_⟩
        refine d_takef (i := 9) (L' := #[tT,tT,tT,tT,tT,tT,tT,tT,tT,tT]) rfl (by kernel_rfl) rfl (fun _ _ _ h => h) hA (by decide) (fun _ => hS) (fun a w' hA => run_bin (hA.ev rfl) (hA.ev rfl) (bin_geq _ _ _ _)) ?_; clear hA; intro a hA
        refine d_done (by kernel_rfl) ?_
        refine TN ?_
        refine tcond (b := (decide (r172 ≥ 0))) hA rfl (fun hb175 => ?_) (fun hb175 => ?_)
        · replace H160 := ite_t hb175 H160
          refine wp_seq ?_
          refine wp_region_lit ?_
          refine L1 (stv hA (by decide) (run_assign (hA.ev rfl)) ?_)
          clear hA; intro a hA
          refine LQ ?_
          refine TN ?_
          refine wp_ret ?_
          obtain rfl := Option.some.inj H160
          dsimp only at H
          obtain rfl := Option.some.inj H
          refine BR ?_
          refine TR ?_
          refine TR ?_
          refine BR ?_
          refine TR ?_
          refine TR ?_
          exact ret_post1 (fn := Try.f71) hA rfl rfl ⟨_, rfl, rfl, (hM.sel [] rfl (by decide))⟩
        · replace H160 := ite_f hb175 H160
          refine wp_skip ?_
          refine BN ?_
          refine TN ?_
          refine wp_region_lit ?_
          refine L1 (stv hA (by decide) (run_move (hA.ev rfl)) ?_)
          clear hA; intro a hA
          refine L1 (stv hA (by decide) (run_bin (hA.ev rfl) (hA.ev rfl) (bin_add _ _ _ _)) ?_)
          clear hA; intro a hA
          refine L1 (stv hA (by decide) (run_assign (hA.ev rfl)) ?_)
          clear hA; intro a hA
          refine LQ ?_
          exact ⟨_, Nat.lt_succ_self m162, IntKind.i64.wrap (i159 + 1), H160, hM, ((hA.nil.cons (hA.get 3 _ rfl)).cons (hA.get 1 _ rfl))⟩
      · replace H160 := ite_f hb164 H160
        refine wp_exit ?_
        refine TX ?_
        refine TX ?_
        refine BX ?_
        exact ⟨Option.some.inj H160, (hM.sel [] rfl (by decide)), hA.nil⟩
    clear hM hA
    rintro a w176 ⟨rfl, hM, hA⟩
    try dsimp only at H
    refine TN ?_
    refine wp_seq ?_
    refine wp_region_lit ?_
    refine L1 (stv hA (by decide) (run_assign (hA.ev rfl)) ?_)
    clear hA; intro a hA
    refine LQ ?_
    refine TN ?_
    refine wp_ret ?_
    obtain rfl := Option.some.inj H
    exact ret_post1 (fn := Try.f71) hA rfl rfl ⟨_, rfl, rfl, hM⟩

def ref38_Copied.f (k : Nat) (b_0 : Book) : Option Book := (Option.bind (α := (List Place) × (List Place)) (if (0 + b_0.Heard.length) * 24 ≤ 140737488355328 then (if (0 + b_0.Tried.length) * 24 ≤ 140737488355328 then (some ((([] : List Place) ++ b_0.Heard), (([] : List Place) ++ b_0.Tried))) else none) else none) (fun st => match st with | (xs260, xs265) => (some (Book.mk b_0.Salt xs260 xs265))))
set_option maxHeartbeats 2000000 in
set_option maxRecDepth 100000 in
theorem ref38_Copied.calls (k : Nat) (b_0 : Book) (F : List (Option Nat)) (v0_1 : Value) (v0_2 : Value) (r : Book) (w0 : World) (h0_1 : RoV F pPlace w0 v0_1 b_0.Heard) (h0_2 : RoV F pPlace w0 v0_2 b_0.Tried) (hM : Mem F w0 w0 []) (H : ref38_Copied.f k b_0 = some r) :
    Calls Try.prog 73 #[(.agg (List.flatten [pHash.enc b_0.Salt, [v0_1], [v0_2]]).toArray)] w0 fun e w' => ∃ v, e = .returned v ∧ ∃ (ur_0_1 : Value) (ur_0_2 : Value), v = (.agg (List.flatten [pHash.enc r.Salt, [ur_0_1], [ur_0_2]]).toArray) ∧ Mem F w0 w' [.row 70 pPlace.sz ur_0_1 (pPlace.flat r.Heard), .row 70 pPlace.sz ur_0_2 (pPlace.flat r.Tried)] := by
  unfold ref38_Copied.f at H
  obtain ⟨A0_1, c0_1, rfl, hr0_1, hc0_1⟩ := h0_1
  obtain ⟨A0_2, c0_2, rfl, hr0_2, hc0_2⟩ := h0_2
  refine enterL (n := 14) [(.agg (List.flatten [pHash.enc b_0.Salt, [(.slice A0_1 b_0.Heard.length c0_1)], [(.slice A0_2 b_0.Tried.length c0_2)]]).toArray)] Try.func73 rfl rfl rfl ?_
  intro a hA
  refine wp_seq ?_
  refine wp_region_lit ?_
  refine L1 (e_box (cs := (List.flatten [pHash.enc b_0.Salt, [(.slice A0_1 b_0.Heard.length c0_1)], [(.slice A0_2 b_0.Tried.length c0_2)]])) hM hA rfl rfl (by decide) ?_)
  clear hM hA; intro w174 g173 hM hE  a hA
  refine L1 (e_alloc (cs := (List.flatten [pHash.enc (Vector.replicate 32 0 : Vector Int 32), [(.slice none 0 0)], [(.slice none 0 0)]])) hM zero41 rfl hA (by decide) ?_)
  clear hM hA; intro w177 g176 hM hE  a hA
  refine LQ ?_
  refine TN ?_
  refine wp_seq ?_
  obtain ⟨o267, H266, H⟩ := Option.bind_eq_some_iff.1 H
  refine cutC (fun a w => ∃ (xs260 : (List Place)) (xs265 : (List Place)) (v257 : Value) (v262 : Value), (xs260, xs265) = o267 ∧ Mem F w0 w [.box g176 41 (List.flatten [pHash.enc b_0.Salt, [v257], [v262]]), .row 70 pPlace.sz v257 (pPlace.flat xs260), .row 70 pPlace.sz v262 (pPlace.flat xs265)] ∧ Has 14 [(2, (.pointer (some (⟨g176, 0, none⟩))))] a) ?_ ?_
  · obtain ⟨hl275, H266⟩ := ite_some H266
    obtain ⟨hl285, H266⟩ := ite_some H266
    refine draw (fun w' => Below w177.heap.size w177 w') [11] rfl ?_
    intro w290 hw hS; replace hM := hM.ext hS; clear hw
    refine d_takef (i := 0) (L' := #[tT,fF,fF,fF,fF,fF,fF,fF,fF,fF,fF,fF]) rfl (by kernel_rfl) rfl (fun _ _ _ h => h) hA (by decide) (fun _ => hS) (fun a w' hA => run_field' Try.underlying41 rfl rfl Try.sizeOf33 (by decide) (hA.ev rfl)) ?_; clear hA; intro a hA
    refine rebase hS ?_; clear hS; intro hS
    refine d_take (i := 1) (L' := #[tT,tT,fF,fF,fF,fF,fF,fF,fF,fF,fF,fF]) rfl (by kernel_rfl) rfl (fun _ _ _ h => h) hA (by decide) rfl hS (fun a w' hA hS' => run_ld (hA.ev rfl) (run_loadP Try.isAgg33 Try.sizeOf33 ((At.seg (segs := [pHash.enc b_0.Salt, [(.slice A0_1 b_0.Heard.length c0_1)], [(.slice A0_2 b_0.Tried.length c0_2)]]) (hM.box (.s .z)) 0 rfl (by simp [Pl.len]; try rfl)).extB hS'))) ?_; clear hA; intro a hA
    refine d_takef (i := 3) (L' := #[tT,tT,fF,tT,fF,fF,fF,fF,fF,fF,fF,fF]) rfl (by kernel_rfl) rfl (fun _ _ _ h => h) hA (by decide) (fun _ => hS) (fun a w' hA => run_field' Try.underlying41 rfl rfl Try.sizeOf39 (by decide) (hA.ev rfl)) ?_; clear hA; intro a hA
    refine d_take (i := 4) (L' := #[tT,tT,fF,tT,tT,fF,fF,fF,fF,fF,fF,fF]) rfl (by kernel_rfl) rfl (fun _ _ _ h => h) hA (by decide) rfl hS (fun a w' hA hS' => run_ld (hA.ev rfl) (run_loadS Try.isAgg39 ((At.seg (segs := [pHash.enc b_0.Salt, [(.slice A0_1 b_0.Heard.length c0_1)], [(.slice A0_2 b_0.Tried.length c0_2)]]) (hM.box (.s .z)) 1 rfl (by simp [Pl.len]; try rfl)).extB hS'))) ?_; clear hA; intro a hA
    refine d_takef (i := 7) (L' := #[tT,tT,fF,tT,tT,fF,fF,tT,fF,fF,fF,fF]) rfl (by kernel_rfl) rfl (fun _ _ _ h => h) hA (by decide) (fun _ => hS) (fun a w' hA => run_field' Try.underlying41 rfl rfl Try.sizeOf39 (by decide) (hA.ev rfl)) ?_; clear hA; intro a hA
    refine d_take (i := 8) (L' := #[tT,tT,fF,tT,tT,fF,fF,tT,tT,fF,fF,fF]) rfl (by kernel_rfl) rfl (fun _ _ _ h => h) hA (by decide) rfl hS (fun a w' hA hS' => run_ld (hA.ev rfl) (run_loadS Try.isAgg39 ((At.seg (segs := [pHash.enc b_0.Salt, [(.slice A0_1 b_0.Heard.length c0_1)], [(.slice A0_2 b_0.Tried.length c0_2)]]) (hM.box (.s .z)) 2 rfl (by simp [Pl.len]; try rfl)).extB hS'))) ?_; clear hA; intro a hA
    refine d_many (is := [2, 6]) (by kernel_rfl) (by decide) ⟨?_, ?_, trivial⟩
    · refine d_op (i := 2) (L' := #[tT,tT,tT,tT,tT,fF,fF,tT,tT,fF,fF,fF]) rfl rfl (e_lit0L elt39 hM hA (by decide) ?_)
      clear hM hA; intro w292 g291 hM hE hlo293 a hA
      have hlw294 : ∀ k, Value.ownBlock (.slice (some ⟨g291, 0, none⟩) 0 0) = some k → w290.heap.size ≤ k := fun k hk => by cases hk; exact Nat.le_trans hS.size hlo293
      replace hS := hS.trans (hE.mono hS.size)
      refine ⟨fun _ => hS, ?_⟩
      refine d_many (is := [5, 6]) (by kernel_rfl) (by decide) ⟨?_, ?_, trivial⟩
      · refine d_op (i := 5) (L' := #[tT,tT,tT,tT,tT,tT,fF,tT,tT,fF,fF,fF]) rfl rfl (e_appendL elt39 hM (fun _ => .z) (Src.row Try.underlying39 (hM.ro hr0_1) (Eq.refl b_0.Heard.length)) hl275 hA rfl rfl (by decide) ?_)
        clear hM hA; intro w297 A295 c296 hM hE hlo298 a hA
        have hlw299 : ∀ k, Value.ownBlock (.slice A295 (0 + b_0.Heard.length) c296) = some k → w290.heap.size ≤ k := hlo298 _ hS.size hlw294
        replace hS := hS.grown hE hS.size hlw294
        refine ⟨fun _ => hS, ?_⟩
        refine d_one (i := 6) (L' := #[tT,tT,tT,tT,tT,tT,tT,tT,tT,fF,fF,fF]) (by kernel_rfl) rfl rfl (e_lit0L elt39 hM hA (by decide) ?_)
        clear hM hA; intro w301 g300 hM hE hlo302 a hA
        have hlw303 : ∀ k, Value.ownBlock (.slice (some ⟨g300, 0, none⟩) 0 0) = some k → w290.heap.size ≤ k := fun k hk => by cases hk; exact Nat.le_trans hS.size hlo302
        replace hS := hS.trans (hE.mono hS.size)
        refine ⟨fun _ => hS, ?_⟩
        refine d_one (i := 9) (L' := #[tT,tT,tT,tT,tT,tT,tT,tT,tT,tT,fF,fF]) (by kernel_rfl) rfl rfl (e_appendL elt39 hM (fun _ => .z) (Src.row Try.underlying39 (hM.ro hr0_2) (Eq.refl b_0.Tried.length)) hl285 hA rfl rfl (by decide) ?_)
        clear hM hA; intro w306 A304 c305 hM hE hlo307 a hA
        have hlw308 : ∀ k, Value.ownBlock (.slice A304 (0 + b_0.Tried.length) c305) = some k → w290.heap.size ≤ k := hlo307 _ hS.size hlw303
        replace hS := hS.grown hE hS.size hlw303
        refine ⟨fun _ => hS, ?_⟩
        refine d_takef (i := 10) (L' := #[tT,tT,tT,tT,tT,tT,tT,tT,tT,tT,tT,fF]) rfl (by kernel_rfl) rfl (fun _ _ _ h => h) hA (by decide) (fun _ => hS) (fun a w' hA => run_build (cells := (List.flatten [pHash.enc b_0.Salt, [(.slice A295 (0 + b_0.Heard.length) c296)], [(.slice A304 (0 + b_0.Tried.length) c305)]]).toArray) [(0, (.agg (pHash.enc b_0.Salt).toArray)), (1, (.slice A295 (0 + b_0.Heard.length) c296)), (2, (.slice A304 (0 + b_0.Tried.length) c305))] zero41 Try.underlying41 (ss := [32, 1, 1]) ⟨Try.sizeOf33, Try.sizeOf39, Try.sizeOf39, trivial⟩ hA rfl (fill_seg (segs := [pHash.enc (Vector.replicate 32 0 : Vector Int 32), [(.slice none 0 0)], [(.slice none 0 0)]]) 0 rfl (by first | rfl | (simp [Value.cells, Pl.len]; done) | (simp [Value.cells, Pl.len]; rfl)) rfl (by simp [Pl.len]; try rfl) (by first | rfl | (simp [Value.cells, Pl.len]; done) | (simp [Value.cells, Pl.len]; rfl)) (fill_seg (segs := [pHash.enc b_0.Salt, [(.slice none 0 0)], [(.slice none 0 0)]]) 1 rfl (by first | rfl | (simp [Value.cells, Pl.len]; done) | (simp [Value.cells, Pl.len]; rfl)) rfl (by simp [Pl.len]; try rfl) (by first | rfl | (simp [Value.cells, Pl.len]; done) | (simp [Value.cells, Pl.len]; rfl)) (fill_seg (segs := [pHash.enc b_0.Salt, [(.slice A295 (0 + b_0.Heard.length) c296)], [(.slice none 0 0)]]) 2 rfl (by first | rfl | (simp [Value.cells, Pl.len]; done) | (simp [Value.cells, Pl.len]; rfl)) rfl (by simp [Pl.len]; try rfl) (by first | rfl | (simp [Value.cells, Pl.len]; done) | (simp [Value.cells, Pl.len]; rfl)) (fill_nilS))))) ?_; clear hA; intro a hA
        refine d_one (i := 11) (L' := #[tT,tT,tT,tT,tT,tT,tT,tT,tT,tT,tT,tT]) (by kernel_rfl) rfl rfl (e_store (g := g176) (off := 0) (cur := (List.flatten [pHash.enc (Vector.replicate 32 0 : Vector Int 32), [(.slice none 0 0)], [(.slice none 0 0)]])) (cs' := (List.flatten [pHash.enc b_0.Salt, [(.slice A295 (0 + b_0.Heard.length) c296)], [(.slice A304 (0 + b_0.Tried.length) c305)]])) hM (.s (.s .z)) Try.sizeOf41 hA rfl (by simp [add_mk]) rfl (by first | rfl | (simp [Value.cells, Pl.len]; done) | (simp [Value.cells, Pl.len]; rfl)) (one_flat (one_cons (Pl.one _ _) (one_cons (by simp [Value.oneCell']) (one_cons (by simp [Value.oneCell']) one_nil)))) (by first | exact Nat.le_of_ble_eq_true rfl | (simp [Pl.len]; done) | (simp [Pl.len]; decide)) (spl_all (by first | rfl | (simp [Value.cells, Pl.len]; done) | (simp [Value.cells, Pl.len]; rfl))) ?_)
        clear hM hA; intro w309  hM hE  a hA
        refine ⟨fun h => absurd h (by decide), ?_⟩
        refine d_done (by kernel_rfl) ?_
        exact ⟨(([] : List Place) ++ b_0.Heard), (([] : List Place) ++ b_0.Tried), (.slice A295 (0 + b_0.Heard.length) c296), (.slice A304 (0 + b_0.Tried.length) c305), Option.some.inj H266, (hM.sel [2, 1, 0] rfl (by decide)), (hA.nil.cons (hA.get 2 _ rfl))⟩
      · refine d_op (i := 6) (L' := #[tT,tT,tT,tT,tT,fF,tT,tT,tT,fF,fF,fF]) rfl rfl (e_lit0L elt39 hM hA (by decide) ?_)
        clear hM hA; intro w311 g310 hM hE hlo312 a hA
        have hlw313 : ∀ k, Value.ownBlock (.slice (some ⟨g310, 0, none⟩) 0 0) = some k → w290.heap.size ≤ k := fun k hk => by cases hk; exact Nat.le_trans hS.size hlo312
        replace hS := hS.trans (hE.mono hS.size)
        refine ⟨fun _ => hS, ?_⟩
        refine d_one (i := 5) (L' := #[tT,tT,tT,tT,tT,tT,tT,tT,tT,fF,fF,fF]) (by kernel_rfl) rfl rfl (e_appendL elt39 hM (fun _ => (.s .z)) (Src.row Try.underlying39 (hM.ro hr0_1) (Eq.refl b_0.Heard.length)) hl275 hA rfl rfl (by decide) ?_)
        clear hM hA; intro w316 A314 c315 hM hE hlo317 a hA
        have hlw318 : ∀ k, Value.ownBlock (.slice A314 (0 + b_0.Heard.length) c315) = some k → w290.heap.size ≤ k := hlo317 _ hS.size hlw294
        replace hS := hS.grown hE hS.size hlw294
        refine ⟨fun _ => hS, ?_⟩
        refine d_one (i := 9) (L' := #[tT,tT,tT,tT,tT,tT,tT,tT,tT,tT,fF,fF]) (by kernel_rfl) rfl rfl (e_appendL elt39 hM (fun _ => .z) (Src.row Try.underlying39 (hM.ro hr0_2) (Eq.refl b_0.Tried.length)) hl285 hA rfl rfl (by decide) ?_)
        clear hM hA; intro w321 A319 c320 hM hE hlo322 a hA
        have hlw323 : ∀ k, Value.ownBlock (.slice A319 (0 + b_0.Tried.length) c320) = some k → w290.heap.size ≤ k := hlo322 _ hS.size hlw313
        replace hS := hS.grown hE hS.size hlw313
        refine ⟨fun _ => hS, ?_⟩
        refine d_takef (i := 10) (L' := #[tT,tT,tT,tT,tT,tT,tT,tT,tT,tT,tT,fF]) rfl (by kernel_rfl) rfl (fun _ _ _ h => h) hA (by decide) (fun _ => hS) (fun a w' hA => run_build (cells := (List.flatten [pHash.enc b_0.Salt, [(.slice A314 (0 + b_0.Heard.length) c315)], [(.slice A319 (0 + b_0.Tried.length) c320)]]).toArray) [(0, (.agg (pHash.enc b_0.Salt).toArray)), (1, (.slice A314 (0 + b_0.Heard.length) c315)), (2, (.slice A319 (0 + b_0.Tried.length) c320))] zero41 Try.underlying41 (ss := [32, 1, 1]) ⟨Try.sizeOf33, Try.sizeOf39, Try.sizeOf39, trivial⟩ hA rfl (fill_seg (segs := [pHash.enc (Vector.replicate 32 0 : Vector Int 32), [(.slice none 0 0)], [(.slice none 0 0)]]) 0 rfl (by first | rfl | (simp [Value.cells, Pl.len]; done) | (simp [Value.cells, Pl.len]; rfl)) rfl (by simp [Pl.len]; try rfl) (by first | rfl | (simp [Value.cells, Pl.len]; done) | (simp [Value.cells, Pl.len]; rfl)) (fill_seg (segs := [pHash.enc b_0.Salt, [(.slice none 0 0)], [(.slice none 0 0)]]) 1 rfl (by first | rfl | (simp [Value.cells, Pl.len]; done) | (simp [Value.cells, Pl.len]; rfl)) rfl (by simp [Pl.len]; try rfl) (by first | rfl | (simp [Value.cells, Pl.len]; done) | (simp [Value.cells, Pl.len]; rfl)) (fill_seg (segs := [pHash.enc b_0.Salt, [(.slice A314 (0 + b_0.Heard.length) c315)], [(.slice none 0 0)]]) 2 rfl (by first | rfl | (simp [Value.cells, Pl.len]; done) | (simp [Value.cells, Pl.len]; rfl)) rfl (by simp [Pl.len]; try rfl) (by first | rfl | (simp [Value.cells, Pl.len]; done) | (simp [Value.cells, Pl.len]; rfl)) (fill_nilS))))) ?_; clear hA; intro a hA
        refine d_one (i := 11) (L' := #[tT,tT,tT,tT,tT,tT,tT,tT,tT,tT,tT,tT]) (by kernel_rfl) rfl rfl (e_store (g := g176) (off := 0) (cur := (List.flatten [pHash.enc (Vector.replicate 32 0 : Vector Int 32), [(.slice none 0 0)], [(.slice none 0 0)]])) (cs' := (List.flatten [pHash.enc b_0.Salt, [(.slice A314 (0 + b_0.Heard.length) c315)], [(.slice A319 (0 + b_0.Tried.length) c320)]])) hM (.s (.s .z)) Try.sizeOf41 hA rfl (by simp [add_mk]) rfl (by first | rfl | (simp [Value.cells, Pl.len]; done) | (simp [Value.cells, Pl.len]; rfl)) (one_flat (one_cons (Pl.one _ _) (one_cons (by simp [Value.oneCell']) (one_cons (by simp [Value.oneCell']) one_nil)))) (by first | exact Nat.le_of_ble_eq_true rfl | (simp [Pl.len]; done) | (simp [Pl.len]; decide)) (spl_all (by first | rfl | (simp [Value.cells, Pl.len]; done) | (simp [Value.cells, Pl.len]; rfl))) ?_)
        clear hM hA; intro w324  hM hE  a hA
        refine ⟨fun h => absurd h (by decide), ?_⟩
        refine d_done (by kernel_rfl) ?_
        exact ⟨(([] : List Place) ++ b_0.Heard), (([] : List Place) ++ b_0.Tried), (.slice A314 (0 + b_0.Heard.length) c315), (.slice A319 (0 + b_0.Tried.length) c320), Option.some.inj H266, (hM.sel [2, 1, 0] rfl (by decide)), (hA.nil.cons (hA.get 2 _ rfl))⟩
    · refine d_op (i := 6) (L' := #[tT,tT,fF,tT,tT,fF,tT,tT,tT,fF,fF,fF]) rfl rfl (e_lit0L elt39 hM hA (by decide) ?_)
      clear hM hA; intro w326 g325 hM hE hlo327 a hA
      have hlw328 : ∀ k, Value.ownBlock (.slice (some ⟨g325, 0, none⟩) 0 0) = some k → w290.heap.size ≤ k := fun k hk => by cases hk; exact Nat.le_trans hS.size hlo327
      replace hS := hS.trans (hE.mono hS.size)
      refine ⟨fun _ => hS, ?_⟩
      refine d_one (i := 2) (L' := #[tT,tT,tT,tT,tT,fF,tT,tT,tT,fF,fF,fF]) (by kernel_rfl) rfl rfl (e_lit0L elt39 hM hA (by decide) ?_)
      clear hM hA; intro w330 g329 hM hE hlo331 a hA
      have hlw332 : ∀ k, Value.ownBlock (.slice (some ⟨g329, 0, none⟩) 0 0) = some k → w290.heap.size ≤ k := fun k hk => by cases hk; exact Nat.le_trans hS.size hlo331
      replace hS := hS.trans (hE.mono hS.size)
      refine ⟨fun _ => hS, ?_⟩
      refine d_one (i := 5) (L' := #[tT,tT,tT,tT,tT,tT,tT,tT,tT,fF,fF,fF]) (by kernel_rfl) rfl rfl (e_appendL elt39 hM (fun _ => .z) (Src.row Try.underlying39 (hM.ro hr0_1) (Eq.refl b_0.Heard.length)) hl275 hA rfl rfl (by decide) ?_)
      clear hM hA; intro w335 A333 c334 hM hE hlo336 a hA
      have hlw337 : ∀ k, Value.ownBlock (.slice A333 (0 + b_0.Heard.length) c334) = some k → w290.heap.size ≤ k := hlo336 _ hS.size hlw332
      replace hS := hS.grown hE hS.size hlw332
      refine ⟨fun _ => hS, ?_⟩
      refine d_one (i := 9) (L' := #[tT,tT,tT,tT,tT,tT,tT,tT,tT,tT,fF,fF]) (by kernel_rfl) rfl rfl (e_appendL elt39 hM (fun _ => (.s .z)) (Src.row Try.underlying39 (hM.ro hr0_2) (Eq.refl b_0.Tried.length)) hl285 hA rfl rfl (by decide) ?_)
      clear hM hA; intro w340 A338 c339 hM hE hlo341 a hA
      have hlw342 : ∀ k, Value.ownBlock (.slice A338 (0 + b_0.Tried.length) c339) = some k → w290.heap.size ≤ k := hlo341 _ hS.size hlw328
      replace hS := hS.grown hE hS.size hlw328
      refine ⟨fun _ => hS, ?_⟩
      refine d_takef (i := 10) (L' := #[tT,tT,tT,tT,tT,tT,tT,tT,tT,tT,tT,fF]) rfl (by kernel_rfl) rfl (fun _ _ _ h => h) hA (by decide) (fun _ => hS) (fun a w' hA => run_build (cells := (List.flatten [pHash.enc b_0.Salt, [(.slice A333 (0 + b_0.Heard.length) c334)], [(.slice A338 (0 + b_0.Tried.length) c339)]]).toArray) [(0, (.agg (pHash.enc b_0.Salt).toArray)), (1, (.slice A333 (0 + b_0.Heard.length) c334)), (2, (.slice A338 (0 + b_0.Tried.length) c339))] zero41 Try.underlying41 (ss := [32, 1, 1]) ⟨Try.sizeOf33, Try.sizeOf39, Try.sizeOf39, trivial⟩ hA rfl (fill_seg (segs := [pHash.enc (Vector.replicate 32 0 : Vector Int 32), [(.slice none 0 0)], [(.slice none 0 0)]]) 0 rfl (by first | rfl | (simp [Value.cells, Pl.len]; done) | (simp [Value.cells, Pl.len]; rfl)) rfl (by simp [Pl.len]; try rfl) (by first | rfl | (simp [Value.cells, Pl.len]; done) | (simp [Value.cells, Pl.len]; rfl)) (fill_seg (segs := [pHash.enc b_0.Salt, [(.slice none 0 0)], [(.slice none 0 0)]]) 1 rfl (by first | rfl | (simp [Value.cells, Pl.len]; done) | (simp [Value.cells, Pl.len]; rfl)) rfl (by simp [Pl.len]; try rfl) (by first | rfl | (simp [Value.cells, Pl.len]; done) | (simp [Value.cells, Pl.len]; rfl)) (fill_seg (segs := [pHash.enc b_0.Salt, [(.slice A333 (0 + b_0.Heard.length) c334)], [(.slice none 0 0)]]) 2 rfl (by first | rfl | (simp [Value.cells, Pl.len]; done) | (simp [Value.cells, Pl.len]; rfl)) rfl (by simp [Pl.len]; try rfl) (by first | rfl | (simp [Value.cells, Pl.len]; done) | (simp [Value.cells, Pl.len]; rfl)) (fill_nilS))))) ?_; clear hA; intro a hA
      refine d_one (i := 11) (L' := #[tT,tT,tT,tT,tT,tT,tT,tT,tT,tT,tT,tT]) (by kernel_rfl) rfl rfl (e_store (g := g176) (off := 0) (cur := (List.flatten [pHash.enc (Vector.replicate 32 0 : Vector Int 32), [(.slice none 0 0)], [(.slice none 0 0)]])) (cs' := (List.flatten [pHash.enc b_0.Salt, [(.slice A333 (0 + b_0.Heard.length) c334)], [(.slice A338 (0 + b_0.Tried.length) c339)]])) hM (.s (.s .z)) Try.sizeOf41 hA rfl (by simp [add_mk]) rfl (by first | rfl | (simp [Value.cells, Pl.len]; done) | (simp [Value.cells, Pl.len]; rfl)) (one_flat (one_cons (Pl.one _ _) (one_cons (by simp [Value.oneCell']) (one_cons (by simp [Value.oneCell']) one_nil)))) (by first | exact Nat.le_of_ble_eq_true rfl | (simp [Pl.len]; done) | (simp [Pl.len]; decide)) (spl_all (by first | rfl | (simp [Value.cells, Pl.len]; done) | (simp [Value.cells, Pl.len]; rfl))) ?_)
      clear hM hA; intro w343  hM hE  a hA
      refine ⟨fun h => absurd h (by decide), ?_⟩
      refine d_done (by kernel_rfl) ?_
      exact ⟨(([] : List Place) ++ b_0.Heard), (([] : List Place) ++ b_0.Tried), (.slice A333 (0 + b_0.Heard.length) c334), (.slice A338 (0 + b_0.Tried.length) c339), Option.some.inj H266, (hM.sel [2, 0, 1] rfl (by decide)), (hA.nil.cons (hA.get 2 _ rfl))⟩
  clear hM hA
  rintro a w344 ⟨xs260, xs265, v257, v262, rfl, hM, hA⟩
  try dsimp only at H
  obtain ⟨A258, c259, rfl⟩ := RowOk.form (hM.row (p := pPlace) (.s .z))
  obtain ⟨A263, c264, rfl⟩ := RowOk.form (hM.row (p := pPlace) (.s (.s .z)))
  refine TN ?_
  refine wp_ret ?_
  obtain rfl := Option.some.inj H
  exact ret_cell (fn := Try.f73) hA rfl rfl (run_loadW Try.isAgg41 Try.sizeOf41 (by simp [Pl.len]; try rfl) (hM.box .z)) ⟨_, rfl, (.slice A258 xs260.length c259), (.slice A263 xs265.length c264), rfl, (hM.sel [1, 2] rfl (by decide))⟩

def ref38_remove.f (k : Nat) (l_0 : (List Place)) (i_1 : Int) : Option (List Place) := (if 0 ≤ i_1 ∧ i_1 ≤ ((l_0.length : Nat) : Int) then (if 0 ≤ (IntKind.i64.wrap (i_1 + 1)) ∧ (IntKind.i64.wrap (i_1 + 1)) ≤ ((l_0.length : Nat) : Int) then (if (0 + i_1.toNat) * 24 ≤ 140737488355328 then (if ((0 + i_1.toNat) + (l_0.length - (IntKind.i64.wrap (i_1 + 1)).toNat)) * 24 ≤ 140737488355328 then (some ((([] : List Place) ++ (l_0.take i_1.toNat)) ++ (l_0.drop ((IntKind.i64.wrap (i_1 + 1)).toNat)))) else none) else none) else none) else none)
set_option maxHeartbeats 2000000 in
set_option maxRecDepth 100000 in
theorem ref38_remove.calls (k : Nat) (l_0 : (List Place)) (i_1 : Int) (F : List (Option Nat)) (v0 : Value) (r : (List Place)) (w0 : World) (h0 : RoV F pPlace w0 v0 l_0) (hM : Mem F w0 w0 []) (H : ref38_remove.f k l_0 i_1 = some r) :
    Calls Try.prog 74 #[v0, (.int .i64 i_1)] w0 fun e w' => ∃ v, e = .returned v ∧ ∃ (ur_0 : Value), v = ur_0 ∧ Mem F w0 w' [.row 70 pPlace.sz ur_0 (pPlace.flat r)] := by
  unfold ref38_remove.f at H
  obtain ⟨A0, c0, rfl, hr0, hc0⟩ := h0
  refine enterL (n := 15) [(.slice A0 l_0.length c0), (.int .i64 i_1)] Try.func74 rfl rfl rfl ?_
  intro a hA
  refine wp_seq ?_
  refine wp_region_lit ?_
  refine L1 (stv hA (by decide) (run_assign (hA.ev rfl)) ?_)
  clear hA; intro a hA
  refine LQ ?_
  refine TN ?_
  refine wp_seq ?_
  refine draw (fun w' => Below w0.heap.size w0 w') [] rfl ?_
  intro w23 hw hS; replace hM := hM.ext hS; clear hw
  refine d_takef (i := 1) (L' := #[fF,tT,fF,fF,fF,fF,fF,fF,fF,fF,fF]) rfl (by kernel_rfl) rfl (fun _ _ _ h => h) hA (by decide) (fun _ => hS) (fun a w' hA => run_move (hA.ev rfl)) ?_; clear hA; intro a hA
  refine d_takef (i := 2) (L' := #[fF,tT,tT,fF,fF,fF,fF,fF,fF,fF,fF]) rfl (by kernel_rfl) rfl (fun _ _ _ h => h) hA (by decide) (fun _ => hS) (fun a w' hA => run_move (hA.ev rfl)) ?_; clear hA; intro a hA
  obtain ⟨⟨hi25, hj26⟩, H⟩ := ite_some H
  refine d_takef (i := 3) (L' := #[fF,tT,tT,tT,fF,fF,fF,fF,fF,fF,fF]) rfl (by kernel_rfl) rfl (fun _ _ _ h => h) hA (by decide) (fun _ => hS) (fun a w' hA => run_hi Try.underlying39 Try.sizeOf70 hc0 hi25 hj26 (hA.ev rfl) (hA.ev rfl)) ?_; clear hA; intro a hA
  refine d_takef (i := 5) (L' := #[fF,tT,tT,tT,fF,tT,fF,fF,fF,fF,fF]) rfl (by kernel_rfl) rfl (fun _ _ _ h => h) hA (by decide) (fun _ => hS) (fun a w' hA => run_move (hA.ev rfl)) ?_; clear hA; intro a hA
  refine d_takef (i := 6) (L' := #[fF,tT,tT,tT,fF,tT,tT,fF,fF,fF,fF]) rfl (by kernel_rfl) rfl (fun _ _ _ h => h) hA (by decide) (fun _ => hS) (fun a w' hA => run_move (hA.ev rfl)) ?_; clear hA; intro a hA
  refine d_takef (i := 7) (L' := #[fF,tT,tT,tT,fF,tT,tT,tT,fF,fF,fF]) rfl (by kernel_rfl) rfl (fun _ _ _ h => h) hA (by decide) (fun _ => hS) (fun a w' hA => run_bin (hA.ev rfl) (hA.ev rfl) (bin_add _ _ _ _)) ?_; clear hA; intro a hA
  obtain ⟨⟨hi27, hj28⟩, H⟩ := ite_some H
  refine d_takef (i := 8) (L' := #[fF,tT,tT,tT,fF,tT,tT,tT,tT,fF,fF]) rfl (by kernel_rfl) rfl (fun _ _ _ h => h) hA (by decide) (fun _ => hS) (fun a w' hA => run_lo Try.underlying39 Try.sizeOf70 hc0 hi27 hj28 (hA.ev rfl) (hA.ev rfl)) ?_; clear hA; intro a hA
  refine d_one (i := 0) (L' := #[tT,tT,tT,tT,fF,tT,tT,tT,tT,fF,fF]) (by kernel_rfl) rfl rfl (e_lit0L elt39 hM hA (by decide) ?_)
  clear hM hA; intro w30 g29 hM hE hlo31 a hA
  have hlw32 : ∀ k, Value.ownBlock (.slice (some ⟨g29, 0, none⟩) 0 0) = some k → w0.heap.size ≤ k := fun k hk => by cases hk; exact Nat.le_trans hS.size hlo31
  replace hS := hS.trans (hE.mono hS.size)
  refine ⟨fun _ => hS, ?_⟩
  obtain ⟨hl35, H⟩ := ite_some H
  refine d_one (i := 4) (L' := #[tT,tT,tT,tT,tT,tT,tT,tT,tT,fF,fF]) (by kernel_rfl) rfl rfl (e_appendL elt39 hM (fun _ => .z) (Src.row Try.underlying39 (Row.take (hM.ro hr0) i_1.toNat) (len_take (Eq.refl l_0.length) (by omega))) hl35 hA rfl rfl (by decide) ?_)
  clear hM hA; intro w36 A33 c34 hM hE hlo37 a hA
  have hlw38 : ∀ k, Value.ownBlock (.slice A33 (0 + i_1.toNat) c34) = some k → w0.heap.size ≤ k := hlo37 _ hS.size hlw32
  replace hS := hS.grown hE hS.size hlw32
  refine ⟨fun _ => hS, ?_⟩
  obtain ⟨hl41, H⟩ := ite_some H
  refine d_one (i := 9) (L' := #[tT,tT,tT,tT,tT,tT,tT,tT,tT,tT,fF]) (by kernel_rfl) rfl rfl (e_appendL elt39 hM (fun _ => .z) (Src.row Try.underlying39 (Row.drop' (c := c0) (hM.ro hr0) (by have hh1 := (Eq.refl l_0.length); omega) (by have hh1 := (Eq.refl l_0.length); have hh2 := hc0; omega)) (len_drop (Eq.refl l_0.length))) hl41 hA rfl rfl (by decide) ?_)
  clear hM hA; intro w42 A39 c40 hM hE hlo43 a hA
  have hlw44 : ∀ k, Value.ownBlock (.slice A39 ((0 + i_1.toNat) + (l_0.length - (IntKind.i64.wrap (i_1 + 1)).toNat)) c40) = some k → w0.heap.size ≤ k := hlo43 _ hS.size hlw38
  replace hS := hS.grown hE hS.size hlw38
  refine ⟨fun _ => hS, ?_⟩
  refine d_takef (i := 10) (L' := #[tT,tT,tT,tT,tT,tT,tT,tT,tT,tT,tT]) rfl (by kernel_rfl) rfl (fun _ _ _ h => h) hA (by decide) (fun _ => hS) (fun a w' hA => run_assign (hA.ev rfl)) ?_; clear hA; intro a hA
  refine d_done (by kernel_rfl) ?_
  refine TN ?_
  refine wp_ret ?_
  obtain rfl := Option.some.inj H
  exact ret_post1 (fn := Try.f74) hA rfl rfl ⟨_, rfl, (.slice A39 ((0 + i_1.toNat) + (l_0.length - (IntKind.i64.wrap (i_1 + 1)).toNat)) c40), rfl, hM⟩

def ref38_inside.l0 (l_0 : (List Place)) (bucket_1 : Int) : Nat → Int → Option (Int)
  | 0, _ => none
  | k + 1, t301 => (Option.bind (α := Bool) (if (decide (t301 < ((l_0.length : Nat) : Int))) = true then (if 0 ≤ t301 ∧ t301 < ((l_0.length : Nat) : Int) then (some (decide (((l_0.getD t301.toNat Place.z).Bucket) < bucket_1))) else none) else (some false)) (fun t320 => (if t320 = true then (ref38_inside.l0 l_0 bucket_1 k (IntKind.i64.wrap (t301 + 1))) else (some t301))))
def ref38_inside.l1 (l_0 : (List Place)) (bucket_1 : Int) : Nat → Int → Option (Int)
  | 0, _ => none
  | k + 1, to416 => (Option.bind (α := Bool) (if (decide (to416 < ((l_0.length : Nat) : Int))) = true then (if 0 ≤ to416 ∧ to416 < ((l_0.length : Nat) : Int) then (some (((l_0.getD to416.toNat Place.z).Bucket) == bucket_1)) else none) else (some false)) (fun t435 => (if t435 = true then (ref38_inside.l1 l_0 bucket_1 k (IntKind.i64.wrap (to416 + 1))) else (some to416))))
def ref38_inside.f (k : Nat) (l_0 : (List Place)) (bucket_1 : Int) : Option (Int × Int) := (Option.bind (α := Int) (ref38_inside.l0 l_0 bucket_1 k 0) (fun t305 => (Option.bind (α := Int) (ref38_inside.l1 l_0 bucket_1 k t305) (fun to419 => (some (t305, to419))))))
set_option maxHeartbeats 2000000 in
set_option maxRecDepth 100000 in
theorem ref38_inside.calls (k : Nat) (l_0 : (List Place)) (bucket_1 : Int) (F : List (Option Nat)) (v0 : Value) (r : (Int × Int)) (w0 : World) (h0 : RoV F pPlace w0 v0 l_0) (hM : Mem F w0 w0 []) (H : ref38_inside.f k l_0 bucket_1 = some r) :
    Calls Try.prog 76 #[v0, (.int .i64 bucket_1)] w0 fun e w' => ∃ v, e = .returned v ∧ v = (.tuple #[(.int .i64 r.1), (.int .i64 r.2)]) ∧ Mem F w0 w' [] := by
  unfold ref38_inside.f at H
  obtain ⟨A0, c0, rfl, hr0, hc0⟩ := h0
  refine enterL (n := 41) [(.slice A0 l_0.length c0), (.int .i64 bucket_1)] Try.func76 rfl rfl rfl ?_
  intro a hA
  refine wp_seq ?_
  refine wp_region_lit ?_
  refine L1 (stv hA (by decide) (run_assign (hA.ev rfl)) ?_)
  clear hA; intro a hA
  refine L1 (stv hA (by decide) (run_assign (hA.ev rfl)) ?_)
  clear hA; intro a hA
  refine LQ ?_
  refine TN ?_
  refine wp_seq ?_
  refine wp_region_lit ?_
  refine L1 (stv hA (by decide) (run_assign (hA.ev rfl)) ?_)
  clear hA; intro a hA
  refine LQ ?_
  refine TN ?_
  refine wp_seq ?_
  obtain ⟨o307, H306, H⟩ := Option.bind_eq_some_iff.1 H
  refine cutC (fun a w => ∃ (t305 : Int), t305 = o307 ∧ Mem F w0 w [] ∧ Has 41 [(0, (.slice A0 l_0.length c0)), (1, (.int .i64 bucket_1)), (6, (.int .i64 t305))] a) ?_ ?_
  · refine wp_block ?_
    refine wp_loop_ghost (fun m a w => ∃ (t301 : Int), ref38_inside.l0 l_0 bucket_1 m t301 = some o307 ∧ Mem F w0 w [] ∧ Has 41 [(0, (.slice A0 l_0.length c0)), (1, (.int .i64 bucket_1)), (6, (.int .i64 t301))] a) k ⟨0, H306, hM, (((hA.nil.cons (hA.get 6 _ rfl)).cons (hA.get 1 _ rfl)).cons (hA.get 0 _ rfl))⟩ ?_
    clear hM hA; rintro m308 a w309 ⟨t301, H306, hM, hA⟩
    cases m308 with
    | zero => exact absurd H306 (by simp [ref38_inside.l0])
    | succ m308 =>
    rw [ref38_inside.l0] at H306
    refine wp_seq ?_
    refine wp_seq ?_
    obtain ⟨o322, H321, H306⟩ := Option.bind_eq_some_iff.1 H306
    refine cutC (fun a w => ∃ (t320 : Bool), t320 = o322 ∧ Mem F w0 w [] ∧ Has 41 [(0, (.slice A0 l_0.length c0)), (1, (.int .i64 bucket_1)), (6, (.int .i64 t301)), (20, (.bool t320))] a) ?_ ?_
    · refine wp_region_lit ?_
      refine L1 (stv hA (by decide) (run_move (hA.ev rfl)) ?_)
      clear hA; intro a hA
      refine L1 (stv hA (by decide) (run_move (hA.ev rfl)) ?_)
      clear hA; intro a hA
      refine L1 (stv hA (by decide) (run_len_slice Try.underlying39 (hA.ev rfl)) ?_)
      clear hA; intro a hA
      refine L1 (stv hA (by decide) (run_bin (hA.ev rfl) (hA.ev rfl) (bin_lss _ _ _ _)) ?_)
      clear hA; intro a hA
      refine L1 (stv hA (by decide) (run_move (hA.ev rfl)) ?_)
      clear hA; intro a hA
      refine bsplit (b := (decide (t301 < ((l_0.length : Nat) : Int)))) (fun hb323 => ?_) (fun hb323 => ?_)
      · replace H321 := ite_t hb323 H321
        have hA := hA.re (t := 12) rfl (congrArg Value.bool hb323)
        refine L1 (gate_on rfl rfl hA (by decide) rfl (stv hA (by decide) (run_move (hA.ev rfl)) ?_))
        clear hA; intro a hA
        refine L1 (gate_on rfl rfl hA (by decide) rfl (stv hA (by decide) (run_move (hA.ev rfl)) ?_))
        clear hA; intro a hA
        obtain ⟨⟨hi324, hj325⟩, H321⟩ := ite_some H321
        obtain ⟨ad326, hq327, hat328⟩ := Row.elem' (p := pPlace) (hM.ro hr0) (Eq.refl l_0.length) Place.z t301 hi324 hj325
        refine L1 (gate_on rfl rfl hA (by decide) rfl (stv hA (by decide) (run_idx Try.underlying39 Try.sizeOf70 (hA.ev rfl) hq327 (hA.ev rfl) hi324 hj325) ?_))
        clear hA; intro a hA
        refine L1 (gate_on rfl rfl hA (by decide) rfl (stv hA (by decide) (run_field' Try.underlying70 rfl rfl Try.sizeOf3 (by decide) (hA.ev rfl)) ?_))
        clear hA; intro a hA
        refine L1 (gate_on rfl rfl hA (by decide) rfl (stv hA (by decide) (run_ld (hA.ev rfl) (run_loadS Try.isAgg3 (Place.at_Bucket (hat328)))) ?_))
        clear hA; intro a hA
        refine L1 (gate_on rfl rfl hA (by decide) rfl (stv hA (by decide) (run_move (hA.ev rfl)) ?_))
        clear hA; intro a hA
        refine L1 (gate_on rfl rfl hA (by decide) rfl (stv hA (by decide) (run_bin (hA.ev rfl) (hA.ev rfl) (bin_lss _ _ _ _)) ?_))
        clear hA; intro a hA
        refine L1 (stv hA (by decide) (run_pick (hA.ev rfl) (fun _ => hA.ev rfl) (fun h => Bool.noConfusion h)) ?_)
        clear hA; intro a hA
        refine LQ ?_
        exact ⟨(decide (((l_0.getD t301.toNat Place.z).Bucket) < bucket_1)), Option.some.inj H321, hM, ((((hA.nil.cons (hA.get 20 _ rfl)).cons (hA.get 6 _ rfl)).cons (hA.get 1 _ rfl)).cons (hA.get 0 _ rfl))⟩
      · replace H321 := ite_f hb323 H321
        have hA := hA.re (t := 12) rfl (congrArg Value.bool hb323)
        refine L1 (gate_off rfl (by decide) rfl hA (by decide) rfl rfl ?_); clear hA; intro a hA
        refine L1 (gate_off rfl (by decide) rfl hA (by decide) rfl rfl ?_); clear hA; intro a hA
        refine L1 (gate_off rfl (by decide) rfl hA (by decide) rfl rfl ?_); clear hA; intro a hA
        refine L1 (gate_off rfl (by decide) rfl hA (by decide) rfl rfl ?_); clear hA; intro a hA
        refine L1 (gate_off rfl (by decide) rfl hA (by decide) rfl rfl ?_); clear hA; intro a hA
        refine L1 (gate_off rfl (by decide) rfl hA (by decide) rfl rfl ?_); clear hA; intro a hA
        refine L1 (gate_off rfl (by decide) rfl hA (by decide) rfl rfl ?_); clear hA; intro a hA
        refine L1 (stv hA (by decide) (run_pick (hA.ev rfl) (fun h => Bool.noConfusion h) (fun _ => hA.ev rfl)) ?_)
        clear hA; intro a hA
        refine LQ ?_
        exact ⟨false, Option.some.inj H321, hM, ((((hA.nil.cons (hA.get 20 _ rfl)).cons (hA.get 6 _ rfl)).cons (hA.get 1 _ rfl)).cons (hA.get 0 _ rfl))⟩
    clear hM hA
    rintro a w329 ⟨t320, rfl, hM, hA⟩
    try dsimp only at H306
    refine TN ?_
    refine tcond (b := t320) hA rfl (fun hb330 => ?_) (fun hb330 => ?_)
    · replace H306 := ite_t hb330 H306
      refine wp_skip ?_
      refine TN ?_
      refine wp_block ?_
      refine wp_region_lit ?_
      refine L1 (stv hA (by decide) (run_move (hA.ev rfl)) ?_)
      clear hA; intro a hA
      refine L1 (stv hA (by decide) (run_bin (hA.ev rfl) (hA.ev rfl) (bin_add _ _ _ _)) ?_)
      clear hA; intro a hA
      refine L1 (stv hA (by decide) (run_assign (hA.ev rfl)) ?_)
      clear hA; intro a hA
      refine LQ ?_
      refine BN ?_
      exact ⟨_, Nat.lt_succ_self m308, IntKind.i64.wrap (t301 + 1), H306, hM, (((hA.nil.cons (hA.get 6 _ rfl)).cons (hA.get 1 _ rfl)).cons (hA.get 0 _ rfl))⟩
    · replace H306 := ite_f hb330 H306
      refine wp_exit ?_
      refine TX ?_
      refine TX ?_
      refine BX ?_
      exact ⟨t301, Option.some.inj H306, hM, (((hA.nil.cons (hA.get 6 _ rfl)).cons (hA.get 1 _ rfl)).cons (hA.get 0 _ rfl))⟩
  clear hM hA
  rintro a w331 ⟨t305, rfl, hM, hA⟩
  try dsimp only at H
  refine TN ?_
  refine wp_seq ?_
  refine wp_region_lit ?_
  refine L1 (stv hA (by decide) (run_move (hA.ev rfl)) ?_)
  clear hA; intro a hA
  refine L1 (stv hA (by decide) (run_assign (hA.ev rfl)) ?_)
  clear hA; intro a hA
  refine LQ ?_
  refine TN ?_
  refine wp_seq ?_
  obtain ⟨o421, H420, H⟩ := Option.bind_eq_some_iff.1 H
  refine cutC (fun a w => ∃ (to419 : Int), to419 = o421 ∧ Mem F w0 w [] ∧ Has 41 [(6, (.int .i64 t305)), (7, (.int .i64 to419))] a) ?_ ?_
  · refine wp_block ?_
    refine wp_loop_ghost (fun m a w => ∃ (to416 : Int), ref38_inside.l1 l_0 bucket_1 m to416 = some o421 ∧ Mem F w0 w [] ∧ Has 41 [(0, (.slice A0 l_0.length c0)), (1, (.int .i64 bucket_1)), (6, (.int .i64 t305)), (7, (.int .i64 to416))] a) k ⟨t305, H420, hM, ((((hA.nil.cons (hA.get 7 _ rfl)).cons (hA.get 6 _ rfl)).cons (hA.get 1 _ rfl)).cons (hA.get 0 _ rfl))⟩ ?_
    clear hM hA; rintro m422 a w423 ⟨to416, H420, hM, hA⟩
    cases m422 with
    | zero => exact absurd H420 (by simp [ref38_inside.l1])
    | succ m422 =>
    rw [ref38_inside.l1] at H420
    refine wp_seq ?_
    refine wp_seq ?_
    obtain ⟨o437, H436, H420⟩ := Option.bind_eq_some_iff.1 H420
    refine cutC (fun a w => ∃ (t435 : Bool), t435 = o437 ∧ Mem F w0 w [] ∧ Has 41 [(0, (.slice A0 l_0.length c0)), (1, (.int .i64 bucket_1)), (6, (.int .i64 t305)), (7, (.int .i64 to416)), (36, (.bool t435))] a) ?_ ?_
    · refine wp_region_lit ?_
      refine L1 (stv hA (by decide) (run_move (hA.ev rfl)) ?_)
      clear hA; intro a hA
      refine L1 (stv hA (by decide) (run_move (hA.ev rfl)) ?_)
      clear hA; intro a hA
      refine L1 (stv hA (by decide) (run_len_slice Try.underlying39 (hA.ev rfl)) ?_)
      clear hA; intro a hA
      refine L1 (stv hA (by decide) (run_bin (hA.ev rfl) (hA.ev rfl) (bin_lss _ _ _ _)) ?_)
      clear hA; intro a hA
      refine L1 (stv hA (by decide) (run_move (hA.ev rfl)) ?_)
      clear hA; intro a hA
      refine bsplit (b := (decide (to416 < ((l_0.length : Nat) : Int)))) (fun hb438 => ?_) (fun hb438 => ?_)
      · replace H436 := ite_t hb438 H436
        have hA := hA.re (t := 28) rfl (congrArg Value.bool hb438)
        refine L1 (gate_on rfl rfl hA (by decide) rfl (stv hA (by decide) (run_move (hA.ev rfl)) ?_))
        clear hA; intro a hA
        refine L1 (gate_on rfl rfl hA (by decide) rfl (stv hA (by decide) (run_move (hA.ev rfl)) ?_))
        clear hA; intro a hA
        obtain ⟨⟨hi439, hj440⟩, H436⟩ := ite_some H436
        obtain ⟨ad441, hq442, hat443⟩ := Row.elem' (p := pPlace) (hM.ro hr0) (Eq.refl l_0.length) Place.z to416 hi439 hj440
        refine L1 (gate_on rfl rfl hA (by decide) rfl (stv hA (by decide) (run_idx Try.underlying39 Try.sizeOf70 (hA.ev rfl) hq442 (hA.ev rfl) hi439 hj440) ?_))
        clear hA; intro a hA
        refine L1 (gate_on rfl rfl hA (by decide) rfl (stv hA (by decide) (run_field' Try.underlying70 rfl rfl Try.sizeOf3 (by decide) (hA.ev rfl)) ?_))
        clear hA; intro a hA
        refine L1 (gate_on rfl rfl hA (by decide) rfl (stv hA (by decide) (run_ld (hA.ev rfl) (run_loadS Try.isAgg3 (Place.at_Bucket (hat443)))) ?_))
        clear hA; intro a hA
        refine L1 (gate_on rfl rfl hA (by decide) rfl (stv hA (by decide) (run_move (hA.ev rfl)) ?_))
        clear hA; intro a hA
        refine L1 (gate_on rfl rfl hA (by decide) rfl (stv hA (by decide) (run_bin (hA.ev rfl) (hA.ev rfl) (bin_eql _ _ _ _)) ?_))
        clear hA; intro a hA
        refine L1 (stv hA (by decide) (run_pick (hA.ev rfl) (fun _ => hA.ev rfl) (fun h => Bool.noConfusion h)) ?_)
        clear hA; intro a hA
        refine LQ ?_
        exact ⟨(((l_0.getD to416.toNat Place.z).Bucket) == bucket_1), Option.some.inj H436, hM, (((((hA.nil.cons (hA.get 36 _ rfl)).cons (hA.get 7 _ rfl)).cons (hA.get 6 _ rfl)).cons (hA.get 1 _ rfl)).cons (hA.get 0 _ rfl))⟩
      · replace H436 := ite_f hb438 H436
        have hA := hA.re (t := 28) rfl (congrArg Value.bool hb438)
        refine L1 (gate_off rfl (by decide) rfl hA (by decide) rfl rfl ?_); clear hA; intro a hA
        refine L1 (gate_off rfl (by decide) rfl hA (by decide) rfl rfl ?_); clear hA; intro a hA
        refine L1 (gate_off rfl (by decide) rfl hA (by decide) rfl rfl ?_); clear hA; intro a hA
        refine L1 (gate_off rfl (by decide) rfl hA (by decide) rfl rfl ?_); clear hA; intro a hA
        refine L1 (gate_off rfl (by decide) rfl hA (by decide) rfl rfl ?_); clear hA; intro a hA
        refine L1 (gate_off rfl (by decide) rfl hA (by decide) rfl rfl ?_); clear hA; intro a hA
        refine L1 (gate_off rfl (by decide) rfl hA (by decide) rfl rfl ?_); clear hA; intro a hA
        refine L1 (stv hA (by decide) (run_pick (hA.ev rfl) (fun h => Bool.noConfusion h) (fun _ => hA.ev rfl)) ?_)
        clear hA; intro a hA
        refine LQ ?_
        exact ⟨false, Option.some.inj H436, hM, (((((hA.nil.cons (hA.get 36 _ rfl)).cons (hA.get 7 _ rfl)).cons (hA.get 6 _ rfl)).cons (hA.get 1 _ rfl)).cons (hA.get 0 _ rfl))⟩
    clear hM hA
    rintro a w444 ⟨t435, rfl, hM, hA⟩
    try dsimp only at H420
    refine TN ?_
    refine tcond (b := t435) hA rfl (fun hb445 => ?_) (fun hb445 => ?_)
    · replace H420 := ite_t hb445 H420
      refine wp_skip ?_
      refine TN ?_
      refine wp_block ?_
      refine wp_region_lit ?_
      refine L1 (stv hA (by decide) (run_move (hA.ev rfl)) ?_)
      clear hA; intro a hA
      refine L1 (stv hA (by decide) (run_bin (hA.ev rfl) (hA.ev rfl) (bin_add _ _ _ _)) ?_)
      clear hA; intro a hA
      refine L1 (stv hA (by decide) (run_assign (hA.ev rfl)) ?_)
      clear hA; intro a hA
      refine LQ ?_
      refine BN ?_
      exact ⟨_, Nat.lt_succ_self m422, IntKind.i64.wrap (to416 + 1), H420, hM, ((((hA.nil.cons (hA.get 7 _ rfl)).cons (hA.get 6 _ rfl)).cons (hA.get 1 _ rfl)).cons (hA.get 0 _ rfl))⟩
    · replace H420 := ite_f hb445 H420
      refine wp_exit ?_
      refine TX ?_
      refine TX ?_
      refine BX ?_
      exact ⟨to416, Option.some.inj H420, hM, ((hA.nil.cons (hA.get 7 _ rfl)).cons (hA.get 6 _ rfl))⟩
  clear hM hA
  rintro a w446 ⟨to419, rfl, hM, hA⟩
  try dsimp only at H
  refine TN ?_
  refine wp_seq ?_
  refine wp_region_lit ?_
  refine L1 (stv hA (by decide) (run_move (hA.ev rfl)) ?_)
  clear hA; intro a hA
  refine L1 (stv hA (by decide) (run_move (hA.ev rfl)) ?_)
  clear hA; intro a hA
  refine L1 (stv hA (by decide) (run_assign (hA.ev rfl)) ?_)
  clear hA; intro a hA
  refine L1 (stv hA (by decide) (run_assign (hA.ev rfl)) ?_)
  clear hA; intro a hA
  refine LQ ?_
  refine TN ?_
  refine wp_ret ?_
  obtain rfl := Option.some.inj H
  exact ret_post2 (fn := Try.f76) hA rfl rfl rfl ⟨_, rfl, rfl, hM⟩

end Go.Proofs.Ytoogcdmdbogkeaa.G
