/- The functions that a law of this seat reaches: what each comes to, as a plain function, and that its code comes to it. Conditions: the plain function gives a value (enough fuel, no panic). -/
import Derived.Test.YtnhgfdinnbadeaaFRelayFluffsx1
set_option linter.unusedVariables false
set_option linter.unusedSimpArgs false
namespace Go.Proofs.Ytnhgfdinnbadeaa.G
open Go Go.RowKit Go.Proofs
def relay_stemmed.l0 (r_0 : Relay) : Nat → (List (Vector Int 32)) → Int → Option ((List (Vector Int 32)))
  | 0, _, _ => none
  | k + 1, xs203, t207 => (if (decide (t207 < ((r_0.Stems.length : Nat) : Int))) = true then (if 0 ≤ t207 ∧ t207 < ((r_0.Stems.length : Nat) : Int) then (if (xs203.length + 1) * 32 ≤ 140737488355328 then (relay_stemmed.l0 r_0 k (xs203 ++ [(r_0.Stems.getD t207.toNat Stem.z).ID]) (IntKind.i64.wrap (t207 + 1))) else none) else none) else (some xs203))
def relay_stemmed.f (k : Nat) (r_0 : Relay) : Option (List (Vector Int 32)) := (Option.bind (α := (List (Vector Int 32))) (relay_stemmed.l0 r_0 k ([] : List (Vector Int 32)) 0) (fun xs213 => (some xs213)))
set_option maxRecDepth 100000 in
theorem relay_stemmed.calls (k : Nat) (r_0 : Relay) (F : List (Option Nat)) (v0_2 : Value) (v0_3 : Value) (v0_4 : Value) (r : (List (Vector Int 32))) (w0 : World) (h0_2 : RoV F (Pl.int .i64) w0 v0_2 r_0.Routes) (h0_3 : RoV F pStem w0 v0_3 r_0.Stems) (h0_4 : RoV F pHash w0 v0_4 r_0.Fluffed) (hM : Mem F w0 w0 []) (H : relay_stemmed.f k r_0 = some r) :
    Calls Try.prog 39 #[(.agg #[(.int .u32 r_0.Epoch), (.bool r_0.Diffuse), v0_2, v0_3, v0_4])] w0 fun e w' => ∃ v, e = .returned v ∧ ∃ (ur_0 : Value), v = ur_0 ∧ Mem F w0 w' [.row 34 pHash.sz ur_0 (pHash.flat r)] := by
  unfold relay_stemmed.f at H
  obtain ⟨A0_2, c0_2, rfl, hr0_2, hc0_2⟩ := h0_2
  obtain ⟨A0_3, c0_3, rfl, hr0_3, hc0_3⟩ := h0_3
  obtain ⟨A0_4, c0_4, rfl, hr0_4, hc0_4⟩ := h0_4
  refine enterL (n := 20) [(.agg #[(.int .u32 r_0.Epoch), (.bool r_0.Diffuse), (.slice A0_2 r_0.Routes.length c0_2), (.slice A0_3 r_0.Stems.length c0_3), (.slice A0_4 r_0.Fluffed.length c0_4)])] Try.func39 rfl rfl rfl ?_
  intro a hA
  refine wp_seq ?_
  refine wp_region_lit ?_
  refine L1 (e_box (cs := [(.int .u32 r_0.Epoch), (.bool r_0.Diffuse), (.slice A0_2 r_0.Routes.length c0_2), (.slice A0_3 r_0.Stems.length c0_3), (.slice A0_4 r_0.Fluffed.length c0_4)]) hM hA rfl rfl (by decide) ?_)
  clear hM hA; intro w120 g119 hM hE  a hA
  refine L1 (stv hA (by decide) (run_assign (hA.ev rfl)) ?_)
  clear hA; intro a hA
  refine LQ ?_
  refine TN ?_
  refine wp_seq ?_
  refine wp_region_lit ?_
  refine L1 (stv hA (by decide) (run_assign (hA.ev rfl)) ?_)
  clear hA; intro a hA
  refine LQ ?_
  refine TN ?_
  refine wp_seq ?_
  refine wp_seq ?_
  refine wp_region_lit ?_
  refine L1 (stv hA (by decide) (run_field' Try.underlying39 rfl rfl Try.sizeOf36 (by decide) (hA.ev rfl)) ?_)
  clear hA; intro a hA
  refine L1 (stv hA (by decide) (run_ld (hA.ev rfl) (run_loadS Try.isAgg36 (At.seg1 (hM.box .z) 3 rfl))) ?_)
  clear hA; intro a hA
  refine L1 (stv hA (by decide) (run_len_slice Try.underlying36 (hA.ev rfl)) ?_)
  clear hA; intro a hA
  refine L1 (stv hA (by decide) (run_move (hA.ev rfl)) ?_)
  clear hA; intro a hA
  refine LQ ?_
  refine TN ?_
  obtain ⟨o215, H214, H⟩ := Option.bind_eq_some_iff.1 H
  refine cutC (fun a w => ∃ (xs213 : (List (Vector Int 32))) (v210 : Value), xs213 = o215 ∧ Mem F w0 w [.row 34 pHash.sz v210 (pHash.flat xs213)] ∧ Has 20 [(3, v210)] a) ?_ ?_
  · refine wp_block ?_
    have hM := hM.addnil 34 (pHash).sz
    refine wp_loop_ghost (fun m a w => ∃ (xs203 : (List (Vector Int 32))) (t207 : Int) (v200 : Value), relay_stemmed.l0 r_0 m xs203 t207 = some o215 ∧ Mem F w0 w [.row 34 pHash.sz v200 (pHash.flat xs203)] ∧ Has 20 [(3, v200), (7, (.slice A0_3 r_0.Stems.length c0_3)), (8, (.int .i64 ((r_0.Stems.length : Nat) : Int))), (9, (.int .i64 t207))] a) k ⟨([] : List (Vector Int 32)), 0, (.slice none 0 0), H214, (hM.sel [0] rfl (by decide)), ((((hA.nil.cons (hA.get 9 _ rfl)).cons (hA.get 8 _ rfl)).cons (hA.get 7 _ rfl)).cons (hA.get 3 _ rfl))⟩ ?_
    clear hM hA; rintro m217 a w218 ⟨xs203, t207, v200, H214, hM, hA⟩
    cases m217 with
    | zero => exact absurd H214 (by simp [relay_stemmed.l0])
    | succ m217 =>
    rw [relay_stemmed.l0] at H214
    obtain ⟨A201, c202, rfl⟩ := RowOk.form (hM.row (p := pHash) .z)
    refine wp_seq ?_
    refine wp_region_lit ?_
    refine L1 (stv hA (by decide) (run_bin (hA.ev rfl) (hA.ev rfl) (bin_lss _ _ _ _)) ?_)
    clear hA; intro a hA
    refine LQ ?_
    refine TN ?_
    refine wp_seq ?_
    refine tcond (b := (decide (t207 < ((r_0.Stems.length : Nat) : Int)))) hA rfl (fun hb219 => ?_) (fun hb219 => ?_)
    · replace H214 := ite_t hb219 H214
      refine wp_skip ?_
      refine TN ?_
      refine wp_seq ?_
      refine wp_block ?_
      refine wp_seq ?_
      refine wp_region_lit ?_
      obtain ⟨⟨hi220, hj221⟩, H214⟩ := ite_some H214
      obtain ⟨ad222, hq223, hat224⟩ := Row.elem' (p := pStem) (hM.ro hr0_3) (Eq.refl r_0.Stems.length) Stem.z t207 hi220 hj221
      refine L1 (stv hA (by decide) (run_idx Try.underlying36 Try.sizeOf61 (hA.ev rfl) hq223 (hA.ev rfl) hi220 hj221) ?_)
      clear hA; intro a hA
      refine L1 (stv hA (by decide) (run_ld (hA.ev rfl) (run_loadP Try.isAgg61 Try.sizeOf61 hat224)) ?_)
      clear hA; intro a hA
      refine L1 (e_alloc (cs := (pStem.enc Stem.z)) hM zero61 rfl hA (by decide) ?_)
      clear hM hA; intro w226 g225 hM hE  a hA
      refine L1 (e_store (g := g225) (off := 0) (cur := (pStem.enc Stem.z)) (cs' := (pStem.enc (r_0.Stems.getD t207.toNat Stem.z))) hM .z Try.sizeOf61 hA rfl (by simp [add_mk]) rfl (agg_size _ _) (agg_one _ _) (Nat.le_of_ble_eq_true (enc_fitL _ _ rfl)) (spl_all (by first | rfl | simp [Value.cells, Pl.len])) ?_)
      clear hM hA; intro w228  hM hE  a hA
      refine LQ ?_
      refine TN ?_
      refine wp_region_lit ?_
      refine L1 (stv hA (by decide) (run_move (hA.ev rfl)) ?_)
      clear hA; intro a hA
      refine L1 (stv hA (by decide) (run_field' Try.underlying61 rfl rfl Try.sizeOf34 (by decide) (hA.ev rfl)) ?_)
      clear hA; intro a hA
      refine L1 (stv hA (by decide) (run_ld (hA.ev rfl) (run_loadP Try.isAgg34 Try.sizeOf34 (Stem.at_ID (hM.box .z)))) ?_)
      clear hA; intro a hA
      refine L1 (e_litN [(r_0.Stems.getD t207.toNat Stem.z).ID] [(.agg (pHash.enc ((r_0.Stems.getD t207.toNat Stem.z).ID)).toArray)] elt37 hM rfl (by decide) hA rfl rfl (List.cons_ne_nil _ _) (by decide) ?_)
      clear hM hA; intro w230 g229 hM hE  a hA
      obtain ⟨hl234, H214⟩ := ite_some H214
      refine L1 (e_append elt37 hM (fun _ => (.s (.s .z))) (Src.row Try.underlying37 (RowOk.row (hM.row (p := pHash) .z)) (RowOk.len (hM.row (p := pHash) .z))) hl234 hA rfl rfl (by decide) ?_)
      clear hM hA; intro w235 A232 c233 hM hE  a hA
      refine L1 (stv hA (by decide) (run_assign (hA.ev rfl)) ?_)
      clear hA; intro a hA
      refine LQ ?_
      refine BN ?_
      refine TN ?_
      refine wp_region_lit ?_
      refine L1 (stv hA (by decide) (run_bin (hA.ev rfl) (hA.ev rfl) (bin_add _ _ _ _)) ?_)
      clear hA; intro a hA
      refine L1 (stv hA (by decide) (run_move (hA.ev rfl)) ?_)
      clear hA; intro a hA
      refine LQ ?_
      exact ⟨_, Nat.lt_succ_self m217, (xs203 ++ [(r_0.Stems.getD t207.toNat Stem.z).ID]), IntKind.i64.wrap (t207 + 1), (.slice A232 (xs203.length + 1) c233), H214, (hM.sel [2] rfl (by decide)), ((((hA.nil.cons (hA.get 9 _ rfl)).cons (hA.get 8 _ rfl)).cons (hA.get 7 _ rfl)).cons (hA.get 3 _ rfl))⟩
    · replace H214 := ite_f hb219 H214
      refine wp_exit ?_
      refine TX ?_
      refine TX ?_
      refine BX ?_
      exact ⟨xs203, (.slice A201 xs203.length c202), Option.some.inj H214, hM, (hA.nil.cons (hA.get 3 _ rfl))⟩
  clear hM hA
  rintro a w236 ⟨xs213, v210, rfl, hM, hA⟩
  try dsimp only at H
  obtain ⟨A211, c212, rfl⟩ := RowOk.form (hM.row (p := pHash) .z)
  refine TN ?_
  refine wp_seq ?_
  refine wp_region_lit ?_
  refine L1 (stv hA (by decide) (run_move (hA.ev rfl)) ?_)
  clear hA; intro a hA
  refine L1 (stv hA (by decide) (run_assign (hA.ev rfl)) ?_)
  clear hA; intro a hA
  refine LQ ?_
  refine TN ?_
  refine wp_ret ?_
  obtain rfl := Option.some.inj H
  exact ret_post1 (fn := Try.f39) hA rfl rfl ⟨_, rfl, (.slice A211 xs213.length c212), rfl, hM⟩

def slices_Concat_Hash.f (k : Nat) (slices_0_0 : (List (Vector Int 32))) (slices_0_1 : (List (Vector Int 32))) : Option (List (Vector Int 32)) := (if (decide ((IntKind.i64.wrap (0 + ((slices_0_0.length : Nat) : Int))) < 0)) = true then none else (if (decide ((IntKind.i64.wrap ((IntKind.i64.wrap (0 + ((slices_0_0.length : Nat) : Int))) + ((slices_0_1.length : Nat) : Int))) < 0)) = true then none else (Option.bind (α := (List (Vector Int 32))) (if (decide ((IntKind.i64.wrap ((IntKind.i64.wrap ((IntKind.i64.wrap (0 + ((slices_0_0.length : Nat) : Int))) + ((slices_0_1.length : Nat) : Int))) - 0)) > 0)) = true then (if 0 ≤ (IntKind.i64.wrap ((IntKind.i64.wrap ((IntKind.i64.wrap (0 + ((slices_0_0.length : Nat) : Int))) + ((slices_0_1.length : Nat) : Int))) - 0)) ∧ (0 + (IntKind.i64.wrap ((IntKind.i64.wrap ((IntKind.i64.wrap (0 + ((slices_0_0.length : Nat) : Int))) + ((slices_0_1.length : Nat) : Int))) - 0)).toNat) * 32 ≤ 140737488355328 then (if 0 ≤ (0 : Int) ∧ (0 : Int) ≤ (((0 + (IntKind.i64.wrap ((IntKind.i64.wrap ((IntKind.i64.wrap (0 + ((slices_0_0.length : Nat) : Int))) + ((slices_0_1.length : Nat) : Int))) - 0)).toNat) : Nat) : Int) then (some ((([] : List (Vector Int 32)) ++ List.replicate (IntKind.i64.wrap ((IntKind.i64.wrap ((IntKind.i64.wrap (0 + ((slices_0_0.length : Nat) : Int))) + ((slices_0_1.length : Nat) : Int))) - 0)).toNat (Vector.replicate 32 0 : Vector Int 32)).take ((0 : Int).toNat))) else none) else none) else (some ([] : List (Vector Int 32)))) (fun xs167 => (if (xs167.length + slices_0_0.length) * 32 ≤ 140737488355328 then (if ((xs167.length + slices_0_0.length) + slices_0_1.length) * 32 ≤ 140737488355328 then (some ((xs167 ++ slices_0_0) ++ slices_0_1)) else none) else none)))))
set_option maxRecDepth 100000 in
theorem slices_Concat_Hash.calls (k : Nat) (slices_0_0 : (List (Vector Int 32))) (slices_0_1 : (List (Vector Int 32))) (F : List (Option Nat)) (g0 : Nat) (v0_0 : Value) (v0_1 : Value) (r : (List (Vector Int 32))) (w0 : World) (h0_0 : RoV F pHash w0 v0_0 slices_0_0) (h0_1 : RoV F pHash w0 v0_1 slices_0_1) (hM : Mem F w0 w0 [.box g0 37 (List.flatten [[v0_0], [v0_1]])]) (H : slices_Concat_Hash.f k slices_0_0 slices_0_1 = some r) :
    Calls Try.prog 43 #[(.slice (some ⟨g0, 0, none⟩) 2 2)] w0 fun e w' => ∃ v, e = .returned v ∧ ∃ (ur_0 : Value), v = ur_0 ∧ Mem F w0 w' [.box g0 37 (List.flatten [[v0_0], [v0_1]]), .row 34 pHash.sz ur_0 (pHash.flat r)] := by
  unfold slices_Concat_Hash.f at H
  obtain ⟨A0_0, c0_0, rfl, hr0_0, hc0_0⟩ := h0_0
  obtain ⟨A0_1, c0_1, rfl, hr0_1, hc0_1⟩ := h0_1
  refine enterL (n := 36) [(.slice (some ⟨g0, 0, none⟩) 2 2)] Try.func43 rfl rfl rfl ?_
  intro a hA
  refine wp_seq ?_
  refine wp_region_lit ?_
  refine L1 (stv hA (by decide) (run_assign (hA.ev rfl)) ?_)
  clear hA; intro a hA
  refine LQ ?_
  refine TN ?_
  refine wp_seq ?_
  refine wp_region_lit ?_
  refine L1 (stv hA (by decide) (run_assign (hA.ev rfl)) ?_)
  clear hA; intro a hA
  refine LQ ?_
  refine TN ?_
  refine wp_seq ?_
  refine wp_seq ?_
  refine wp_region_lit ?_
  refine L1 (stv hA (by decide) (run_move (hA.ev rfl)) ?_)
  clear hA; intro a hA
  refine L1 (stv hA (by decide) (run_len_slice Try.underlying80 (hA.ev rfl)) ?_)
  clear hA; intro a hA
  refine L1 (stv hA (by decide) (run_move (hA.ev rfl)) ?_)
  clear hA; intro a hA
  refine LQ ?_
  refine TN ?_
  refine wp_block ?_; refine wp_loop_rounds 40 ?_; refine rounds_s ?_
  refine wp_seq ?_
  refine wp_region_lit ?_
  refine L1 (stv hA (by decide) (run_bin (hA.ev rfl) (hA.ev rfl) (bin_lss _ _ _ _)) ?_)
  clear hA; intro a hA
  refine LQ ?_
  refine TN ?_
  refine wp_seq ?_
  refine tcond_t hA rfl ?_
  refine wp_skip ?_
  refine TN ?_
  refine wp_seq ?_
  refine wp_block ?_
  refine wp_seq ?_
  refine wp_region_lit ?_
  refine L1 (stv hA (by decide) (run_idx Try.underlying80 Try.sizeOf37 (hA.ev rfl) rfl (hA.ev rfl) (by decide) (by decide)) ?_)
  clear hA; intro a hA
  refine L1 (stv hA (by decide) (run_ld (hA.ev rfl) (run_loadS Try.isAgg37 (At.seg (segs := [[(.slice A0_0 slices_0_0.length c0_0)], [(.slice A0_1 slices_0_1.length c0_1)]]) (hM.box .z) 0 rfl rfl))) ?_)
  clear hA; intro a hA
  refine L1 (stv hA (by decide) (run_assign (hA.ev rfl)) ?_)
  clear hA; intro a hA
  refine LQ ?_
  refine TN ?_
  refine wp_seq ?_
  refine wp_region_lit ?_
  refine L1 (stv hA (by decide) (run_move (hA.ev rfl)) ?_)
  clear hA; intro a hA
  refine L1 (stv hA (by decide) (run_move (hA.ev rfl)) ?_)
  clear hA; intro a hA
  refine L1 (stv hA (by decide) (run_len_slice Try.underlying37 (hA.ev rfl)) ?_)
  clear hA; intro a hA
  refine L1 (stv hA (by decide) (run_bin (hA.ev rfl) (hA.ev rfl) (bin_add _ _ _ _)) ?_)
  clear hA; intro a hA
  refine L1 (stv hA (by decide) (run_assign (hA.ev rfl)) ?_)
  clear hA; intro a hA
  refine LQ ?_
  refine TN ?_
  refine wp_seq ?_
  refine wp_region_lit ?_
  refine L1 (stv hA (by decide) (run_move (hA.ev rfl)) ?_)
  clear hA; intro a hA
  refine L1 (stv hA (by decide) (run_bin (hA.ev rfl) (hA.ev rfl) (bin_lss _ _ _ _)) ?_)
  clear hA; intro a hA
  refine LQ ?_
  refine TN ?_
  refine tcond (b := (decide ((IntKind.i64.wrap (0 + ((slices_0_0.length : Nat) : Int))) < 0))) hA rfl (fun hb116 => ?_) (fun hb116 => ?_)
  · replace H := ite_t hb116 H
    cases H
  · replace H := ite_f hb116 H
    refine wp_skip ?_
    refine BN ?_
    refine TN ?_
    refine wp_region_lit ?_
    refine L1 (stv hA (by decide) (run_bin (hA.ev rfl) (hA.ev rfl) (bin_add _ _ _ _)) ?_)
    clear hA; intro a hA
    refine L1 (stv hA (by decide) (run_move (hA.ev rfl)) ?_)
    clear hA; intro a hA
    refine LQ ?_
    refine TN ?_; refine rounds_s ?_
    refine wp_seq ?_
    refine wp_region_lit ?_
    refine L1 (stv hA (by decide) (run_bin (hA.ev rfl) (hA.ev rfl) (bin_lss _ _ _ _)) ?_)
    clear hA; intro a hA
    refine LQ ?_
    refine TN ?_
    refine wp_seq ?_
    refine tcond_t hA rfl ?_
    refine wp_skip ?_
    refine TN ?_
    refine wp_seq ?_
    refine wp_block ?_
    refine wp_seq ?_
    refine wp_region_lit ?_
    refine L1 (stv hA (by decide) (run_idx Try.underlying80 Try.sizeOf37 (hA.ev rfl) rfl (hA.ev rfl) (by decide) (by decide)) ?_)
    clear hA; intro a hA
    refine L1 (stv hA (by decide) (run_ld (hA.ev rfl) (run_loadS Try.isAgg37 (At.seg (segs := [[(.slice A0_0 slices_0_0.length c0_0)], [(.slice A0_1 slices_0_1.length c0_1)]]) (hM.box .z) 1 rfl rfl))) ?_)
    clear hA; intro a hA
    refine L1 (stv hA (by decide) (run_assign (hA.ev rfl)) ?_)
    clear hA; intro a hA
    refine LQ ?_
    refine TN ?_
    refine wp_seq ?_
    refine wp_region_lit ?_
    refine L1 (stv hA (by decide) (run_move (hA.ev rfl)) ?_)
    clear hA; intro a hA
    refine L1 (stv hA (by decide) (run_move (hA.ev rfl)) ?_)
    clear hA; intro a hA
    refine L1 (stv hA (by decide) (run_len_slice Try.underlying37 (hA.ev rfl)) ?_)
    clear hA; intro a hA
    refine L1 (stv hA (by decide) (run_bin (hA.ev rfl) (hA.ev rfl) (bin_add _ _ _ _)) ?_)
    clear hA; intro a hA
    refine L1 (stv hA (by decide) (run_assign (hA.ev rfl)) ?_)
    clear hA; intro a hA
    refine LQ ?_
    refine TN ?_
    refine wp_seq ?_
    refine wp_region_lit ?_
    refine L1 (stv hA (by decide) (run_move (hA.ev rfl)) ?_)
    clear hA; intro a hA
    refine L1 (stv hA (by decide) (run_bin (hA.ev rfl) (hA.ev rfl) (bin_lss _ _ _ _)) ?_)
    clear hA; intro a hA
    refine LQ ?_
    refine TN ?_
    refine tcond (b := (decide ((IntKind.i64.wrap ((IntKind.i64.wrap (0 + ((slices_0_0.length : Nat) : Int))) + ((slices_0_1.length : Nat) : Int))) < 0))) hA rfl (fun hb119 => ?_) (fun hb119 => ?_)
    · replace H := ite_t hb119 H
      cases H
    · replace H := ite_f hb119 H
      refine wp_skip ?_
      refine BN ?_
      refine TN ?_
      refine wp_region_lit ?_
      refine L1 (stv hA (by decide) (run_bin (hA.ev rfl) (hA.ev rfl) (bin_add _ _ _ _)) ?_)
      clear hA; intro a hA
      refine L1 (stv hA (by decide) (run_move (hA.ev rfl)) ?_)
      clear hA; intro a hA
      refine LQ ?_
      refine TN ?_; refine rounds_s ?_
      refine wp_seq ?_
      refine wp_region_lit ?_
      refine L1 (stv hA (by decide) (run_bin (hA.ev rfl) (hA.ev rfl) (bin_lss _ _ _ _)) ?_)
      clear hA; intro a hA
      refine LQ ?_
      refine TN ?_
      refine wp_seq ?_
      refine tcond_f hA rfl ?_
      refine wp_exit ?_
      refine TX ?_
      refine TX ?_
      refine BX ?_
      refine TN ?_
      refine wp_seq ?_
      refine wp_region_lit ?_
      refine L1 (stv hA (by decide) (run_move (hA.ev rfl)) ?_)
      clear hA; intro a hA
      refine L1 (inl_call Try.call49 hA [(.slice none 0 0), (.int .i64 (IntKind.i64.wrap ((IntKind.i64.wrap (0 + ((slices_0_0.length : Nat) : Int))) + ((slices_0_1.length : Nat) : Int))))] rfl (by decide) ?_)
      refine enterL (n := 27) [(.slice none 0 0), (.int .i64 (IntKind.i64.wrap ((IntKind.i64.wrap (0 + ((slices_0_0.length : Nat) : Int))) + ((slices_0_1.length : Nat) : Int))))] Try.func49 rfl rfl rfl ?_
      clear hA; intro a hA
      refine wp_seq ?_
      refine wp_region_lit ?_
      refine L1 (stv hA (by decide) (run_assign (hA.ev rfl)) ?_)
      clear hA; intro a hA
      refine LQ ?_
      refine TN ?_
      refine wp_seq ?_
      refine wp_seq ?_
      refine wp_region_lit ?_
      refine L1 (stv hA (by decide) (run_move (hA.ev rfl)) ?_)
      clear hA; intro a hA
      refine L1 (stv hA (by decide) (run_bin (hA.ev rfl) (hA.ev rfl) (bin_lss _ _ _ _)) ?_)
      clear hA; intro a hA
      refine LQ ?_
      refine TN ?_
      refine tcond_kf hA rfl hb119 ?_
      refine wp_skip ?_
      refine TN ?_
      refine wp_seq ?_
      refine wp_seq ?_
      refine wp_region_lit ?_
      refine L1 (stv hA (by decide) (run_move (hA.ev rfl)) ?_)
      clear hA; intro a hA
      refine L1 (stv hA (by decide) (run_move (hA.ev rfl)) ?_)
      clear hA; intro a hA
      refine L1 (stv hA (by decide) (run_cap_slice Try.underlying37 (hA.ev rfl)) ?_)
      clear hA; intro a hA
      refine L1 (stv hA (by decide) (run_move (hA.ev rfl)) ?_)
      clear hA; intro a hA
      refine L1 (stv hA (by decide) (run_len_slice Try.underlying37 (hA.ev rfl)) ?_)
      clear hA; intro a hA
      refine L1 (stv hA (by decide) (run_bin (hA.ev rfl) (hA.ev rfl) (bin_sub _ _ _ _)) ?_)
      clear hA; intro a hA
      refine L1 (stv hA (by decide) (run_bin (hA.ev rfl) (hA.ev rfl) (bin_sub _ _ _ _)) ?_)
      clear hA; intro a hA
      refine L1 (stv hA (by decide) (run_assign (hA.ev rfl)) ?_)
      clear hA; intro a hA
      refine LQ ?_
      refine TN ?_
      refine wp_seq ?_
      refine wp_region_lit ?_
      refine L1 (stv hA (by decide) (run_move (hA.ev rfl)) ?_)
      clear hA; intro a hA
      refine L1 (stv hA (by decide) (run_bin (hA.ev rfl) (hA.ev rfl) (bin_gtr _ _ _ _)) ?_)
      clear hA; intro a hA
      refine LQ ?_
      refine TN ?_
      obtain ⟨o169, H168, H⟩ := Option.bind_eq_some_iff.1 H
      refine cutC (fun a w => ∃ (xs167 : (List (Vector Int 32))) (v164 : Value), xs167 = o169 ∧ Mem F w0 w [.row 34 pHash.sz v164 (pHash.flat xs167), .box g0 37 (List.flatten [[(.slice A0_0 slices_0_0.length c0_0)], [(.slice A0_1 slices_0_1.length c0_1)]])] ∧ Has 27 [(0, v164)] a) ?_ ?_
      · refine tcond (b := (decide ((IntKind.i64.wrap ((IntKind.i64.wrap ((IntKind.i64.wrap (0 + ((slices_0_0.length : Nat) : Int))) + ((slices_0_1.length : Nat) : Int))) - 0)) > 0))) hA rfl (fun hb170 => ?_) (fun hb170 => ?_)
        · replace H168 := ite_t hb170 H168
          refine wp_region_lit ?_
          refine L1 (stv hA (by decide) (run_move (hA.ev rfl)) ?_)
          clear hA; intro a hA
          refine L1 (stv hA (by decide) (run_move (hA.ev rfl)) ?_)
          clear hA; intro a hA
          refine L1 (stv hA (by decide) (run_cap_slice Try.underlying37 (hA.ev rfl)) ?_)
          clear hA; intro a hA
          refine L1 (stv hA (by decide) (run_hi Try.underlying37 Try.sizeOf34 (Nat.le_refl 0) (by decide) (by decide) (hA.ev rfl) (hA.ev rfl)) ?_)
          clear hA; intro a hA
          refine L1 (stv hA (by decide) (run_move (hA.ev rfl)) ?_)
          clear hA; intro a hA
          have hM := hM.addnil 34 (pHash).sz
          obtain ⟨⟨hi174, hl175⟩, H168⟩ := ite_some H168
          refine L1 (e_appendz (xs := ([] : List (Vector Int 32))) elt37 rfl Try.underlying3 hM (fun _ => .z) hi174 hl175 hA rfl rfl (by decide) ?_)
          clear hM hA; intro w176 A171 c172 hM hE  a hA
          refine L1 (stv hA (by decide) (run_move (hA.ev rfl)) ?_)
          clear hA; intro a hA
          refine L1 (stv hA (by decide) (run_len_slice Try.underlying37 (hA.ev rfl)) ?_)
          clear hA; intro a hA
          obtain ⟨⟨hi177, hj178⟩, H168⟩ := ite_some H168
          refine L1 (stv hA (by decide) (run_hi Try.underlying37 Try.sizeOf34 (RowOk.cap (hM.row (p := pHash) .z)) hi177 hj178 (hA.ev rfl) (hA.ev rfl)) ?_)
          clear hA; intro a hA
          refine L1 (stv hA (by decide) (run_assign (hA.ev rfl)) ?_)
          clear hA; intro a hA
          refine LQ ?_
          have hM := hM.re (y := .row 34 pHash.sz (.slice A171 ((0 : Int).toNat) c172) (pHash.flat ((([] : List (Vector Int 32)) ++ List.replicate (IntKind.i64.wrap ((IntKind.i64.wrap ((IntKind.i64.wrap (0 + ((slices_0_0.length : Nat) : Int))) + ((slices_0_1.length : Nat) : Int))) - 0)).toNat (Vector.replicate 32 0 : Vector Int 32)).take ((0 : Int).toNat)))) .z (fun h => RowOk.cuthi h (by omega)) (key_hi _ _ _ _ _)
          exact ⟨((([] : List (Vector Int 32)) ++ List.replicate (IntKind.i64.wrap ((IntKind.i64.wrap ((IntKind.i64.wrap (0 + ((slices_0_0.length : Nat) : Int))) + ((slices_0_1.length : Nat) : Int))) - 0)).toNat (Vector.replicate 32 0 : Vector Int 32)).take ((0 : Int).toNat)), (.slice A171 ((0 : Int).toNat) c172), Option.some.inj H168, hM, (hA.nil.cons (hA.get 0 _ rfl))⟩
        · replace H168 := ite_f hb170 H168
          refine wp_skip ?_
          have hM := hM.addnil 34 (pHash).sz
          exact ⟨([] : List (Vector Int 32)), (.slice none 0 0), Option.some.inj H168, hM, (hA.nil.cons (hA.get 0 _ rfl))⟩
      clear hM hA
      rintro a w180 ⟨xs167, v164, rfl, hM, hA⟩
      try dsimp only at H
      obtain ⟨A165, c166, rfl⟩ := RowOk.form (hM.row (p := pHash) .z)
      refine TN ?_
      refine wp_seq ?_
      refine wp_region_lit ?_
      refine L1 (stv hA (by decide) (run_move (hA.ev rfl)) ?_)
      clear hA; intro a hA
      refine L1 (stv hA (by decide) (run_assign (hA.ev rfl)) ?_)
      clear hA; intro a hA
      refine LQ ?_
      refine TN ?_
      refine wp_ret ?_
      refine ret_post1 (fn := Try.f49) hA rfl rfl ⟨_, rfl, ?_⟩; clear hA; intro a hA
      refine L1 (stv hA (by decide) (run_assign (hA.ev rfl)) ?_)
      clear hA; intro a hA
      refine LQ ?_
      refine TN ?_
      refine wp_seq ?_
      refine wp_seq ?_
      refine wp_region_lit ?_
      refine L1 (stv hA (by decide) (run_move (hA.ev rfl)) ?_)
      clear hA; intro a hA
      refine L1 (stv hA (by decide) (run_len_slice Try.underlying80 (hA.ev rfl)) ?_)
      clear hA; intro a hA
      refine L1 (stv hA (by decide) (run_move (hA.ev rfl)) ?_)
      clear hA; intro a hA
      refine LQ ?_
      refine TN ?_
      refine wp_block ?_; refine wp_loop_rounds 40 ?_; refine rounds_s ?_
      refine wp_seq ?_
      refine wp_region_lit ?_
      refine L1 (stv hA (by decide) (run_bin (hA.ev rfl) (hA.ev rfl) (bin_lss _ _ _ _)) ?_)
      clear hA; intro a hA
      refine LQ ?_
      refine TN ?_
      refine wp_seq ?_
      refine tcond_t hA rfl ?_
      refine wp_skip ?_
      refine TN ?_
      refine wp_seq ?_
      refine wp_block ?_
      refine wp_seq ?_
      refine wp_region_lit ?_
      refine L1 (stv hA (by decide) (run_idx Try.underlying80 Try.sizeOf37 (hA.ev rfl) rfl (hA.ev rfl) (by decide) (by decide)) ?_)
      clear hA; intro a hA
      refine L1 (stv hA (by decide) (run_ld (hA.ev rfl) (run_loadS Try.isAgg37 (At.seg (segs := [[(.slice A0_0 slices_0_0.length c0_0)], [(.slice A0_1 slices_0_1.length c0_1)]]) (hM.box (.s .z)) 0 rfl rfl))) ?_)
      clear hA; intro a hA
      refine L1 (stv hA (by decide) (run_assign (hA.ev rfl)) ?_)
      clear hA; intro a hA
      refine LQ ?_
      refine TN ?_
      refine wp_region_lit ?_
      refine L1 (stv hA (by decide) (run_move (hA.ev rfl)) ?_)
      clear hA; intro a hA
      refine L1 (stv hA (by decide) (run_move (hA.ev rfl)) ?_)
      clear hA; intro a hA
      obtain ⟨hl184, H⟩ := ite_some H
      refine L1 (e_append elt37 hM (fun _ => .z) (Src.row Try.underlying37 (hM.ro hr0_0) (Eq.refl slices_0_0.length)) hl184 hA rfl rfl (by decide) ?_)
      clear hM hA; intro w185 A182 c183 hM hE  a hA
      refine L1 (stv hA (by decide) (run_assign (hA.ev rfl)) ?_)
      clear hA; intro a hA
      refine LQ ?_
      refine BN ?_
      refine TN ?_
      refine wp_region_lit ?_
      refine L1 (stv hA (by decide) (run_bin (hA.ev rfl) (hA.ev rfl) (bin_add _ _ _ _)) ?_)
      clear hA; intro a hA
      refine L1 (stv hA (by decide) (run_move (hA.ev rfl)) ?_)
      clear hA; intro a hA
      refine LQ ?_
      refine TN ?_; refine rounds_s ?_
      refine wp_seq ?_
      refine wp_region_lit ?_
      refine L1 (stv hA (by decide) (run_bin (hA.ev rfl) (hA.ev rfl) (bin_lss _ _ _ _)) ?_)
      clear hA; intro a hA
      refine LQ ?_
      refine TN ?_
      refine wp_seq ?_
      refine tcond_t hA rfl ?_
      refine wp_skip ?_
      refine TN ?_
      refine wp_seq ?_
      refine wp_block ?_
      refine wp_seq ?_
      refine wp_region_lit ?_
      refine L1 (stv hA (by decide) (run_idx Try.underlying80 Try.sizeOf37 (hA.ev rfl) rfl (hA.ev rfl) (by decide) (by decide)) ?_)
      clear hA; intro a hA
      refine L1 (stv hA (by decide) (run_ld (hA.ev rfl) (run_loadS Try.isAgg37 (At.seg (segs := [[(.slice A0_0 slices_0_0.length c0_0)], [(.slice A0_1 slices_0_1.length c0_1)]]) (hM.box (.s .z)) 1 rfl rfl))) ?_)
      clear hA; intro a hA
      refine L1 (stv hA (by decide) (run_assign (hA.ev rfl)) ?_)
      clear hA; intro a hA
      refine LQ ?_
      refine TN ?_
      refine wp_region_lit ?_
      refine L1 (stv hA (by decide) (run_move (hA.ev rfl)) ?_)
      clear hA; intro a hA
      refine L1 (stv hA (by decide) (run_move (hA.ev rfl)) ?_)
      clear hA; intro a hA
      obtain ⟨hl189, H⟩ := ite_some H
      refine L1 (e_append elt37 hM (fun _ => .z) (Src.row Try.underlying37 (hM.ro hr0_1) (Eq.refl slices_0_1.length)) hl189 hA rfl rfl (by decide) ?_)
      clear hM hA; intro w190 A187 c188 hM hE  a hA
      refine L1 (stv hA (by decide) (run_assign (hA.ev rfl)) ?_)
      clear hA; intro a hA
      refine LQ ?_
      refine BN ?_
      refine TN ?_
      refine wp_region_lit ?_
      refine L1 (stv hA (by decide) (run_bin (hA.ev rfl) (hA.ev rfl) (bin_add _ _ _ _)) ?_)
      clear hA; intro a hA
      refine L1 (stv hA (by decide) (run_move (hA.ev rfl)) ?_)
      clear hA; intro a hA
      refine LQ ?_
      refine TN ?_; refine rounds_s ?_
      refine wp_seq ?_
      refine wp_region_lit ?_
      refine L1 (stv hA (by decide) (run_bin (hA.ev rfl) (hA.ev rfl) (bin_lss _ _ _ _)) ?_)
      clear hA; intro a hA
      refine LQ ?_
      refine TN ?_
      refine wp_seq ?_
      refine tcond_f hA rfl ?_
      refine wp_exit ?_
      refine TX ?_
      refine TX ?_
      refine BX ?_
      refine TN ?_
      refine wp_seq ?_
      refine wp_region_lit ?_
      refine L1 (stv hA (by decide) (run_move (hA.ev rfl)) ?_)
      clear hA; intro a hA
      refine L1 (stv hA (by decide) (run_assign (hA.ev rfl)) ?_)
      clear hA; intro a hA
      refine LQ ?_
      refine TN ?_
      refine wp_ret ?_
      obtain rfl := Option.some.inj H
      exact ret_post1 (fn := Try.f43) hA rfl rfl ⟨_, rfl, (.slice A187 ((xs167.length + slices_0_0.length) + slices_0_1.length) c188), rfl, (hM.sel [1, 0] rfl (by decide))⟩

def relay_sound.l0 (r_0 : Relay) : Nat → Int → Option (Out Bool (Unit))
  | 0, _ => none
  | k + 1, t459 => (if (decide (t459 < ((r_0.Routes.length : Nat) : Int))) = true then (if 0 ≤ t459 ∧ t459 < ((r_0.Routes.length : Nat) : Int) then (Option.bind (α := Bool) (if (decide ((r_0.Routes.getD t459.toNat (0 : Int)) < 0)) = true then (some true) else (if 0 ≤ t459 ∧ t459 ≤ ((r_0.Routes.length : Nat) : Int) then ((slices_Contains_int.f k (r_0.Routes.take t459.toNat) (r_0.Routes.getD t459.toNat (0 : Int))).bind fun r488 => (some r488)) else none)) (fun t482 => (if t482 = true then (some (.ret false)) else (relay_sound.l0 r_0 k (IntKind.i64.wrap (t459 + 1)))))) else none) else (some (.go ())))
def relay_sound.l1 (xs553 : (List (Vector Int 32))) (t555 : Int) : Nat → (List ((Vector Int 32) × Bool)) → Int → Option (Out Bool (Unit))
  | 0, _, _ => none
  | k + 1, mp663, t667 => (if (decide (t667 < t555)) = true then (if 0 ≤ t667 ∧ t667 < ((xs553.length : Nat) : Int) then (if ((mget mp663 (xs553.getD t667.toNat (Vector.replicate 32 0 : Vector Int 32))).getD false) = true then (some (.ret false)) else (relay_sound.l1 xs553 t555 k (mput mp663 (xs553.getD t667.toNat (Vector.replicate 32 0 : Vector Int 32)) true) (IntKind.i64.wrap (t667 + 1)))) else none) else (some (.go ())))
def relay_sound.f (k : Nat) (r_0 : Relay) : Option Bool := (Option.bind (α := Bool) (if (decide (((r_0.Routes.length : Nat) : Int) > 2)) = true then (some true) else (if (decide (((r_0.Stems.length : Nat) : Int) > 64)) = true then (some true) else (some (decide (((r_0.Fluffed.length : Nat) : Int) > 2048))))) (fun t350 => (if t350 = true then (some false) else (Option.bind (α := Out Bool (Unit)) (relay_sound.l0 r_0 k 0) (fun o => match o with | .ret r => some r | .go _ => (Option.bind (α := (List (Vector Int 32)) × Int) ((relay_stemmed.f k (Relay.mk r_0.Epoch r_0.Diffuse r_0.Routes r_0.Stems r_0.Fluffed)).bind fun r560 => ((slices_Concat_Hash.f k r560 r_0.Fluffed).bind fun r569 => (some (r569, ((r569.length : Nat) : Int))))) (fun st => match st with | (xs553, t555) => (Option.bind (α := Out Bool (Unit)) (relay_sound.l1 xs553 t555 k ([] : List ((Vector Int 32) × Bool)) 0) (fun o => match o with | .ret r => some r | .go _ => (some true))))))))))
set_option maxRecDepth 100000 in
theorem relay_sound.calls (k : Nat) (r_0 : Relay) (F : List (Option Nat)) (v0_2 : Value) (v0_3 : Value) (v0_4 : Value) (r : Bool) (w0 : World) (h0_2 : RoV F (Pl.int .i64) w0 v0_2 r_0.Routes) (h0_3 : RoV F pStem w0 v0_3 r_0.Stems) (h0_4 : RoV F pHash w0 v0_4 r_0.Fluffed) (hM : Mem F w0 w0 []) (H : relay_sound.f k r_0 = some r) :
    Calls Try.prog 30 #[(.agg #[(.int .u32 r_0.Epoch), (.bool r_0.Diffuse), v0_2, v0_3, v0_4])] w0 fun e w' => ∃ v, e = .returned v ∧ v = (.bool r) ∧ Mem F w0 w' [] := by
  unfold relay_sound.f at H
  obtain ⟨A0_2, c0_2, rfl, hr0_2, hc0_2⟩ := h0_2
  obtain ⟨A0_3, c0_3, rfl, hr0_3, hc0_3⟩ := h0_3
  obtain ⟨A0_4, c0_4, rfl, hr0_4, hc0_4⟩ := h0_4
  refine enterL (n := 61) [(.agg #[(.int .u32 r_0.Epoch), (.bool r_0.Diffuse), (.slice A0_2 r_0.Routes.length c0_2), (.slice A0_3 r_0.Stems.length c0_3), (.slice A0_4 r_0.Fluffed.length c0_4)])] Try.func30 rfl rfl rfl ?_
  intro a hA
  refine wp_seq ?_
  refine wp_region_lit ?_
  refine L1 (e_box (cs := [(.int .u32 r_0.Epoch), (.bool r_0.Diffuse), (.slice A0_2 r_0.Routes.length c0_2), (.slice A0_3 r_0.Stems.length c0_3), (.slice A0_4 r_0.Fluffed.length c0_4)]) hM hA rfl rfl (by decide) ?_)
  clear hM hA; intro w344 g343 hM hE  a hA
  refine L1 (stv hA (by decide) (run_assign (hA.ev rfl)) ?_)
  clear hA; intro a hA
  refine LQ ?_
  refine TN ?_
  refine wp_seq ?_
  refine wp_seq ?_
  obtain ⟨o352, H351, H⟩ := Option.bind_eq_some_iff.1 H
  refine cutC (fun a w => ∃ (t350 : Bool), t350 = o352 ∧ Mem F w0 w [.box g343 39 [(.int .u32 r_0.Epoch), (.bool r_0.Diffuse), (.slice A0_2 r_0.Routes.length c0_2), (.slice A0_3 r_0.Stems.length c0_3), (.slice A0_4 r_0.Fluffed.length c0_4)]] ∧ Has 61 [(1, (.pointer (some (⟨g343, 0, none⟩)))), (23, (.bool t350))] a) ?_ ?_
  · refine wp_region_lit ?_
    refine L1 (stv hA (by decide) (run_field' Try.underlying39 rfl rfl Try.sizeOf22 (by decide) (hA.ev rfl)) ?_)
    clear hA; intro a hA
    refine L1 (stv hA (by decide) (run_ld (hA.ev rfl) (run_loadS Try.isAgg22 (At.seg1 (hM.box .z) 2 rfl))) ?_)
    clear hA; intro a hA
    refine L1 (stv hA (by decide) (run_len_slice Try.underlying22 (hA.ev rfl)) ?_)
    clear hA; intro a hA
    refine L1 (stv hA (by decide) (run_bin (hA.ev rfl) (hA.ev rfl) (bin_gtr _ _ _ _)) ?_)
    clear hA; intro a hA
    refine L1 (stv hA (by decide) (run_move (hA.ev rfl)) ?_)
    clear hA; intro a hA
    refine bsplit (b := (decide (((r_0.Routes.length : Nat) : Int) > 2))) (fun hb353 => ?_) (fun hb353 => ?_)
    · replace H351 := ite_t hb353 H351
      have hA := hA.re (t := 12) rfl (congrArg Value.bool hb353)
      refine L1 (gate_off rfl (by decide) rfl hA (by decide) rfl rfl ?_); clear hA; intro a hA
      refine L1 (gate_off rfl (by decide) rfl hA (by decide) rfl rfl ?_); clear hA; intro a hA
      refine L1 (gate_off rfl (by decide) rfl hA (by decide) rfl rfl ?_); clear hA; intro a hA
      refine L1 (gate_off rfl (by decide) rfl hA (by decide) rfl rfl ?_); clear hA; intro a hA
      refine L1 (stv hA (by decide) (run_pick (hA.ev rfl) (fun _ => hA.ev rfl) (fun h => Bool.noConfusion h)) ?_)
      clear hA; intro a hA
      refine L1 (stv hA (by decide) (run_move (hA.ev rfl)) ?_)
      clear hA; intro a hA
      refine L1 (gate_off rfl (by decide) rfl hA (by decide) rfl rfl ?_); clear hA; intro a hA
      refine L1 (gate_off rfl (by decide) rfl hA (by decide) rfl rfl ?_); clear hA; intro a hA
      refine L1 (gate_off rfl (by decide) rfl hA (by decide) rfl rfl ?_); clear hA; intro a hA
      refine L1 (gate_off rfl (by decide) rfl hA (by decide) rfl rfl ?_); clear hA; intro a hA
      refine L1 (stv hA (by decide) (run_pick (hA.ev rfl) (fun _ => hA.ev rfl) (fun h => Bool.noConfusion h)) ?_)
      clear hA; intro a hA
      refine LQ ?_
      exact ⟨true, Option.some.inj H351, hM, ((hA.nil.cons (hA.get 23 _ rfl)).cons (hA.get 1 _ rfl))⟩
    · replace H351 := ite_f hb353 H351
      have hA := hA.re (t := 12) rfl (congrArg Value.bool hb353)
      refine L1 (gate_on rfl rfl hA (by decide) rfl (stv hA (by decide) (run_field' Try.underlying39 rfl rfl Try.sizeOf36 (by decide) (hA.ev rfl)) ?_))
      clear hA; intro a hA
      refine L1 (gate_on rfl rfl hA (by decide) rfl (stv hA (by decide) (run_ld (hA.ev rfl) (run_loadS Try.isAgg36 (At.seg1 (hM.box .z) 3 rfl))) ?_))
      clear hA; intro a hA
      refine L1 (gate_on rfl rfl hA (by decide) rfl (stv hA (by decide) (run_len_slice Try.underlying36 (hA.ev rfl)) ?_))
      clear hA; intro a hA
      refine L1 (gate_on rfl rfl hA (by decide) rfl (stv hA (by decide) (run_bin (hA.ev rfl) (hA.ev rfl) (bin_gtr _ _ _ _)) ?_))
      clear hA; intro a hA
      refine L1 (stv hA (by decide) (run_pick (hA.ev rfl) (fun h => Bool.noConfusion h) (fun _ => hA.ev rfl)) ?_)
      clear hA; intro a hA
      refine L1 (stv hA (by decide) (run_move (hA.ev rfl)) ?_)
      clear hA; intro a hA
      refine bsplit (b := (decide (((r_0.Stems.length : Nat) : Int) > 64))) (fun hb354 => ?_) (fun hb354 => ?_)
      · replace H351 := ite_t hb354 H351
        have hA := hA.re (t := 18) rfl (congrArg Value.bool hb354)
        refine L1 (gate_off rfl (by decide) rfl hA (by decide) rfl rfl ?_); clear hA; intro a hA
        refine L1 (gate_off rfl (by decide) rfl hA (by decide) rfl rfl ?_); clear hA; intro a hA
        refine L1 (gate_off rfl (by decide) rfl hA (by decide) rfl rfl ?_); clear hA; intro a hA
        refine L1 (gate_off rfl (by decide) rfl hA (by decide) rfl rfl ?_); clear hA; intro a hA
        refine L1 (stv hA (by decide) (run_pick (hA.ev rfl) (fun _ => hA.ev rfl) (fun h => Bool.noConfusion h)) ?_)
        clear hA; intro a hA
        refine LQ ?_
        exact ⟨true, Option.some.inj H351, hM, ((hA.nil.cons (hA.get 23 _ rfl)).cons (hA.get 1 _ rfl))⟩
      · replace H351 := ite_f hb354 H351
        have hA := hA.re (t := 18) rfl (congrArg Value.bool hb354)
        refine L1 (gate_on rfl rfl hA (by decide) rfl (stv hA (by decide) (run_field' Try.underlying39 rfl rfl Try.sizeOf37 (by decide) (hA.ev rfl)) ?_))
        clear hA; intro a hA
        refine L1 (gate_on rfl rfl hA (by decide) rfl (stv hA (by decide) (run_ld (hA.ev rfl) (run_loadS Try.isAgg37 (At.seg1 (hM.box .z) 4 rfl))) ?_))
        clear hA; intro a hA
        refine L1 (gate_on rfl rfl hA (by decide) rfl (stv hA (by decide) (run_len_slice Try.underlying37 (hA.ev rfl)) ?_))
        clear hA; intro a hA
        refine L1 (gate_on rfl rfl hA (by decide) rfl (stv hA (by decide) (run_bin (hA.ev rfl) (hA.ev rfl) (bin_gtr _ _ _ _)) ?_))
        clear hA; intro a hA
        refine L1 (stv hA (by decide) (run_pick (hA.ev rfl) (fun h => Bool.noConfusion h) (fun _ => hA.ev rfl)) ?_)
        clear hA; intro a hA
        refine LQ ?_
        exact ⟨(decide (((r_0.Fluffed.length : Nat) : Int) > 2048)), Option.some.inj H351, hM, ((hA.nil.cons (hA.get 23 _ rfl)).cons (hA.get 1 _ rfl))⟩
  clear hM hA
  rintro a w355 ⟨t350, rfl, hM, hA⟩
  try dsimp only at H
  refine TN ?_
  refine tcond (b := t350) hA rfl (fun hb356 => ?_) (fun hb356 => ?_)
  · replace H := ite_t hb356 H
    refine wp_seq ?_
    refine wp_region_lit ?_
    refine L1 (stv hA (by decide) (run_assign (hA.ev rfl)) ?_)
    clear hA; intro a hA
    refine LQ ?_
    refine TN ?_
    refine wp_ret ?_
    obtain rfl := Option.some.inj H
    refine TR ?_
    exact ret_post1 (fn := Try.f30) hA rfl rfl ⟨_, rfl, rfl, (hM.sel [] rfl (by decide))⟩
  · replace H := ite_f hb356 H
    refine wp_skip ?_
    refine TN ?_
    refine wp_seq ?_
    refine wp_seq ?_
    refine wp_region_lit ?_
    refine L1 (stv hA (by decide) (run_field' Try.underlying39 rfl rfl Try.sizeOf22 (by decide) (hA.ev rfl)) ?_)
    clear hA; intro a hA
    refine L1 (stv hA (by decide) (run_ld (hA.ev rfl) (run_loadS Try.isAgg22 (At.seg1 (hM.box .z) 2 rfl))) ?_)
    clear hA; intro a hA
    refine L1 (stv hA (by decide) (run_len_slice Try.underlying22 (hA.ev rfl)) ?_)
    clear hA; intro a hA
    refine L1 (stv hA (by decide) (run_move (hA.ev rfl)) ?_)
    clear hA; intro a hA
    refine LQ ?_
    refine TN ?_
    obtain ⟨o462, H461, H⟩ := Option.bind_eq_some_iff.1 H
    refine cutC (fun a w => (.go ()) = o462 ∧ Mem F w0 w [.box g343 39 [(.int .u32 r_0.Epoch), (.bool r_0.Diffuse), (.slice A0_2 r_0.Routes.length c0_2), (.slice A0_3 r_0.Stems.length c0_3), (.slice A0_4 r_0.Fluffed.length c0_4)]] ∧ Has 61 [(1, (.pointer (some (⟨g343, 0, none⟩))))] a) ?_ ?_
    · refine wp_block ?_
      refine wp_loop_ghost (fun m a w => ∃ (t459 : Int), relay_sound.l0 r_0 m t459 = some o462 ∧ Mem F w0 w [.box g343 39 [(.int .u32 r_0.Epoch), (.bool r_0.Diffuse), (.slice A0_2 r_0.Routes.length c0_2), (.slice A0_3 r_0.Stems.length c0_3), (.slice A0_4 r_0.Fluffed.length c0_4)]] ∧ Has 61 [(1, (.pointer (some (⟨g343, 0, none⟩)))), (25, (.slice A0_2 r_0.Routes.length c0_2)), (26, (.int .i64 ((r_0.Routes.length : Nat) : Int))), (27, (.int .i64 t459))] a) k ⟨0, H461, hM, ((((hA.nil.cons (hA.get 27 _ rfl)).cons (hA.get 26 _ rfl)).cons (hA.get 25 _ rfl)).cons (hA.get 1 _ rfl))⟩ ?_
      clear hM hA; rintro m463 a w464 ⟨t459, H461, hM, hA⟩
      cases m463 with
      | zero => exact absurd H461 (by simp [relay_sound.l0])
      | succ m463 =>
      rw [relay_sound.l0] at H461
      refine wp_seq ?_
      refine wp_region_lit ?_
      refine L1 (stv hA (by decide) (run_bin (hA.ev rfl) (hA.ev rfl) (bin_lss _ _ _ _)) ?_)
      clear hA; intro a hA
      refine LQ ?_
      refine TN ?_
      refine wp_seq ?_
      refine tcond (b := (decide (t459 < ((r_0.Routes.length : Nat) : Int)))) hA rfl (fun hb465 => ?_) (fun hb465 => ?_)
      · replace H461 := ite_t hb465 H461
        refine wp_skip ?_
        refine TN ?_
        refine wp_seq ?_
        refine wp_block ?_
        refine wp_seq ?_
        refine wp_region_lit ?_
        refine L1 (stv hA (by decide) (run_move (hA.ev rfl)) ?_)
        clear hA; intro a hA
        obtain ⟨⟨hi466, hj467⟩, H461⟩ := ite_some H461
        obtain ⟨ad468, hq469, hat470⟩ := Row.elem' (p := (Pl.int .i64)) (hM.ro hr0_2) (Eq.refl r_0.Routes.length) (0 : Int) t459 hi466 hj467
        refine L1 (stv hA (by decide) (run_idx Try.underlying22 Try.sizeOf3 (hA.ev rfl) hq469 (hA.ev rfl) hi466 hj467) ?_)
        clear hA; intro a hA
        refine L1 (stv hA (by decide) (run_ld (hA.ev rfl) (run_loadS Try.isAgg3 hat470)) ?_)
        clear hA; intro a hA
        refine L1 (stv hA (by decide) (run_assign (hA.ev rfl)) ?_)
        clear hA; intro a hA
        refine L1 (stv hA (by decide) (run_assign (hA.ev rfl)) ?_)
        clear hA; intro a hA
        refine LQ ?_
        refine TN ?_
        refine wp_seq ?_
        obtain ⟨o484, H483, H461⟩ := Option.bind_eq_some_iff.1 H461
        refine cutC (fun a w => ∃ (t482 : Bool), t482 = o484 ∧ Mem F w0 w [.box g343 39 [(.int .u32 r_0.Epoch), (.bool r_0.Diffuse), (.slice A0_2 r_0.Routes.length c0_2), (.slice A0_3 r_0.Stems.length c0_3), (.slice A0_4 r_0.Fluffed.length c0_4)]] ∧ Has 61 [(1, (.pointer (some (⟨g343, 0, none⟩)))), (25, (.slice A0_2 r_0.Routes.length c0_2)), (26, (.int .i64 ((r_0.Routes.length : Nat) : Int))), (27, (.int .i64 t459)), (41, (.bool t482))] a) ?_ ?_
        · refine wp_region_lit ?_
          refine L1 (stv hA (by decide) (run_move (hA.ev rfl)) ?_)
          clear hA; intro a hA
          refine L1 (stv hA (by decide) (run_bin (hA.ev rfl) (hA.ev rfl) (bin_lss _ _ _ _)) ?_)
          clear hA; intro a hA
          refine L1 (stv hA (by decide) (run_move (hA.ev rfl)) ?_)
          clear hA; intro a hA
          refine bsplit (b := (decide ((r_0.Routes.getD t459.toNat (0 : Int)) < 0))) (fun hb485 => ?_) (fun hb485 => ?_)
          · replace H483 := ite_t hb485 H483
            have hA := hA.re (t := 34) rfl (congrArg Value.bool hb485)
            refine L1 (gate_off rfl (by decide) rfl hA (by decide) rfl rfl ?_); clear hA; intro a hA
            refine L1 (gate_off rfl (by decide) rfl hA (by decide) rfl rfl ?_); clear hA; intro a hA
            refine L1 (gate_off rfl (by decide) rfl hA (by decide) rfl rfl ?_); clear hA; intro a hA
            refine L1 (gate_off rfl (by decide) rfl hA (by decide) rfl rfl ?_); clear hA; intro a hA
            refine L1 (gate_off rfl (by decide) rfl hA (by decide) rfl rfl ?_); clear hA; intro a hA
            refine L1 (gate_off rfl (by decide) rfl hA (by decide) rfl rfl ?_); clear hA; intro a hA
            refine L1 (stv hA (by decide) (run_pick (hA.ev rfl) (fun _ => hA.ev rfl) (fun h => Bool.noConfusion h)) ?_)
            clear hA; intro a hA
            refine LQ ?_
            exact ⟨true, Option.some.inj H483, hM, (((((hA.nil.cons (hA.get 41 _ rfl)).cons (hA.get 27 _ rfl)).cons (hA.get 26 _ rfl)).cons (hA.get 25 _ rfl)).cons (hA.get 1 _ rfl))⟩
          · replace H483 := ite_f hb485 H483
            have hA := hA.re (t := 34) rfl (congrArg Value.bool hb485)
            refine L1 (gate_on rfl rfl hA (by decide) rfl (stv hA (by decide) (run_field' Try.underlying39 rfl rfl Try.sizeOf22 (by decide) (hA.ev rfl)) ?_))
            clear hA; intro a hA
            refine L1 (gate_on rfl rfl hA (by decide) rfl (stv hA (by decide) (run_ld (hA.ev rfl) (run_loadS Try.isAgg22 (At.seg1 (hM.box .z) 2 rfl))) ?_))
            clear hA; intro a hA
            refine L1 (gate_on rfl rfl hA (by decide) rfl (stv hA (by decide) (run_move (hA.ev rfl)) ?_))
            clear hA; intro a hA
            obtain ⟨⟨hi486, hj487⟩, H483⟩ := ite_some H483
            refine L1 (gate_on rfl rfl hA (by decide) rfl (stv hA (by decide) (run_hi Try.underlying22 Try.sizeOf3 hc0_2 hi486 hj487 (hA.ev rfl) (hA.ev rfl)) ?_))
            clear hA; intro a hA
            refine L1 (gate_on rfl rfl hA (by decide) rfl (stv hA (by decide) (run_move (hA.ev rfl)) ?_))
            clear hA; intro a hA
            obtain ⟨r488, H489, H483⟩ := Option.bind_eq_some_iff.1 H483
            refine L1 (gate_on rfl rfl hA (by decide) rfl (st_call Try.call28 hA [(.slice A0_2 t459.toNat c0_2), (.int .i64 (r_0.Routes.getD t459.toNat (0 : Int)))] rfl (by decide) (slices_Contains_int.calls _ _ _ _ _ _ _ ((RoV.mk (Ro.take (hM.roC (Ms := []) hr0_2) t459.toNat) (len_take (Eq.refl r_0.Routes.length) (by omega)) (by have hh1 := hc0_2; omega))) (hM.front (Ms := [])) H489) ?_))
            clear hA; rintro _ w490 ⟨rfl, hMc⟩ a hA
            have hE := hMc.below; have hM := hM.call (Ms := []) hMc
            clear hMc; simp only [List.cons_append, List.nil_append] at hM
            refine L1 (stv hA (by decide) (run_pick (hA.ev rfl) (fun h => Bool.noConfusion h) (fun _ => hA.ev rfl)) ?_)
            clear hA; intro a hA
            refine LQ ?_
            exact ⟨r488, Option.some.inj H483, hM, (((((hA.nil.cons (hA.get 41 _ rfl)).cons (hA.get 27 _ rfl)).cons (hA.get 26 _ rfl)).cons (hA.get 25 _ rfl)).cons (hA.get 1 _ rfl))⟩
        clear hM hA
        rintro a w491 ⟨t482, rfl, hM, hA⟩
        try dsimp only at H461
        refine TN ?_
        refine tcond (b := t482) hA rfl (fun hb492 => ?_) (fun hb492 => ?_)
        · replace H461 := ite_t hb492 H461
          refine wp_seq ?_
          refine wp_region_lit ?_
          refine L1 (stv hA (by decide) (run_assign (hA.ev rfl)) ?_)
          clear hA; intro a hA
          refine LQ ?_
          refine TN ?_
          refine wp_ret ?_
          obtain rfl := Option.some.inj H461
          dsimp only at H
          obtain rfl := Option.some.inj H
          refine BR ?_
          refine TR ?_
          refine TR ?_
          refine BR ?_
          refine TR ?_
          refine TR ?_
          exact ret_post1 (fn := Try.f30) hA rfl rfl ⟨_, rfl, rfl, (hM.sel [] rfl (by decide))⟩
        · replace H461 := ite_f hb492 H461
          refine wp_skip ?_
          refine BN ?_
          refine TN ?_
          refine wp_region_lit ?_
          refine L1 (stv hA (by decide) (run_bin (hA.ev rfl) (hA.ev rfl) (bin_add _ _ _ _)) ?_)
          clear hA; intro a hA
          refine L1 (stv hA (by decide) (run_move (hA.ev rfl)) ?_)
          clear hA; intro a hA
          refine LQ ?_
          exact ⟨_, Nat.lt_succ_self m463, IntKind.i64.wrap (t459 + 1), H461, hM, ((((hA.nil.cons (hA.get 27 _ rfl)).cons (hA.get 26 _ rfl)).cons (hA.get 25 _ rfl)).cons (hA.get 1 _ rfl))⟩
      · replace H461 := ite_f hb465 H461
        refine wp_exit ?_
        refine TX ?_
        refine TX ?_
        refine BX ?_
        exact ⟨Option.some.inj H461, hM, (hA.nil.cons (hA.get 1 _ rfl))⟩
    clear hM hA
    rintro a w493 ⟨rfl, hM, hA⟩
    try dsimp only at H
    refine TN ?_
    refine wp_seq ?_
    refine wp_region_lit ?_
    refine L1 (e_makeMap (m := ([] : List ((Vector Int 32) × Bool))) (ek := (fun x => (.agg (pHash.enc x).toArray))) (ev' := (fun x => (.bool x))) rfl hM hA (by decide) ?_)
    clear hM hA; intro w495 g494 hM hE  a hA
    refine L1 (stv hA (by decide) (run_assign (hA.ev rfl)) ?_)
    clear hA; intro a hA
    refine LQ ?_
    refine TN ?_
    refine wp_seq ?_
    refine wp_seq ?_
    obtain ⟨o558, H557, H⟩ := Option.bind_eq_some_iff.1 H
    refine cutC (fun a w => ∃ (xs553 : (List (Vector Int 32))) (t555 : Int) (v550 : Value), (xs553, t555) = o558 ∧ Mem F w0 w [.map g494 (mapE (fun x => (.agg (pHash.enc x).toArray)) (fun x => (.bool x)) ([] : List ((Vector Int 32) × Bool))), .row 34 pHash.sz v550 (pHash.flat xs553)] ∧ Has 61 [(5, (.map (some g494))), (49, v550), (50, (.int .i64 t555)), (51, (.int .i64 0))] a) ?_ ?_
    · obtain ⟨r560, H561, H557⟩ := Option.bind_eq_some_iff.1 H557
      obtain ⟨r569, H570, H557⟩ := Option.bind_eq_some_iff.1 H557
      refine draw (fun w' => Below w495.heap.size w495 w') [5] rfl ?_
      intro w575 hw hS; replace hM := hM.ext hS; clear hw
      refine d_takef (i := 2) (L' := #[false, false, true, false, false, false, false, false]) rfl (by kernel_rfl) rfl (fun _ _ _ h => h) hA (by decide) (fun _ => hS) (fun a w' hA => run_field' Try.underlying39 rfl rfl Try.sizeOf37 (by decide) (hA.ev rfl)) ?_; clear hA; intro a hA
      refine d_takef (i := 7) (L' := #[false, false, true, false, false, false, false, true]) rfl (by kernel_rfl) rfl (fun _ _ _ h => h) hA (by decide) (fun _ => hS) (fun a w' hA => run_move (hA.ev rfl)) ?_; clear hA; intro a hA
      refine d_many (is := [0, 3]) (by kernel_rfl) (by decide) ⟨?_, ?_, trivial⟩
      · refine d_op (i := 0) (L' := #[true, false, true, false, false, false, false, true]) rfl rfl (stv hA (by decide) (run_ld (hA.ev rfl) (run_loadW Try.isAgg39 Try.sizeOf39 (by simp [Pl.len]; try rfl) (hM.box (.s .z)))) ?_)
        clear hA; intro a hA
        refine ⟨fun _ => hS, ?_⟩
        refine d_many (is := [1, 3]) (by kernel_rfl) (by decide) ⟨?_, ?_, trivial⟩
        · refine d_op (i := 1) (L' := #[true, true, true, false, false, false, false, true]) rfl rfl (st_call Try.call39 hA [(.agg #[(.int .u32 r_0.Epoch), (.bool r_0.Diffuse), (.slice A0_2 r_0.Routes.length c0_2), (.slice A0_3 r_0.Stems.length c0_3), (.slice A0_4 r_0.Fluffed.length c0_4)])] rfl (by decide) (relay_stemmed.calls _ (Relay.mk r_0.Epoch r_0.Diffuse r_0.Routes r_0.Stems r_0.Fluffed) _ _ _ _ _ _ ((RoV.mk (hM.roC (Ms := []) hr0_2) (Eq.refl r_0.Routes.length) hc0_2)) ((RoV.mk (hM.roC (Ms := []) hr0_3) (Eq.refl r_0.Stems.length) hc0_3)) ((RoV.mk (hM.roC (Ms := []) hr0_4) (Eq.refl r_0.Fluffed.length) hc0_4)) (hM.front (Ms := [])) H561) ?_)
          clear hA; rintro _ w576 ⟨v577, rfl, hMc⟩ a hA
          have hE := hMc.below; have hM := hM.call (Ms := []) hMc
          have hlw578 : ∀ k, _ → w495.heap.size ≤ k := fun k hk => Nat.le_trans hS.size ((hMc.low _ (List.Mem.head _) k hk).resolve_right (by simp))
          clear hMc; simp only [List.cons_append, List.nil_append] at hM
          obtain ⟨A579, c580, rfl⟩ := RowOk.form (hM.row (p := pHash) .z)
          replace hS := hS.trans (hE.mono hS.size)
          refine ⟨fun _ => hS, ?_⟩
          refine d_one (i := 3) (L' := #[true, true, true, true, false, false, false, true]) (by kernel_rfl) rfl rfl (stv hA (by decide) (run_ld (hA.ev rfl) (run_loadS Try.isAgg37 (At.seg1 (hM.box (.s (.s .z))) 4 rfl))) ?_)
          clear hA; intro a hA
          refine ⟨fun _ => hS, ?_⟩
          refine d_one (i := 4) (L' := #[true, true, true, true, true, false, false, true]) (by kernel_rfl) rfl rfl (e_litW (cs := (List.flatten [[(.slice A579 r560.length c580)], [(.slice A0_4 r_0.Fluffed.length c0_4)]])) [(.slice A579 r560.length c580), (.slice A0_4 r_0.Fluffed.length c0_4)] Try.underlying80 zero37 Try.sizeOf37 hM rfl rfl rfl hA rfl (by simp [Value.cells, Pl.len]) (by simp [Value.cells]) (by decide) ?_)
          clear hM hA; intro w582 g581 hM hE  a hA
          replace hS := hS.trans (hE.mono hS.size)
          refine ⟨fun _ => hS, ?_⟩
          refine d_one (i := 5) (L' := #[true, true, true, true, true, true, false, true]) (by kernel_rfl) rfl rfl (st_call Try.call43 hA [(.slice (some ⟨g581, 0, none⟩) 2 2)] rfl (by decide) (slices_Concat_Hash.calls _ _ _ _ _ _ _ _ _ ((RoV.mk (hM.rowC (p := pHash) (Ms := [_]) .z) (RowOk.len (hM.row (p := pHash) (.s .z))) (RowOk.cap (hM.row (p := pHash) (.s .z))))) ((RoV.mk (hM.roC (Ms := [_]) hr0_4) (Eq.refl r_0.Fluffed.length) hc0_4)) (hM.front (Ms := [_])) H570) ?_)
          clear hA; rintro _ w583 ⟨v584, rfl, hMc⟩ a hA
          have hM := hM.call (Ms := [_]) hMc
          clear hMc; simp only [List.cons_append, List.nil_append] at hM
          obtain ⟨A585, c586, rfl⟩ := RowOk.form (hM.row (p := pHash) (.s .z))
          refine ⟨fun h => absurd h (by decide), ?_⟩
          refine d_takef (i := 6) (L' := #[true, true, true, true, true, true, true, true]) rfl (by kernel_rfl) rfl (fun _ _ _ h => h) hA (by decide) (fun h => absurd h (by decide)) (fun a w' hA => run_len_slice Try.underlying37 (hA.ev rfl)) ?_; clear hA; intro a hA
          refine d_done (by kernel_rfl) ?_
          exact ⟨r569, ((r569.length : Nat) : Int), (.slice A585 r569.length c586), Option.some.inj H557, (hM.sel [3, 1] rfl (by decide)), ((((hA.nil.cons (hA.get 51 _ rfl)).cons (hA.get 50 _ rfl)).cons (hA.get 49 _ rfl)).cons (hA.get 5 _ rfl))⟩
        · refine d_op (i := 3) (L' := #[true, false, true, true, false, false, false, true]) rfl rfl (stv hA (by decide) (run_ld (hA.ev rfl) (run_loadS Try.isAgg37 (At.seg1 (hM.box (.s .z)) 4 rfl))) ?_)
          clear hA; intro a hA
          refine ⟨fun _ => hS, ?_⟩
          refine d_one (i := 1) (L' := #[true, true, true, true, false, false, false, true]) (by kernel_rfl) rfl rfl (st_call Try.call39 hA [(.agg #[(.int .u32 r_0.Epoch), (.bool r_0.Diffuse), (.slice A0_2 r_0.Routes.length c0_2), (.slice A0_3 r_0.Stems.length c0_3), (.slice A0_4 r_0.Fluffed.length c0_4)])] rfl (by decide) (relay_stemmed.calls _ (Relay.mk r_0.Epoch r_0.Diffuse r_0.Routes r_0.Stems r_0.Fluffed) _ _ _ _ _ _ ((RoV.mk (hM.roC (Ms := []) hr0_2) (Eq.refl r_0.Routes.length) hc0_2)) ((RoV.mk (hM.roC (Ms := []) hr0_3) (Eq.refl r_0.Stems.length) hc0_3)) ((RoV.mk (hM.roC (Ms := []) hr0_4) (Eq.refl r_0.Fluffed.length) hc0_4)) (hM.front (Ms := [])) H561) ?_)
          clear hA; rintro _ w587 ⟨v588, rfl, hMc⟩ a hA
          have hE := hMc.below; have hM := hM.call (Ms := []) hMc
          have hlw589 : ∀ k, _ → w495.heap.size ≤ k := fun k hk => Nat.le_trans hS.size ((hMc.low _ (List.Mem.head _) k hk).resolve_right (by simp))
          clear hMc; simp only [List.cons_append, List.nil_append] at hM
          obtain ⟨A590, c591, rfl⟩ := RowOk.form (hM.row (p := pHash) .z)
          replace hS := hS.trans (hE.mono hS.size)
          refine ⟨fun _ => hS, ?_⟩
          refine d_one (i := 4) (L' := #[true, true, true, true, true, false, false, true]) (by kernel_rfl) rfl rfl (e_litW (cs := (List.flatten [[(.slice A590 r560.length c591)], [(.slice A0_4 r_0.Fluffed.length c0_4)]])) [(.slice A590 r560.length c591), (.slice A0_4 r_0.Fluffed.length c0_4)] Try.underlying80 zero37 Try.sizeOf37 hM rfl rfl rfl hA rfl (by simp [Value.cells, Pl.len]) (by simp [Value.cells]) (by decide) ?_)
          clear hM hA; intro w593 g592 hM hE  a hA
          replace hS := hS.trans (hE.mono hS.size)
          refine ⟨fun _ => hS, ?_⟩
          refine d_one (i := 5) (L' := #[true, true, true, true, true, true, false, true]) (by kernel_rfl) rfl rfl (st_call Try.call43 hA [(.slice (some ⟨g592, 0, none⟩) 2 2)] rfl (by decide) (slices_Concat_Hash.calls _ _ _ _ _ _ _ _ _ ((RoV.mk (hM.rowC (p := pHash) (Ms := [_]) .z) (RowOk.len (hM.row (p := pHash) (.s .z))) (RowOk.cap (hM.row (p := pHash) (.s .z))))) ((RoV.mk (hM.roC (Ms := [_]) hr0_4) (Eq.refl r_0.Fluffed.length) hc0_4)) (hM.front (Ms := [_])) H570) ?_)
          clear hA; rintro _ w594 ⟨v595, rfl, hMc⟩ a hA
          have hM := hM.call (Ms := [_]) hMc
          clear hMc; simp only [List.cons_append, List.nil_append] at hM
          obtain ⟨A596, c597, rfl⟩ := RowOk.form (hM.row (p := pHash) (.s .z))
          refine ⟨fun h => absurd h (by decide), ?_⟩
          refine d_takef (i := 6) (L' := #[true, true, true, true, true, true, true, true]) rfl (by kernel_rfl) rfl (fun _ _ _ h => h) hA (by decide) (fun h => absurd h (by decide)) (fun a w' hA => run_len_slice Try.underlying37 (hA.ev rfl)) ?_; clear hA; intro a hA
          refine d_done (by kernel_rfl) ?_
          exact ⟨r569, ((r569.length : Nat) : Int), (.slice A596 r569.length c597), Option.some.inj H557, (hM.sel [3, 1] rfl (by decide)), ((((hA.nil.cons (hA.get 51 _ rfl)).cons (hA.get 50 _ rfl)).cons (hA.get 49 _ rfl)).cons (hA.get 5 _ rfl))⟩
      · refine d_op (i := 3) (L' := #[false, false, true, true, false, false, false, true]) rfl rfl (stv hA (by decide) (run_ld (hA.ev rfl) (run_loadS Try.isAgg37 (At.seg1 (hM.box (.s .z)) 4 rfl))) ?_)
        clear hA; intro a hA
        refine ⟨fun _ => hS, ?_⟩
        refine d_one (i := 0) (L' := #[true, false, true, true, false, false, false, true]) (by kernel_rfl) rfl rfl (stv hA (by decide) (run_ld (hA.ev rfl) (run_loadW Try.isAgg39 Try.sizeOf39 (by simp [Pl.len]; try rfl) (hM.box (.s .z)))) ?_)
        clear hA; intro a hA
        refine ⟨fun _ => hS, ?_⟩
        refine d_one (i := 1) (L' := #[true, true, true, true, false, false, false, true]) (by kernel_rfl) rfl rfl (st_call Try.call39 hA [(.agg #[(.int .u32 r_0.Epoch), (.bool r_0.Diffuse), (.slice A0_2 r_0.Routes.length c0_2), (.slice A0_3 r_0.Stems.length c0_3), (.slice A0_4 r_0.Fluffed.length c0_4)])] rfl (by decide) (relay_stemmed.calls _ (Relay.mk r_0.Epoch r_0.Diffuse r_0.Routes r_0.Stems r_0.Fluffed) _ _ _ _ _ _ ((RoV.mk (hM.roC (Ms := []) hr0_2) (Eq.refl r_0.Routes.length) hc0_2)) ((RoV.mk (hM.roC (Ms := []) hr0_3) (Eq.refl r_0.Stems.length) hc0_3)) ((RoV.mk (hM.roC (Ms := []) hr0_4) (Eq.refl r_0.Fluffed.length) hc0_4)) (hM.front (Ms := [])) H561) ?_)
        clear hA; rintro _ w598 ⟨v599, rfl, hMc⟩ a hA
        have hE := hMc.below; have hM := hM.call (Ms := []) hMc
        have hlw600 : ∀ k, _ → w495.heap.size ≤ k := fun k hk => Nat.le_trans hS.size ((hMc.low _ (List.Mem.head _) k hk).resolve_right (by simp))
        clear hMc; simp only [List.cons_append, List.nil_append] at hM
        obtain ⟨A601, c602, rfl⟩ := RowOk.form (hM.row (p := pHash) .z)
        replace hS := hS.trans (hE.mono hS.size)
        refine ⟨fun _ => hS, ?_⟩
        refine d_one (i := 4) (L' := #[true, true, true, true, true, false, false, true]) (by kernel_rfl) rfl rfl (e_litW (cs := (List.flatten [[(.slice A601 r560.length c602)], [(.slice A0_4 r_0.Fluffed.length c0_4)]])) [(.slice A601 r560.length c602), (.slice A0_4 r_0.Fluffed.length c0_4)] Try.underlying80 zero37 Try.sizeOf37 hM rfl rfl rfl hA rfl (by simp [Value.cells, Pl.len]) (by simp [Value.cells]) (by decide) ?_)
        clear hM hA; intro w604 g603 hM hE  a hA
        replace hS := hS.trans (hE.mono hS.size)
        refine ⟨fun _ => hS, ?_⟩
        refine d_one (i := 5) (L' := #[true, true, true, true, true, true, false, true]) (by kernel_rfl) rfl rfl (st_call Try.call43 hA [(.slice (some ⟨g603, 0, none⟩) 2 2)] rfl (by decide) (slices_Concat_Hash.calls _ _ _ _ _ _ _ _ _ ((RoV.mk (hM.rowC (p := pHash) (Ms := [_]) .z) (RowOk.len (hM.row (p := pHash) (.s .z))) (RowOk.cap (hM.row (p := pHash) (.s .z))))) ((RoV.mk (hM.roC (Ms := [_]) hr0_4) (Eq.refl r_0.Fluffed.length) hc0_4)) (hM.front (Ms := [_])) H570) ?_)
        clear hA; rintro _ w605 ⟨v606, rfl, hMc⟩ a hA
        have hM := hM.call (Ms := [_]) hMc
        clear hMc; simp only [List.cons_append, List.nil_append] at hM
        obtain ⟨A607, c608, rfl⟩ := RowOk.form (hM.row (p := pHash) (.s .z))
        refine ⟨fun h => absurd h (by decide), ?_⟩
        refine d_takef (i := 6) (L' := #[true, true, true, true, true, true, true, true]) rfl (by kernel_rfl) rfl (fun _ _ _ h => h) hA (by decide) (fun h => absurd h (by decide)) (fun a w' hA => run_len_slice Try.underlying37 (hA.ev rfl)) ?_; clear hA; intro a hA
        refine d_done (by kernel_rfl) ?_
        exact ⟨r569, ((r569.length : Nat) : Int), (.slice A607 r569.length c608), Option.some.inj H557, (hM.sel [3, 1] rfl (by decide)), ((((hA.nil.cons (hA.get 51 _ rfl)).cons (hA.get 50 _ rfl)).cons (hA.get 49 _ rfl)).cons (hA.get 5 _ rfl))⟩
    clear hM hA
    rintro a w609 ⟨xs553, t555, v550, rfl, hM, hA⟩
    try dsimp only at H
    obtain ⟨A551, c552, rfl⟩ := RowOk.form (hM.row (p := pHash) (.s .z))
    refine TN ?_
    obtain ⟨o669, H668, H⟩ := Option.bind_eq_some_iff.1 H
    refine cutC (fun a w => (.go ()) = o669 ∧ Mem F w0 w [] ∧ Has 61 [] a) ?_ ?_
    · refine wp_block ?_
      refine wp_loop_ghost (fun m a w => ∃ (mp663 : (List ((Vector Int 32) × Bool))) (t667 : Int), relay_sound.l1 xs553 t555 m mp663 t667 = some o669 ∧ Mem F w0 w [.map g494 (mapE (fun x => (.agg (pHash.enc x).toArray)) (fun x => (.bool x)) mp663), .row 34 pHash.sz (.slice A551 xs553.length c552) (pHash.flat xs553)] ∧ Has 61 [(5, (.map (some g494))), (49, (.slice A551 xs553.length c552)), (50, (.int .i64 t555)), (51, (.int .i64 t667))] a) k ⟨([] : List ((Vector Int 32) × Bool)), 0, H668, hM, ((((hA.nil.cons (hA.get 51 _ rfl)).cons (hA.get 50 _ rfl)).cons (hA.get 49 _ rfl)).cons (hA.get 5 _ rfl))⟩ ?_
      clear hM hA; rintro m670 a w671 ⟨mp663, t667, H668, hM, hA⟩
      cases m670 with
      | zero => exact absurd H668 (by simp [relay_sound.l1])
      | succ m670 =>
      rw [relay_sound.l1] at H668
      refine wp_seq ?_
      refine wp_region_lit ?_
      refine L1 (stv hA (by decide) (run_bin (hA.ev rfl) (hA.ev rfl) (bin_lss _ _ _ _)) ?_)
      clear hA; intro a hA
      refine LQ ?_
      refine TN ?_
      refine wp_seq ?_
      refine tcond (b := (decide (t667 < t555))) hA rfl (fun hb672 => ?_) (fun hb672 => ?_)
      · replace H668 := ite_t hb672 H668
        refine wp_skip ?_
        refine TN ?_
        refine wp_seq ?_
        refine wp_block ?_
        refine wp_seq ?_
        refine wp_region_lit ?_
        obtain ⟨⟨hi673, hj674⟩, H668⟩ := ite_some H668
        obtain ⟨ad675, hq676, hat677⟩ := Row.elem' (p := pHash) (RowOk.row (hM.row (p := pHash) (.s .z))) (RowOk.len (hM.row (p := pHash) (.s .z))) (Vector.replicate 32 0 : Vector Int 32) t667 hi673 hj674
        refine L1 (stv hA (by decide) (run_idx Try.underlying37 Try.sizeOf34 (hA.ev rfl) hq676 (hA.ev rfl) hi673 hj674) ?_)
        clear hA; intro a hA
        refine L1 (stv hA (by decide) (run_ld (hA.ev rfl) (run_loadP Try.isAgg34 Try.sizeOf34 hat677)) ?_)
        clear hA; intro a hA
        refine L1 (e_alloc (cs := (pHash.enc (Vector.replicate 32 0 : Vector Int 32))) hM zero34 rfl hA (by decide) ?_)
        clear hM hA; intro w679 g678 hM hE  a hA
        refine L1 (e_store (g := g678) (off := 0) (cur := (pHash.enc (Vector.replicate 32 0 : Vector Int 32))) (cs' := (pHash.enc (xs553.getD t667.toNat (Vector.replicate 32 0 : Vector Int 32)))) hM .z Try.sizeOf34 hA rfl (by simp [add_mk]) rfl (agg_size _ _) (agg_one _ _) (Nat.le_of_ble_eq_true (enc_fitL _ _ rfl)) (spl_all (by first | rfl | simp [Value.cells, Pl.len])) ?_)
        clear hM hA; intro w681  hM hE  a hA
        refine LQ ?_
        refine TN ?_
        refine wp_seq ?_
        refine wp_seq ?_
        refine wp_region_lit ?_
        refine L1 (stv hA (by decide) (run_move (hA.ev rfl)) ?_)
        clear hA; intro a hA
        refine L1 (stv hA (by decide) (run_ld (hA.ev rfl) (run_loadP Try.isAgg34 Try.sizeOf34 (hM.box .z))) ?_)
        clear hA; intro a hA
        refine L1 (stv hA (by decide) (run_look1 (m := mp663) (k := (xs553.getD t667.toNat (Vector.replicate 32 0 : Vector Int 32))) (z := false) (ev' := (fun x => (.bool x))) (key34) Try.underlying73 zero4 rfl (hA.ev rfl) (hA.ev rfl) (hM.map (.s .z))) ?_)
        clear hA; intro a hA
        refine LQ ?_
        refine TN ?_
        refine tcond (b := ((mget mp663 (xs553.getD t667.toNat (Vector.replicate 32 0 : Vector Int 32))).getD false)) hA rfl (fun hb682 => ?_) (fun hb682 => ?_)
        · replace H668 := ite_t hb682 H668
          refine wp_seq ?_
          refine wp_region_lit ?_
          refine L1 (stv hA (by decide) (run_assign (hA.ev rfl)) ?_)
          clear hA; intro a hA
          refine LQ ?_
          refine TN ?_
          refine wp_ret ?_
          obtain rfl := Option.some.inj H668
          dsimp only at H
          obtain rfl := Option.some.inj H
          refine TR ?_
          refine BR ?_
          refine TR ?_
          refine TR ?_
          refine BR ?_
          refine TR ?_
          refine TR ?_
          exact ret_post1 (fn := Try.f30) hA rfl rfl ⟨_, rfl, rfl, (hM.sel [] rfl (by decide))⟩
        · replace H668 := ite_f hb682 H668
          refine wp_skip ?_
          refine TN ?_
          refine wp_region_lit ?_
          refine L1 (stv hA (by decide) (run_move (hA.ev rfl)) ?_)
          clear hA; intro a hA
          refine L1 (stv hA (by decide) (run_ld (hA.ev rfl) (run_loadP Try.isAgg34 Try.sizeOf34 (hM.box .z))) ?_)
          clear hA; intro a hA
          refine L1 (e_mapput (m := mp663) (k := (xs553.getD t667.toNat (Vector.replicate 32 0 : Vector Int 32))) (v := true) (ev' := (fun x => (.bool x))) (key34) Try.underlying73 hM (.s .z) hA rfl rfl rfl ?_)
          clear hM hA; intro w683  hM hE  a hA
          refine LQ ?_
          refine BN ?_
          refine TN ?_
          refine wp_region_lit ?_
          refine L1 (stv hA (by decide) (run_bin (hA.ev rfl) (hA.ev rfl) (bin_add _ _ _ _)) ?_)
          clear hA; intro a hA
          refine L1 (stv hA (by decide) (run_move (hA.ev rfl)) ?_)
          clear hA; intro a hA
          refine LQ ?_
          exact ⟨_, Nat.lt_succ_self m670, (mput mp663 (xs553.getD t667.toNat (Vector.replicate 32 0 : Vector Int 32)) true), IntKind.i64.wrap (t667 + 1), H668, (hM.sel [1, 2] rfl (by decide)), ((((hA.nil.cons (hA.get 51 _ rfl)).cons (hA.get 50 _ rfl)).cons (hA.get 49 _ rfl)).cons (hA.get 5 _ rfl))⟩
      · replace H668 := ite_f hb672 H668
        refine wp_exit ?_
        refine TX ?_
        refine TX ?_
        refine BX ?_
        exact ⟨Option.some.inj H668, (hM.sel [] rfl (by decide)), hA.nil⟩
    clear hM hA
    rintro a w684 ⟨rfl, hM, hA⟩
    try dsimp only at H
    refine TN ?_
    refine wp_seq ?_
    refine wp_region_lit ?_
    refine L1 (stv hA (by decide) (run_assign (hA.ev rfl)) ?_)
    clear hA; intro a hA
    refine LQ ?_
    refine TN ?_
    refine wp_ret ?_
    obtain rfl := Option.some.inj H
    exact ret_post1 (fn := Try.f30) hA rfl rfl ⟨_, rfl, rfl, hM⟩

def slices_Index_Hash.l0 (s_0 : (List (Vector Int 32))) (v_1 : (Vector Int 32)) : Nat → Int → Option (Out Int (Unit))
  | 0, _ => none
  | k + 1, t112 => (if (decide (t112 < ((s_0.length : Nat) : Int))) = true then (if 0 ≤ t112 ∧ t112 < ((s_0.length : Nat) : Int) then (if (v_1 == (s_0.getD t112.toNat (Vector.replicate 32 0 : Vector Int 32))) = true then (some (.ret t112)) else (slices_Index_Hash.l0 s_0 v_1 k (IntKind.i64.wrap (t112 + 1)))) else none) else (some (.go ())))
def slices_Index_Hash.f (k : Nat) (s_0 : (List (Vector Int 32))) (v_1 : (Vector Int 32)) : Option Int := (Option.bind (α := Out Int (Unit)) (slices_Index_Hash.l0 s_0 v_1 k 0) (fun o => match o with | .ret r => some r | .go _ => (some (-1))))
set_option maxRecDepth 100000 in
theorem slices_Index_Hash.calls (k : Nat) (s_0 : (List (Vector Int 32))) (v_1 : (Vector Int 32)) (F : List (Option Nat)) (v0 : Value) (r : Int) (w0 : World) (h0 : RoV F pHash w0 v0 s_0) (hM : Mem F w0 w0 []) (H : slices_Index_Hash.f k s_0 v_1 = some r) :
    Calls Try.prog 44 #[v0, (.agg (pHash.enc v_1).toArray)] w0 fun e w' => ∃ v, e = .returned v ∧ v = (.int .i64 r) ∧ Mem F w0 w' [] := by
  unfold slices_Index_Hash.f at H
  obtain ⟨A0, c0, rfl, hr0, hc0⟩ := h0
  refine enterL (n := 19) [(.slice A0 s_0.length c0), (.agg (pHash.enc v_1).toArray)] Try.func44 rfl rfl rfl ?_
  intro a hA
  refine wp_seq ?_
  refine wp_region_lit ?_
  refine L1 (e_box (cs := (pHash.enc v_1)) hM hA rfl rfl (by decide) ?_)
  clear hM hA; intro w65 g64 hM hE  a hA
  refine L1 (stv hA (by decide) (run_assign (hA.ev rfl)) ?_)
  clear hA; intro a hA
  refine LQ ?_
  refine TN ?_
  refine wp_seq ?_
  refine wp_seq ?_
  refine wp_region_lit ?_
  refine L1 (stv hA (by decide) (run_move (hA.ev rfl)) ?_)
  clear hA; intro a hA
  refine L1 (stv hA (by decide) (run_len_slice Try.underlying37 (hA.ev rfl)) ?_)
  clear hA; intro a hA
  refine L1 (stv hA (by decide) (run_move (hA.ev rfl)) ?_)
  clear hA; intro a hA
  refine LQ ?_
  refine TN ?_
  obtain ⟨o114, H113, H⟩ := Option.bind_eq_some_iff.1 H
  refine cutC (fun a w => (.go ()) = o114 ∧ Mem F w0 w [] ∧ Has 19 [] a) ?_ ?_
  · refine wp_block ?_
    refine wp_loop_ghost (fun m a w => ∃ (t112 : Int), slices_Index_Hash.l0 s_0 v_1 m t112 = some o114 ∧ Mem F w0 w [.box g64 34 (pHash.enc v_1)] ∧ Has 19 [(0, (.slice A0 s_0.length c0)), (3, (.pointer (some (⟨g64, 0, none⟩)))), (7, (.int .i64 ((s_0.length : Nat) : Int))), (8, (.int .i64 t112))] a) k ⟨0, H113, hM, ((((hA.nil.cons (hA.get 8 _ rfl)).cons (hA.get 7 _ rfl)).cons (hA.get 3 _ rfl)).cons (hA.get 0 _ rfl))⟩ ?_
    clear hM hA; rintro m115 a w116 ⟨t112, H113, hM, hA⟩
    cases m115 with
    | zero => exact absurd H113 (by simp [slices_Index_Hash.l0])
    | succ m115 =>
    rw [slices_Index_Hash.l0] at H113
    refine wp_seq ?_
    refine wp_region_lit ?_
    refine L1 (stv hA (by decide) (run_bin (hA.ev rfl) (hA.ev rfl) (bin_lss _ _ _ _)) ?_)
    clear hA; intro a hA
    refine LQ ?_
    refine TN ?_
    refine wp_seq ?_
    refine tcond (b := (decide (t112 < ((s_0.length : Nat) : Int)))) hA rfl (fun hb117 => ?_) (fun hb117 => ?_)
    · replace H113 := ite_t hb117 H113
      refine wp_skip ?_
      refine TN ?_
      refine wp_seq ?_
      refine wp_block ?_
      refine wp_seq ?_
      refine wp_region_lit ?_
      refine L1 (stv hA (by decide) (run_move (hA.ev rfl)) ?_)
      clear hA; intro a hA
      refine L1 (stv hA (by decide) (run_assign (hA.ev rfl)) ?_)
      clear hA; intro a hA
      refine LQ ?_
      refine TN ?_
      refine wp_seq ?_
      refine draw (fun w' => Below w116.heap.size w116 w') [] rfl ?_
      intro w118 hw hS; replace hM := hM.ext hS; clear hw
      refine rebase hS ?_; clear hS; intro hS
      refine d_take (i := 0) (L' := #[true, false, false, false, false, false]) rfl (by kernel_rfl) rfl (fun _ _ _ h => h) hA (by decide) rfl hS (fun a w' hA hS' => run_ld (hA.ev rfl) (run_loadP Try.isAgg34 Try.sizeOf34 ((hM.box .z).extB hS'))) ?_; clear hA; intro a hA
      refine d_takef (i := 1) (L' := #[true, true, false, false, false, false]) rfl (by kernel_rfl) rfl (fun _ _ _ h => h) hA (by decide) (fun _ => hS) (fun a w' hA => run_move (hA.ev rfl)) ?_; clear hA; intro a hA
      refine d_takef (i := 2) (L' := #[true, true, true, false, false, false]) rfl (by kernel_rfl) rfl (fun _ _ _ h => h) hA (by decide) (fun _ => hS) (fun a w' hA => run_move (hA.ev rfl)) ?_; clear hA; intro a hA
      obtain ⟨⟨hi120, hj121⟩, H113⟩ := ite_some H113
      obtain ⟨ad122, hq123, hat124⟩ := Row.elem' (p := pHash) (hM.ro hr0) (Eq.refl s_0.length) (Vector.replicate 32 0 : Vector Int 32) t112 hi120 hj121
      refine d_takef (i := 3) (L' := #[true, true, true, true, false, false]) rfl (by kernel_rfl) rfl (fun _ _ _ h => h) hA (by decide) (fun _ => hS) (fun a w' hA => run_idx Try.underlying37 Try.sizeOf34 (hA.ev rfl) hq123 (hA.ev rfl) hi120 hj121) ?_; clear hA; intro a hA
      refine d_take (i := 4) (L' := #[true, true, true, true, true, false]) rfl (by kernel_rfl) rfl (fun _ _ _ h => h) hA (by decide) rfl hS (fun a w' hA hS' => run_ld (hA.ev rfl) (run_loadP Try.isAgg34 Try.sizeOf34 ((hat124).extB hS'))) ?_; clear hA; intro a hA
      refine d_takef (i := 5) (L' := #[true, true, true, true, true, true]) rfl (by kernel_rfl) rfl (fun _ _ _ h => h) hA (by decide) (fun _ => hS) (fun a w' hA => run_aggeql eq_Hash rfl (by kernel_rfl) (hA.ev rfl) (hA.ev rfl)) ?_; clear hA; intro a hA
      refine d_done (by kernel_rfl) ?_
      refine TN ?_
      refine tcond (b := (v_1 == (s_0.getD t112.toNat (Vector.replicate 32 0 : Vector Int 32)))) hA rfl (fun hb125 => ?_) (fun hb125 => ?_)
      · replace H113 := ite_t hb125 H113
        refine wp_seq ?_
        refine wp_region_lit ?_
        refine L1 (stv hA (by decide) (run_move (hA.ev rfl)) ?_)
        clear hA; intro a hA
        refine L1 (stv hA (by decide) (run_assign (hA.ev rfl)) ?_)
        clear hA; intro a hA
        refine LQ ?_
        refine TN ?_
        refine wp_ret ?_
        obtain rfl := Option.some.inj H113
        dsimp only at H
        obtain rfl := Option.some.inj H
        refine BR ?_
        refine TR ?_
        refine TR ?_
        refine BR ?_
        refine TR ?_
        refine TR ?_
        exact ret_post1 (fn := Try.f44) hA rfl rfl ⟨_, rfl, rfl, (hM.sel [] rfl (by decide))⟩
      · replace H113 := ite_f hb125 H113
        refine wp_skip ?_
        refine BN ?_
        refine TN ?_
        refine wp_region_lit ?_
        refine L1 (stv hA (by decide) (run_bin (hA.ev rfl) (hA.ev rfl) (bin_add _ _ _ _)) ?_)
        clear hA; intro a hA
        refine L1 (stv hA (by decide) (run_move (hA.ev rfl)) ?_)
        clear hA; intro a hA
        refine LQ ?_
        exact ⟨_, Nat.lt_succ_self m115, IntKind.i64.wrap (t112 + 1), H113, hM, ((((hA.nil.cons (hA.get 8 _ rfl)).cons (hA.get 7 _ rfl)).cons (hA.get 3 _ rfl)).cons (hA.get 0 _ rfl))⟩
    · replace H113 := ite_f hb117 H113
      refine wp_exit ?_
      refine TX ?_
      refine TX ?_
      refine BX ?_
      exact ⟨Option.some.inj H113, (hM.sel [] rfl (by decide)), hA.nil⟩
  clear hM hA
  rintro a w126 ⟨rfl, hM, hA⟩
  try dsimp only at H
  refine TN ?_
  refine wp_seq ?_
  refine wp_region_lit ?_
  refine L1 (stv hA (by decide) (run_assign (hA.ev rfl)) ?_)
  clear hA; intro a hA
  refine LQ ?_
  refine TN ?_
  refine wp_ret ?_
  obtain rfl := Option.some.inj H
  exact ret_post1 (fn := Try.f44) hA rfl rfl ⟨_, rfl, rfl, hM⟩

def slices_Contains_Hash.f (k : Nat) (s_0 : (List (Vector Int 32))) (v_1 : (Vector Int 32)) : Option Bool := ((slices_Index_Hash.f k s_0 v_1).bind fun r10 => (some (decide (r10 ≥ 0))))
set_option maxRecDepth 100000 in
theorem slices_Contains_Hash.calls (k : Nat) (s_0 : (List (Vector Int 32))) (v_1 : (Vector Int 32)) (F : List (Option Nat)) (v0 : Value) (r : Bool) (w0 : World) (h0 : RoV F pHash w0 v0 s_0) (hM : Mem F w0 w0 []) (H : slices_Contains_Hash.f k s_0 v_1 = some r) :
    Calls Try.prog 31 #[v0, (.agg (pHash.enc v_1).toArray)] w0 fun e w' => ∃ v, e = .returned v ∧ v = (.bool r) ∧ Mem F w0 w' [] := by
  unfold slices_Contains_Hash.f at H
  obtain ⟨A0, c0, rfl, hr0, hc0⟩ := h0
  refine enterL (n := 9) [(.slice A0 s_0.length c0), (.agg (pHash.enc v_1).toArray)] Try.func31 rfl rfl rfl ?_
  intro a hA
  refine wp_seq ?_
  refine wp_region_lit ?_
  refine L1 (e_box (cs := (pHash.enc v_1)) hM hA rfl rfl (by decide) ?_)
  clear hM hA; intro w8 g7 hM hE  a hA
  refine L1 (stv hA (by decide) (run_assign (hA.ev rfl)) ?_)
  clear hA; intro a hA
  refine LQ ?_
  refine TN ?_
  refine wp_seq ?_
  refine wp_region_lit ?_
  refine L1 (stv hA (by decide) (run_move (hA.ev rfl)) ?_)
  clear hA; intro a hA
  refine L1 (stv hA (by decide) (run_ld (hA.ev rfl) (run_loadP Try.isAgg34 Try.sizeOf34 (hM.box .z))) ?_)
  clear hA; intro a hA
  obtain ⟨r10, H11, H⟩ := Option.bind_eq_some_iff.1 H
  refine L1 (st_call Try.call44 hA [(.slice A0 s_0.length c0), (.agg (pHash.enc v_1).toArray)] rfl (by decide) (slices_Index_Hash.calls _ _ _ _ _ _ _ ((RoV.mk (hM.roC (Ms := []) hr0) (Eq.refl s_0.length) hc0)) (hM.front (Ms := [])) H11) ?_)
  clear hA; rintro _ w12 ⟨rfl, hMc⟩ a hA
  have hE := hMc.below; have hM := hM.call (Ms := []) hMc
  clear hMc; simp only [List.cons_append, List.nil_append] at hM
  refine L1 (stv hA (by decide) (run_bin (hA.ev rfl) (hA.ev rfl) (bin_geq _ _ _ _)) ?_)
  clear hA; intro a hA
  refine L1 (stv hA (by decide) (run_assign (hA.ev rfl)) ?_)
  clear hA; intro a hA
  refine LQ ?_
  refine TN ?_
  refine wp_ret ?_
  obtain rfl := Option.some.inj H
  exact ret_post1 (fn := Try.f31) hA rfl rfl ⟨_, rfl, rfl, (hM.sel [] rfl (by decide))⟩

def slices_Clone_intN.f (k : Nat) (s_0 : (List Int)) (nl0 : Bool) : Option (List Int) := (if nl0 = true then (some ([] : List Int)) else (if (0 + s_0.length) * 8 ≤ 140737488355328 then (some (([] : List Int) ++ s_0)) else none))
set_option maxRecDepth 100000 in
theorem slices_Clone_intN.calls (k : Nat) (s_0 : (List Int)) (nl0 : Bool) (F : List (Option Nat)) (v0 : Value) (r : (List Int)) (w0 : World) (h0 : RoV F (Pl.int .i64) w0 v0 s_0) (hnl0 : ∀ A q c, v0 = .slice A q c → A.isNone = nl0) (hM : Mem F w0 w0 []) (H : slices_Clone_intN.f k s_0 nl0 = some r) :
    Calls Try.prog 45 #[v0] w0 fun e w' => ∃ v, e = .returned v ∧ ∃ (ur_0 : Value), v = ur_0 ∧ Mem F w0 w' [.row 3 (Pl.int .i64).sz ur_0 ((Pl.int .i64).flat r)] := by
  unfold slices_Clone_intN.f at H
  obtain ⟨A0, c0, rfl, hr0, hc0⟩ := h0
  have hn0 := hnl0 _ _ _ rfl
  refine enterL (n := 8) [(.slice A0 s_0.length c0)] Try.func45 rfl rfl rfl ?_
  intro a hA
  refine wp_seq ?_
  refine wp_region_lit ?_
  refine L1 (stv hA (by decide) (run_assign (hA.ev rfl)) ?_)
  clear hA; intro a hA
  refine LQ ?_
  refine TN ?_
  refine wp_seq ?_
  refine wp_seq ?_
  refine wp_region_lit ?_
  refine L1 (stv hA (by decide) (run_move (hA.ev rfl)) ?_)
  clear hA; intro a hA
  refine L1 (stv hA (by decide) (run_slnil Try.underlying22 (hA.ev rfl) (hA.ev rfl) hn0) ?_)
  clear hA; intro a hA
  refine LQ ?_
  refine TN ?_
  refine tcond (b := nl0) hA rfl (fun hb9 => ?_) (fun hb9 => ?_)
  · replace H := ite_t hb9 H
    refine wp_seq ?_
    refine wp_region_lit ?_
    refine L1 (stv hA (by decide) (run_assign (hA.ev rfl)) ?_)
    clear hA; intro a hA
    refine LQ ?_
    refine TN ?_
    refine wp_ret ?_
    have hM := hM.addnil 3 ((Pl.int .i64)).sz
    obtain rfl := Option.some.inj H
    refine TR ?_
    exact ret_post1 (fn := Try.f45) hA rfl rfl ⟨_, rfl, (.slice none 0 0), rfl, hM⟩
  · replace H := ite_f hb9 H
    refine wp_skip ?_
    refine TN ?_
    refine wp_seq ?_
    refine wp_region_lit ?_
    refine L1 (e_lit0 elt22 hM hA (by decide) ?_)
    clear hM hA; intro w12 g11 hM hE  a hA
    refine L1 (stv hA (by decide) (run_move (hA.ev rfl)) ?_)
    clear hA; intro a hA
    obtain ⟨hl16, H⟩ := ite_some H
    refine L1 (e_append elt22 hM (fun _ => .z) (Src.row Try.underlying22 (hM.ro hr0) (Eq.refl s_0.length)) hl16 hA rfl rfl (by decide) ?_)
    clear hM hA; intro w17 A14 c15 hM hE  a hA
    refine L1 (stv hA (by decide) (run_assign (hA.ev rfl)) ?_)
    clear hA; intro a hA
    refine LQ ?_
    refine TN ?_
    refine wp_ret ?_
    obtain rfl := Option.some.inj H
    exact ret_post1 (fn := Try.f45) hA rfl rfl ⟨_, rfl, (.slice A14 (0 + s_0.length) c15), rfl, hM⟩

def slices_Clone_int.f (k : Nat) (s_0 : (List Int)) : Option (List Int) := (if s_0.length * 8 ≤ 140737488355328 then (some s_0) else none)
theorem slices_Clone_int.calls (k : Nat) (s_0 : (List Int)) (F : List (Option Nat)) (v0 : Value) (r : (List Int)) (w0 : World) (h0 : RoV F (Pl.int .i64) w0 v0 s_0) (hM : Mem F w0 w0 []) (H : slices_Clone_int.f k s_0 = some r) :
    Calls Try.prog 45 #[v0] w0 fun e w' => ∃ v, e = .returned v ∧ ∃ (ur_0 : Value), v = ur_0 ∧ Mem F w0 w' [.row 3 (Pl.int .i64).sz ur_0 ((Pl.int .i64).flat r)] := by
  obtain ⟨A, c, rfl, hr, hc⟩ := h0
  refine slices_Clone_intN.calls k s_0 A.isNone F _ r w0 ⟨A, c, rfl, hr, hc⟩ (fun A' q c' e => by cases e; rfl) hM ?_
  unfold slices_Clone_int.f at H
  unfold slices_Clone_intN.f
  cases A with
  | none =>
    have e : s_0 = [] := hr.1.1 rfl
    subst e
    simpa using H
  | some ad => simpa using H

def slices_Clone_StemN.f (k : Nat) (s_0 : (List Stem)) (nl0 : Bool) : Option (List Stem) := (if nl0 = true then (some ([] : List Stem)) else (if (0 + s_0.length) * 56 ≤ 140737488355328 then (some (([] : List Stem) ++ s_0)) else none))
set_option maxRecDepth 100000 in
theorem slices_Clone_StemN.calls (k : Nat) (s_0 : (List Stem)) (nl0 : Bool) (F : List (Option Nat)) (v0 : Value) (r : (List Stem)) (w0 : World) (h0 : RoV F pStem w0 v0 s_0) (hnl0 : ∀ A q c, v0 = .slice A q c → A.isNone = nl0) (hM : Mem F w0 w0 []) (H : slices_Clone_StemN.f k s_0 nl0 = some r) :
    Calls Try.prog 46 #[v0] w0 fun e w' => ∃ v, e = .returned v ∧ ∃ (ur_0 : Value), v = ur_0 ∧ Mem F w0 w' [.row 61 pStem.sz ur_0 (pStem.flat r)] := by
  unfold slices_Clone_StemN.f at H
  obtain ⟨A0, c0, rfl, hr0, hc0⟩ := h0
  have hn0 := hnl0 _ _ _ rfl
  refine enterL (n := 8) [(.slice A0 s_0.length c0)] Try.func46 rfl rfl rfl ?_
  intro a hA
  refine wp_seq ?_
  refine wp_region_lit ?_
  refine L1 (stv hA (by decide) (run_assign (hA.ev rfl)) ?_)
  clear hA; intro a hA
  refine LQ ?_
  refine TN ?_
  refine wp_seq ?_
  refine wp_seq ?_
  refine wp_region_lit ?_
  refine L1 (stv hA (by decide) (run_move (hA.ev rfl)) ?_)
  clear hA; intro a hA
  refine L1 (stv hA (by decide) (run_slnil Try.underlying36 (hA.ev rfl) (hA.ev rfl) hn0) ?_)
  clear hA; intro a hA
  refine LQ ?_
  refine TN ?_
  refine tcond (b := nl0) hA rfl (fun hb9 => ?_) (fun hb9 => ?_)
  · replace H := ite_t hb9 H
    refine wp_seq ?_
    refine wp_region_lit ?_
    refine L1 (stv hA (by decide) (run_assign (hA.ev rfl)) ?_)
    clear hA; intro a hA
    refine LQ ?_
    refine TN ?_
    refine wp_ret ?_
    have hM := hM.addnil 61 (pStem).sz
    obtain rfl := Option.some.inj H
    refine TR ?_
    exact ret_post1 (fn := Try.f46) hA rfl rfl ⟨_, rfl, (.slice none 0 0), rfl, hM⟩
  · replace H := ite_f hb9 H
    refine wp_skip ?_
    refine TN ?_
    refine wp_seq ?_
    refine wp_region_lit ?_
    refine L1 (e_lit0 elt36 hM hA (by decide) ?_)
    clear hM hA; intro w12 g11 hM hE  a hA
    refine L1 (stv hA (by decide) (run_move (hA.ev rfl)) ?_)
    clear hA; intro a hA
    obtain ⟨hl16, H⟩ := ite_some H
    refine L1 (e_append elt36 hM (fun _ => .z) (Src.row Try.underlying36 (hM.ro hr0) (Eq.refl s_0.length)) hl16 hA rfl rfl (by decide) ?_)
    clear hM hA; intro w17 A14 c15 hM hE  a hA
    refine L1 (stv hA (by decide) (run_assign (hA.ev rfl)) ?_)
    clear hA; intro a hA
    refine LQ ?_
    refine TN ?_
    refine wp_ret ?_
    obtain rfl := Option.some.inj H
    exact ret_post1 (fn := Try.f46) hA rfl rfl ⟨_, rfl, (.slice A14 (0 + s_0.length) c15), rfl, hM⟩

def slices_Clone_Stem.f (k : Nat) (s_0 : (List Stem)) : Option (List Stem) := (if s_0.length * 56 ≤ 140737488355328 then (some s_0) else none)
theorem slices_Clone_Stem.calls (k : Nat) (s_0 : (List Stem)) (F : List (Option Nat)) (v0 : Value) (r : (List Stem)) (w0 : World) (h0 : RoV F pStem w0 v0 s_0) (hM : Mem F w0 w0 []) (H : slices_Clone_Stem.f k s_0 = some r) :
    Calls Try.prog 46 #[v0] w0 fun e w' => ∃ v, e = .returned v ∧ ∃ (ur_0 : Value), v = ur_0 ∧ Mem F w0 w' [.row 61 pStem.sz ur_0 (pStem.flat r)] := by
  obtain ⟨A, c, rfl, hr, hc⟩ := h0
  refine slices_Clone_StemN.calls k s_0 A.isNone F _ r w0 ⟨A, c, rfl, hr, hc⟩ (fun A' q c' e => by cases e; rfl) hM ?_
  unfold slices_Clone_Stem.f at H
  unfold slices_Clone_StemN.f
  cases A with
  | none =>
    have e : s_0 = [] := hr.1.1 rfl
    subst e
    simpa using H
  | some ad => simpa using H

def slices_Clone_HashN.f (k : Nat) (s_0 : (List (Vector Int 32))) (nl0 : Bool) : Option (List (Vector Int 32)) := (if nl0 = true then (some ([] : List (Vector Int 32))) else (if (0 + s_0.length) * 32 ≤ 140737488355328 then (some (([] : List (Vector Int 32)) ++ s_0)) else none))
set_option maxRecDepth 100000 in
theorem slices_Clone_HashN.calls (k : Nat) (s_0 : (List (Vector Int 32))) (nl0 : Bool) (F : List (Option Nat)) (v0 : Value) (r : (List (Vector Int 32))) (w0 : World) (h0 : RoV F pHash w0 v0 s_0) (hnl0 : ∀ A q c, v0 = .slice A q c → A.isNone = nl0) (hM : Mem F w0 w0 []) (H : slices_Clone_HashN.f k s_0 nl0 = some r) :
    Calls Try.prog 47 #[v0] w0 fun e w' => ∃ v, e = .returned v ∧ ∃ (ur_0 : Value), v = ur_0 ∧ Mem F w0 w' [.row 34 pHash.sz ur_0 (pHash.flat r)] := by
  unfold slices_Clone_HashN.f at H
  obtain ⟨A0, c0, rfl, hr0, hc0⟩ := h0
  have hn0 := hnl0 _ _ _ rfl
  refine enterL (n := 8) [(.slice A0 s_0.length c0)] Try.func47 rfl rfl rfl ?_
  intro a hA
  refine wp_seq ?_
  refine wp_region_lit ?_
  refine L1 (stv hA (by decide) (run_assign (hA.ev rfl)) ?_)
  clear hA; intro a hA
  refine LQ ?_
  refine TN ?_
  refine wp_seq ?_
  refine wp_seq ?_
  refine wp_region_lit ?_
  refine L1 (stv hA (by decide) (run_move (hA.ev rfl)) ?_)
  clear hA; intro a hA
  refine L1 (stv hA (by decide) (run_slnil Try.underlying37 (hA.ev rfl) (hA.ev rfl) hn0) ?_)
  clear hA; intro a hA
  refine LQ ?_
  refine TN ?_
  refine tcond (b := nl0) hA rfl (fun hb9 => ?_) (fun hb9 => ?_)
  · replace H := ite_t hb9 H
    refine wp_seq ?_
    refine wp_region_lit ?_
    refine L1 (stv hA (by decide) (run_assign (hA.ev rfl)) ?_)
    clear hA; intro a hA
    refine LQ ?_
    refine TN ?_
    refine wp_ret ?_
    have hM := hM.addnil 34 (pHash).sz
    obtain rfl := Option.some.inj H
    refine TR ?_
    exact ret_post1 (fn := Try.f47) hA rfl rfl ⟨_, rfl, (.slice none 0 0), rfl, hM⟩
  · replace H := ite_f hb9 H
    refine wp_skip ?_
    refine TN ?_
    refine wp_seq ?_
    refine wp_region_lit ?_
    refine L1 (e_lit0 elt37 hM hA (by decide) ?_)
    clear hM hA; intro w12 g11 hM hE  a hA
    refine L1 (stv hA (by decide) (run_move (hA.ev rfl)) ?_)
    clear hA; intro a hA
    obtain ⟨hl16, H⟩ := ite_some H
    refine L1 (e_append elt37 hM (fun _ => .z) (Src.row Try.underlying37 (hM.ro hr0) (Eq.refl s_0.length)) hl16 hA rfl rfl (by decide) ?_)
    clear hM hA; intro w17 A14 c15 hM hE  a hA
    refine L1 (stv hA (by decide) (run_assign (hA.ev rfl)) ?_)
    clear hA; intro a hA
    refine LQ ?_
    refine TN ?_
    refine wp_ret ?_
    obtain rfl := Option.some.inj H
    exact ret_post1 (fn := Try.f47) hA rfl rfl ⟨_, rfl, (.slice A14 (0 + s_0.length) c15), rfl, hM⟩

def slices_Clone_Hash.f (k : Nat) (s_0 : (List (Vector Int 32))) : Option (List (Vector Int 32)) := (if s_0.length * 32 ≤ 140737488355328 then (some s_0) else none)
theorem slices_Clone_Hash.calls (k : Nat) (s_0 : (List (Vector Int 32))) (F : List (Option Nat)) (v0 : Value) (r : (List (Vector Int 32))) (w0 : World) (h0 : RoV F pHash w0 v0 s_0) (hM : Mem F w0 w0 []) (H : slices_Clone_Hash.f k s_0 = some r) :
    Calls Try.prog 47 #[v0] w0 fun e w' => ∃ v, e = .returned v ∧ ∃ (ur_0 : Value), v = ur_0 ∧ Mem F w0 w' [.row 34 pHash.sz ur_0 (pHash.flat r)] := by
  obtain ⟨A, c, rfl, hr, hc⟩ := h0
  refine slices_Clone_HashN.calls k s_0 A.isNone F _ r w0 ⟨A, c, rfl, hr, hc⟩ (fun A' q c' e => by cases e; rfl) hM ?_
  unfold slices_Clone_Hash.f at H
  unfold slices_Clone_HashN.f
  cases A with
  | none =>
    have e : s_0 = [] := hr.1.1 rfl
    subst e
    simpa using H
  | some ad => simpa using H

def relay_clone.f (k : Nat) (r_0 : Relay) : Option Relay := ((slices_Clone_int.f k r_0.Routes).bind fun r42 => ((slices_Clone_Stem.f k r_0.Stems).bind fun r49 => ((slices_Clone_Hash.f k r_0.Fluffed).bind fun r56 => (some (Relay.mk r_0.Epoch r_0.Diffuse r42 r49 r56)))))
set_option maxRecDepth 100000 in
theorem relay_clone.calls (k : Nat) (r_0 : Relay) (F : List (Option Nat)) (v0_2 : Value) (v0_3 : Value) (v0_4 : Value) (r : Relay) (w0 : World) (h0_2 : RoV F (Pl.int .i64) w0 v0_2 r_0.Routes) (h0_3 : RoV F pStem w0 v0_3 r_0.Stems) (h0_4 : RoV F pHash w0 v0_4 r_0.Fluffed) (hM : Mem F w0 w0 []) (H : relay_clone.f k r_0 = some r) :
    Calls Try.prog 32 #[(.agg #[(.int .u32 r_0.Epoch), (.bool r_0.Diffuse), v0_2, v0_3, v0_4])] w0 fun e w' => ∃ v, e = .returned v ∧ ∃ (ur_0_2 : Value) (ur_0_3 : Value) (ur_0_4 : Value), v = (.agg #[(.int .u32 r.Epoch), (.bool r.Diffuse), ur_0_2, ur_0_3, ur_0_4]) ∧ Mem F w0 w' [.row 3 (Pl.int .i64).sz ur_0_2 ((Pl.int .i64).flat r.Routes), .row 61 pStem.sz ur_0_3 (pStem.flat r.Stems), .row 34 pHash.sz ur_0_4 (pHash.flat r.Fluffed)] := by
  unfold relay_clone.f at H
  obtain ⟨A0_2, c0_2, rfl, hr0_2, hc0_2⟩ := h0_2
  obtain ⟨A0_3, c0_3, rfl, hr0_3, hc0_3⟩ := h0_3
  obtain ⟨A0_4, c0_4, rfl, hr0_4, hc0_4⟩ := h0_4
  refine enterL (n := 16) [(.agg #[(.int .u32 r_0.Epoch), (.bool r_0.Diffuse), (.slice A0_2 r_0.Routes.length c0_2), (.slice A0_3 r_0.Stems.length c0_3), (.slice A0_4 r_0.Fluffed.length c0_4)])] Try.func32 rfl rfl rfl ?_
  intro a hA
  refine wp_seq ?_
  refine wp_region_lit ?_
  refine L1 (e_box (cs := [(.int .u32 r_0.Epoch), (.bool r_0.Diffuse), (.slice A0_2 r_0.Routes.length c0_2), (.slice A0_3 r_0.Stems.length c0_3), (.slice A0_4 r_0.Fluffed.length c0_4)]) hM hA rfl rfl (by decide) ?_)
  clear hM hA; intro w35 g34 hM hE  a hA
  refine L1 (e_alloc (cs := [(.int .u32 0), (.bool false), (.slice none 0 0), (.slice none 0 0), (.slice none 0 0)]) hM zero39 rfl hA (by decide) ?_)
  clear hM hA; intro w38 g37 hM hE  a hA
  refine LQ ?_
  refine TN ?_
  refine wp_seq ?_
  refine draw (fun w' => Below w38.heap.size w38 w') [10, 12, 14] rfl ?_
  intro w40 hw hS; replace hM := hM.ext hS; clear hw
  refine d_takef (i := 0) (L' := #[true, false, false, false, false, false, false, false, false, false, false, false, false, false, false]) rfl (by kernel_rfl) rfl (fun _ _ _ h => h) hA (by decide) (fun _ => hS) (fun a w' hA => run_field' Try.underlying39 rfl rfl Try.sizeOf22 (by decide) (hA.ev rfl)) ?_; clear hA; intro a hA
  refine rebase hS ?_; clear hS; intro hS
  refine d_take (i := 1) (L' := #[true, true, false, false, false, false, false, false, false, false, false, false, false, false, false]) rfl (by kernel_rfl) rfl (fun _ _ _ h => h) hA (by decide) rfl hS (fun a w' hA hS' => run_ld (hA.ev rfl) (run_loadS Try.isAgg22 ((At.seg1 (hM.box (.s .z)) 2 rfl).extB hS'))) ?_; clear hA; intro a hA
  refine d_takef (i := 3) (L' := #[true, true, false, true, false, false, false, false, false, false, false, false, false, false, false]) rfl (by kernel_rfl) rfl (fun _ _ _ h => h) hA (by decide) (fun _ => hS) (fun a w' hA => run_field' Try.underlying39 rfl rfl Try.sizeOf36 (by decide) (hA.ev rfl)) ?_; clear hA; intro a hA
  refine d_take (i := 4) (L' := #[true, true, false, true, true, false, false, false, false, false, false, false, false, false, false]) rfl (by kernel_rfl) rfl (fun _ _ _ h => h) hA (by decide) rfl hS (fun a w' hA hS' => run_ld (hA.ev rfl) (run_loadS Try.isAgg36 ((At.seg1 (hM.box (.s .z)) 3 rfl).extB hS'))) ?_; clear hA; intro a hA
  refine d_takef (i := 6) (L' := #[true, true, false, true, true, false, true, false, false, false, false, false, false, false, false]) rfl (by kernel_rfl) rfl (fun _ _ _ h => h) hA (by decide) (fun _ => hS) (fun a w' hA => run_field' Try.underlying39 rfl rfl Try.sizeOf37 (by decide) (hA.ev rfl)) ?_; clear hA; intro a hA
  refine d_take (i := 7) (L' := #[true, true, false, true, true, false, true, true, false, false, false, false, false, false, false]) rfl (by kernel_rfl) rfl (fun _ _ _ h => h) hA (by decide) rfl hS (fun a w' hA hS' => run_ld (hA.ev rfl) (run_loadS Try.isAgg37 ((At.seg1 (hM.box (.s .z)) 4 rfl).extB hS'))) ?_; clear hA; intro a hA
  obtain ⟨r42, H43, H⟩ := Option.bind_eq_some_iff.1 H
  refine d_one (i := 2) (L' := #[true, true, true, true, true, false, true, true, false, false, false, false, false, false, false]) (by kernel_rfl) rfl rfl (st_call Try.call45 hA [(.slice A0_2 r_0.Routes.length c0_2)] rfl (by decide) (slices_Clone_int.calls _ _ _ _ _ _ ((RoV.mk (hM.roC (Ms := []) hr0_2) (Eq.refl r_0.Routes.length) hc0_2)) (hM.front (Ms := [])) H43) ?_)
  clear hA; rintro _ w44 ⟨v45, rfl, hMc⟩ a hA
  have hE := hMc.below; have hM := hM.call (Ms := []) hMc
  have hlw46 : ∀ k, _ → w40.heap.size ≤ k := fun k hk => Nat.le_trans hS.size ((hMc.low _ (List.Mem.head _) k hk).resolve_right (by simp))
  clear hMc; simp only [List.cons_append, List.nil_append] at hM
  obtain ⟨A47, c48, rfl⟩ := RowOk.form (hM.row (p := (Pl.int .i64)) .z)
  replace hS := hS.trans (hE.mono hS.size)
  refine ⟨fun _ => hS, ?_⟩
  refine d_takef (i := 9) (L' := #[true, true, true, true, true, false, true, true, false, true, false, false, false, false, false]) rfl (by kernel_rfl) rfl (fun _ _ _ h => h) hA (by decide) (fun _ => hS) (fun a w' hA => run_field' Try.underlying39 rfl rfl Try.sizeOf22 (by decide) (hA.ev rfl)) ?_; clear hA; intro a hA
  obtain ⟨r49, H50, H⟩ := Option.bind_eq_some_iff.1 H
  refine d_one (i := 5) (L' := #[true, true, true, true, true, true, true, true, false, true, false, false, false, false, false]) (by kernel_rfl) rfl rfl (st_call Try.call46 hA [(.slice A0_3 r_0.Stems.length c0_3)] rfl (by decide) (slices_Clone_Stem.calls _ _ _ _ _ _ ((RoV.mk (hM.roC (Ms := []) hr0_3) (Eq.refl r_0.Stems.length) hc0_3)) (hM.front (Ms := [])) H50) ?_)
  clear hA; rintro _ w51 ⟨v52, rfl, hMc⟩ a hA
  have hE := hMc.below; have hM := hM.call (Ms := []) hMc
  have hlw53 : ∀ k, _ → w40.heap.size ≤ k := fun k hk => Nat.le_trans hS.size ((hMc.low _ (List.Mem.head _) k hk).resolve_right (by simp))
  clear hMc; simp only [List.cons_append, List.nil_append] at hM
  obtain ⟨A54, c55, rfl⟩ := RowOk.form (hM.row (p := pStem) .z)
  replace hS := hS.trans (hE.mono hS.size)
  refine ⟨fun _ => hS, ?_⟩
  obtain ⟨r56, H57, H⟩ := Option.bind_eq_some_iff.1 H
  refine d_one (i := 8) (L' := #[true, true, true, true, true, true, true, true, true, true, false, false, false, false, false]) (by kernel_rfl) rfl rfl (st_call Try.call47 hA [(.slice A0_4 r_0.Fluffed.length c0_4)] rfl (by decide) (slices_Clone_Hash.calls _ _ _ _ _ _ ((RoV.mk (hM.roC (Ms := []) hr0_4) (Eq.refl r_0.Fluffed.length) hc0_4)) (hM.front (Ms := [])) H57) ?_)
  clear hA; rintro _ w58 ⟨v59, rfl, hMc⟩ a hA
  have hE := hMc.below; have hM := hM.call (Ms := []) hMc
  have hlw60 : ∀ k, _ → w40.heap.size ≤ k := fun k hk => Nat.le_trans hS.size ((hMc.low _ (List.Mem.head _) k hk).resolve_right (by simp))
  clear hMc; simp only [List.cons_append, List.nil_append] at hM
  obtain ⟨A61, c62, rfl⟩ := RowOk.form (hM.row (p := pHash) .z)
  replace hS := hS.trans (hE.mono hS.size)
  refine ⟨fun _ => hS, ?_⟩
  refine d_one (i := 10) (L' := #[true, true, true, true, true, true, true, true, true, true, true, false, false, false, false]) (by kernel_rfl) rfl rfl (e_store (g := g34) (off := 2) (cur := [(.int .u32 r_0.Epoch), (.bool r_0.Diffuse), (.slice A0_2 r_0.Routes.length c0_2), (.slice A0_3 r_0.Stems.length c0_3), (.slice A0_4 r_0.Fluffed.length c0_4)]) (cs' := [(.int .u32 r_0.Epoch), (.bool r_0.Diffuse), (.slice A47 r42.length c48), (.slice A0_3 r_0.Stems.length c0_3), (.slice A0_4 r_0.Fluffed.length c0_4)]) hM (.s (.s (.s (.s .z)))) Try.sizeOf22 hA rfl (by simp [add_mk]) rfl (by first | rfl | simp [Value.cells, Pl.len]) (one_val rfl) (by first | exact Nat.le_of_ble_eq_true rfl | (simp [Pl.len]; done)) (rfl) ?_)
  clear hM hA; intro w63  hM hE  a hA
  refine ⟨fun h => absurd h (by decide), ?_⟩
  refine d_takef (i := 11) (L' := #[true, true, true, true, true, true, true, true, true, true, true, true, false, false, false]) rfl (by kernel_rfl) rfl (fun _ _ _ h => h) hA (by decide) (fun h => absurd h (by decide)) (fun a w' hA => run_field' Try.underlying39 rfl rfl Try.sizeOf36 (by decide) (hA.ev rfl)) ?_; clear hA; intro a hA
  refine d_one (i := 12) (L' := #[true, true, true, true, true, true, true, true, true, true, true, true, true, false, false]) (by kernel_rfl) rfl rfl (e_store (g := g34) (off := 3) (cur := [(.int .u32 r_0.Epoch), (.bool r_0.Diffuse), (.slice A47 r42.length c48), (.slice A0_3 r_0.Stems.length c0_3), (.slice A0_4 r_0.Fluffed.length c0_4)]) (cs' := [(.int .u32 r_0.Epoch), (.bool r_0.Diffuse), (.slice A47 r42.length c48), (.slice A54 r49.length c55), (.slice A0_4 r_0.Fluffed.length c0_4)]) hM (.s (.s (.s (.s .z)))) Try.sizeOf36 hA rfl (by simp [add_mk]) rfl (by first | rfl | simp [Value.cells, Pl.len]) (one_val rfl) (by first | exact Nat.le_of_ble_eq_true rfl | (simp [Pl.len]; done)) (rfl) ?_)
  clear hM hA; intro w64  hM hE  a hA
  refine ⟨fun h => absurd h (by decide), ?_⟩
  refine d_takef (i := 13) (L' := #[true, true, true, true, true, true, true, true, true, true, true, true, true, true, false]) rfl (by kernel_rfl) rfl (fun _ _ _ h => h) hA (by decide) (fun h => absurd h (by decide)) (fun a w' hA => run_field' Try.underlying39 rfl rfl Try.sizeOf37 (by decide) (hA.ev rfl)) ?_; clear hA; intro a hA
  refine d_one (i := 14) (L' := #[true, true, true, true, true, true, true, true, true, true, true, true, true, true, true]) (by kernel_rfl) rfl rfl (e_store (g := g34) (off := 4) (cur := [(.int .u32 r_0.Epoch), (.bool r_0.Diffuse), (.slice A47 r42.length c48), (.slice A54 r49.length c55), (.slice A0_4 r_0.Fluffed.length c0_4)]) (cs' := [(.int .u32 r_0.Epoch), (.bool r_0.Diffuse), (.slice A47 r42.length c48), (.slice A54 r49.length c55), (.slice A61 r56.length c62)]) hM (.s (.s (.s (.s .z)))) Try.sizeOf37 hA rfl (by simp [add_mk]) rfl (by first | rfl | simp [Value.cells, Pl.len]) (one_val rfl) (by first | exact Nat.le_of_ble_eq_true rfl | (simp [Pl.len]; done)) (rfl) ?_)
  clear hM hA; intro w65  hM hE  a hA
  refine ⟨fun h => absurd h (by decide), ?_⟩
  refine d_done (by kernel_rfl) ?_
  refine TN ?_
  refine wp_seq ?_
  refine wp_region_lit ?_
  refine L1 (stv hA (by decide) (run_ld (hA.ev rfl) (run_loadW Try.isAgg39 Try.sizeOf39 (by simp [Pl.len]; try rfl) (hM.box (.s (.s (.s (.s .z))))))) ?_)
  clear hA; intro a hA
  refine L1 (e_store (g := g37) (off := 0) (cur := [(.int .u32 0), (.bool false), (.slice none 0 0), (.slice none 0 0), (.slice none 0 0)]) (cs' := [(.int .u32 r_0.Epoch), (.bool r_0.Diffuse), (.slice A47 r42.length c48), (.slice A54 r49.length c55), (.slice A61 r56.length c62)]) hM (.s (.s (.s .z))) Try.sizeOf39 hA rfl (by simp [add_mk]) rfl (by first | rfl | simp [Value.cells, Pl.len]) (by simp [Value.cells, Value.oneCell']) (by first | exact Nat.le_of_ble_eq_true rfl | (simp [Pl.len]; done)) (spl_all (by first | rfl | simp [Value.cells, Pl.len])) ?_)
  clear hM hA; intro w66  hM hE  a hA
  refine LQ ?_
  refine TN ?_
  refine wp_ret ?_
  obtain rfl := Option.some.inj H
  exact ret_cell (fn := Try.f32) hA rfl rfl (run_loadW Try.isAgg39 Try.sizeOf39 (by simp [Pl.len]; try rfl) (hM.box (.s (.s (.s .z))))) ⟨_, rfl, (.slice A47 r42.length c48), (.slice A54 r49.length c55), (.slice A61 r56.length c62), rfl, (hM.sel [2, 1, 0] rfl (by decide))⟩

def relay_Fluff.l0 (id_1 : (Vector Int 32)) (r792 : Relay) : Nat → Int → Option (Out Int (Unit))
  | 0, _ => none
  | k + 1, t1305 => (if (decide (t1305 < ((r792.Stems.length : Nat) : Int))) = true then (if 0 ≤ t1305 ∧ t1305 < ((r792.Stems.length : Nat) : Int) then (if (((r792.Stems.getD t1305.toNat Stem.z).ID) == id_1) = true then (some (.ret t1305)) else (relay_Fluff.l0 id_1 r792 k (IntKind.i64.wrap (t1305 + 1)))) else none) else (some (.go ())))
def relay_Fluff.l1 (id_1 : (Vector Int 32)) (r792 : Relay) : Nat → (List Stem) → Int → Int → Option ((List Stem) × Int)
  | 0, _, _, _ => none
  | k + 1, xs1462, i1465, j1467 => (if (decide (j1467 < ((r792.Stems.length : Nat) : Int))) = true then (if 0 ≤ j1467 ∧ j1467 < ((r792.Stems.length : Nat) : Int) then (Option.bind (α := (List Stem) × Int) (if (!(((xs1462.getD j1467.toNat Stem.z).ID) == id_1)) = true then (if 0 ≤ i1465 ∧ i1465 < ((r792.Stems.length : Nat) : Int) then (some ((xs1462.set i1465.toNat (xs1462.getD j1467.toNat Stem.z)), IntKind.i64.wrap (i1465 + 1))) else none) else (some (xs1462, i1465))) (fun st => match st with | (xs1500, i1503) => (relay_Fluff.l1 id_1 r792 k xs1500 i1503 (IntKind.i64.wrap (j1467 + 1))))) else none) else (some (xs1462, i1465)))
def relay_Fluff.f (k : Nat) (r_0 : Relay) (id_1 : (Vector Int 32)) : Option (Relay × Int) := ((relay_sound.f k (Relay.mk r_0.Epoch r_0.Diffuse r_0.Routes r_0.Stems r_0.Fluffed)).bind fun r771 => (if (!r771) = true then (some ((Relay.mk 0 false ([] : List Int) ([] : List Stem) ([] : List (Vector Int 32))), 6)) else ((slices_Contains_Hash.f k r_0.Fluffed id_1).bind fun r779 => (if r779 = true then (some ((Relay.mk 0 false ([] : List Int) ([] : List Stem) ([] : List (Vector Int 32))), 150)) else (if (decide (((r_0.Fluffed.length : Nat) : Int) ≥ 2048)) = true then (some ((Relay.mk 0 false ([] : List Int) ([] : List Stem) ([] : List (Vector Int 32))), 380)) else ((relay_clone.f k (Relay.mk r_0.Epoch r_0.Diffuse r_0.Routes r_0.Stems r_0.Fluffed)).bind fun r792 => (Option.bind (α := (List Stem)) (Option.bind (α := Int) (Option.bind (α := Out Int (Unit)) (relay_Fluff.l0 id_1 r792 k 0) (fun o => match o with | .ret r => some r | .go _ => (some (-1)))) (fun t1245 => (if (t1245 == (-1)) = true then (some r792.Stems) else (Option.bind (α := (List Stem) × Int) (relay_Fluff.l1 id_1 r792 k r792.Stems t1245 (IntKind.i64.wrap (t1245 + 1))) (fun st => match st with | (xs1469, i1471) => (if 0 ≤ i1471 ∧ i1471 ≤ ((r792.Stems.length : Nat) : Int) then (if 0 ≤ i1471 ∧ i1471 ≤ ((r792.Stems.length : Nat) : Int) then (some ((xs1469.take i1471.toNat ++ List.replicate (r792.Stems.length - i1471.toNat) Stem.z).take i1471.toNat)) else none) else none)))))) (fun xs1165 => (if (r792.Fluffed.length + 1) * 32 ≤ 140737488355328 then (some ((Relay.mk r792.Epoch r792.Diffuse r792.Routes xs1165 (r792.Fluffed ++ [id_1])), 0)) else none)))))))))
set_option maxRecDepth 100000 in
theorem relay_Fluff.calls (k : Nat) (r_0 : Relay) (id_1 : (Vector Int 32)) (F : List (Option Nat)) (v0_2 : Value) (v0_3 : Value) (v0_4 : Value) (r : (Relay × Int)) (w0 : World) (h0_2 : RoV F (Pl.int .i64) w0 v0_2 r_0.Routes) (h0_3 : RoV F pStem w0 v0_3 r_0.Stems) (h0_4 : RoV F pHash w0 v0_4 r_0.Fluffed) (hM : Mem F w0 w0 []) (H : relay_Fluff.f k r_0 id_1 = some r) :
    Calls Try.prog 15 #[(.agg #[(.int .u32 r_0.Epoch), (.bool r_0.Diffuse), v0_2, v0_3, v0_4]), (.agg (pHash.enc id_1).toArray)] w0 fun e w' => ∃ v, e = .returned v ∧ ∃ (ur_0_2 : Value) (ur_0_3 : Value) (ur_0_4 : Value), v = (.tuple #[(.agg #[(.int .u32 r.1.Epoch), (.bool r.1.Diffuse), ur_0_2, ur_0_3, ur_0_4]), (.int .i64 r.2)]) ∧ Mem F w0 w' [.row 3 (Pl.int .i64).sz ur_0_2 ((Pl.int .i64).flat r.1.Routes), .row 61 pStem.sz ur_0_3 (pStem.flat r.1.Stems), .row 34 pHash.sz ur_0_4 (pHash.flat r.1.Fluffed)] := by
  unfold relay_Fluff.f at H
  obtain ⟨A0_2, c0_2, rfl, hr0_2, hc0_2⟩ := h0_2
  obtain ⟨A0_3, c0_3, rfl, hr0_3, hc0_3⟩ := h0_3
  obtain ⟨A0_4, c0_4, rfl, hr0_4, hc0_4⟩ := h0_4
  refine enterL (n := 37) [(.agg #[(.int .u32 r_0.Epoch), (.bool r_0.Diffuse), (.slice A0_2 r_0.Routes.length c0_2), (.slice A0_3 r_0.Stems.length c0_3), (.slice A0_4 r_0.Fluffed.length c0_4)]), (.agg (pHash.enc id_1).toArray)] Try.func15 rfl rfl rfl ?_
  intro a hA
  refine wp_seq ?_
  refine wp_region_lit ?_
  refine L1 (e_box (cs := [(.int .u32 r_0.Epoch), (.bool r_0.Diffuse), (.slice A0_2 r_0.Routes.length c0_2), (.slice A0_3 r_0.Stems.length c0_3), (.slice A0_4 r_0.Fluffed.length c0_4)]) hM hA rfl rfl (by decide) ?_)
  clear hM hA; intro w763 g762 hM hE  a hA
  refine L1 (e_box (cs := (pHash.enc id_1)) hM hA rfl rfl (by decide) ?_)
  clear hM hA; intro w766 g765 hM hE  a hA
  refine L1 (e_alloc (cs := [(.int .u32 0), (.bool false), (.slice none 0 0), (.slice none 0 0), (.slice none 0 0)]) hM zero39 rfl hA (by decide) ?_)
  clear hM hA; intro w769 g768 hM hE  a hA
  refine L1 (stv hA (by decide) (run_assign (hA.ev rfl)) ?_)
  clear hA; intro a hA
  refine LQ ?_
  refine TN ?_
  refine wp_seq ?_
  refine wp_block ?_
  refine wp_seq ?_
  refine wp_region_lit ?_
  refine L1 (stv hA (by decide) (run_ld (hA.ev rfl) (run_loadW Try.isAgg39 Try.sizeOf39 (by simp [Pl.len]; try rfl) (hM.box (.s (.s .z))))) ?_)
  clear hA; intro a hA
  obtain ⟨r771, H772, H⟩ := Option.bind_eq_some_iff.1 H
  refine L1 (st_call Try.call30 hA [(.agg #[(.int .u32 r_0.Epoch), (.bool r_0.Diffuse), (.slice A0_2 r_0.Routes.length c0_2), (.slice A0_3 r_0.Stems.length c0_3), (.slice A0_4 r_0.Fluffed.length c0_4)])] rfl (by decide) (relay_sound.calls _ (Relay.mk r_0.Epoch r_0.Diffuse r_0.Routes r_0.Stems r_0.Fluffed) _ _ _ _ _ _ ((RoV.mk (hM.roC (Ms := []) hr0_2) (Eq.refl r_0.Routes.length) hc0_2)) ((RoV.mk (hM.roC (Ms := []) hr0_3) (Eq.refl r_0.Stems.length) hc0_3)) ((RoV.mk (hM.roC (Ms := []) hr0_4) (Eq.refl r_0.Fluffed.length) hc0_4)) (hM.front (Ms := [])) H772) ?_)
  clear hA; rintro _ w773 ⟨rfl, hMc⟩ a hA
  have hE := hMc.below; have hM := hM.call (Ms := []) hMc
  clear hMc; simp only [List.cons_append, List.nil_append] at hM
  refine L1 (stv hA (by decide) (run_not (hA.ev rfl)) ?_)
  clear hA; intro a hA
  refine L1 (stv hA (by decide) (run_assign (hA.ev rfl)) ?_)
  clear hA; intro a hA
  refine LQ ?_
  refine TN ?_
  refine tcond (b := (!r771)) hA rfl (fun hb774 => ?_) (fun hb774 => ?_)
  · replace H := ite_t hb774 H
    refine wp_seq ?_
    refine wp_region_lit ?_
    refine L1 (stv hA (by decide) (run_build (cells := #[(.int .u32 0), (.bool false), (.slice none 0 0), (.slice none 0 0), (.slice none 0 0)]) [] zero39 Try.underlying39 (ss := [1, 1, 1, 1, 1]) ⟨Try.sizeOf35, Try.sizeOf4, Try.sizeOf22, Try.sizeOf36, Try.sizeOf37, trivial⟩ hA rfl (by rfl)) ?_)
    clear hA; intro a hA
    refine L1 (e_store (g := g768) (off := 0) (cur := [(.int .u32 0), (.bool false), (.slice none 0 0), (.slice none 0 0), (.slice none 0 0)]) (cs' := [(.int .u32 0), (.bool false), (.slice none 0 0), (.slice none 0 0), (.slice none 0 0)]) hM .z Try.sizeOf39 hA rfl (by simp [add_mk]) rfl (by first | rfl | simp [Value.cells, Pl.len]) (by simp [Value.cells, Value.oneCell']) (by first | exact Nat.le_of_ble_eq_true rfl | (simp [Pl.len]; done)) (spl_all (by first | rfl | simp [Value.cells, Pl.len])) ?_)
    clear hM hA; intro w775  hM hE  a hA
    refine L1 (stv hA (by decide) (run_assign (hA.ev rfl)) ?_)
    clear hA; intro a hA
    refine LQ ?_
    refine TN ?_
    refine wp_ret ?_
    have hM := hM.addnil 3 ((Pl.int .i64)).sz
    have hM := hM.addnil 61 (pStem).sz
    have hM := hM.addnil 34 (pHash).sz
    obtain rfl := Option.some.inj H
    refine BR ?_
    refine TR ?_
    exact ret_mix2 (fn := Try.f15) hA rfl (RV.cell rfl (run_loadW Try.isAgg39 Try.sizeOf39 (by simp [Pl.len]; try rfl) (hM.box (.s (.s (.s .z)))))) (RV.tmp rfl) ⟨_, rfl, (.slice none 0 0), (.slice none 0 0), (.slice none 0 0), rfl, (hM.sel [2, 1, 0] rfl (by decide))⟩
  · replace H := ite_f hb774 H
    refine wp_seq ?_
    refine wp_region_lit ?_
    refine L1 (stv hA (by decide) (run_field' Try.underlying39 rfl rfl Try.sizeOf37 (by decide) (hA.ev rfl)) ?_)
    clear hA; intro a hA
    refine L1 (stv hA (by decide) (run_ld (hA.ev rfl) (run_loadS Try.isAgg37 (At.seg1 (hM.box (.s (.s .z))) 4 rfl))) ?_)
    clear hA; intro a hA
    refine L1 (stv hA (by decide) (run_ld (hA.ev rfl) (run_loadP Try.isAgg34 Try.sizeOf34 (hM.box (.s .z)))) ?_)
    clear hA; intro a hA
    obtain ⟨r779, H780, H⟩ := Option.bind_eq_some_iff.1 H
    refine L1 (st_call Try.call31 hA [(.slice A0_4 r_0.Fluffed.length c0_4), (.agg (pHash.enc id_1).toArray)] rfl (by decide) (slices_Contains_Hash.calls _ _ _ _ _ _ _ ((RoV.mk (hM.roC (Ms := []) hr0_4) (Eq.refl r_0.Fluffed.length) hc0_4)) (hM.front (Ms := [])) H780) ?_)
    clear hA; rintro _ w781 ⟨rfl, hMc⟩ a hA
    have hE := hMc.below; have hM := hM.call (Ms := []) hMc
    clear hMc; simp only [List.cons_append, List.nil_append] at hM
    refine L1 (stv hA (by decide) (run_assign (hA.ev rfl)) ?_)
    clear hA; intro a hA
    refine LQ ?_
    refine TN ?_
    refine tcond (b := r779) hA rfl (fun hb782 => ?_) (fun hb782 => ?_)
    · replace H := ite_t hb782 H
      refine wp_seq ?_
      refine wp_region_lit ?_
      refine L1 (stv hA (by decide) (run_build (cells := #[(.int .u32 0), (.bool false), (.slice none 0 0), (.slice none 0 0), (.slice none 0 0)]) [] zero39 Try.underlying39 (ss := [1, 1, 1, 1, 1]) ⟨Try.sizeOf35, Try.sizeOf4, Try.sizeOf22, Try.sizeOf36, Try.sizeOf37, trivial⟩ hA rfl (by rfl)) ?_)
      clear hA; intro a hA
      refine L1 (e_store (g := g768) (off := 0) (cur := [(.int .u32 0), (.bool false), (.slice none 0 0), (.slice none 0 0), (.slice none 0 0)]) (cs' := [(.int .u32 0), (.bool false), (.slice none 0 0), (.slice none 0 0), (.slice none 0 0)]) hM .z Try.sizeOf39 hA rfl (by simp [add_mk]) rfl (by first | rfl | simp [Value.cells, Pl.len]) (by simp [Value.cells, Value.oneCell']) (by first | exact Nat.le_of_ble_eq_true rfl | (simp [Pl.len]; done)) (spl_all (by first | rfl | simp [Value.cells, Pl.len])) ?_)
      clear hM hA; intro w783  hM hE  a hA
      refine L1 (stv hA (by decide) (run_assign (hA.ev rfl)) ?_)
      clear hA; intro a hA
      refine LQ ?_
      refine TN ?_
      refine wp_ret ?_
      have hM := hM.addnil 3 ((Pl.int .i64)).sz
      have hM := hM.addnil 61 (pStem).sz
      have hM := hM.addnil 34 (pHash).sz
      obtain rfl := Option.some.inj H
      refine BR ?_
      refine TR ?_
      exact ret_mix2 (fn := Try.f15) hA rfl (RV.cell rfl (run_loadW Try.isAgg39 Try.sizeOf39 (by simp [Pl.len]; try rfl) (hM.box (.s (.s (.s .z)))))) (RV.tmp rfl) ⟨_, rfl, (.slice none 0 0), (.slice none 0 0), (.slice none 0 0), rfl, (hM.sel [2, 1, 0] rfl (by decide))⟩
    · replace H := ite_f hb782 H
      refine wp_seq ?_
      refine wp_region_lit ?_
      refine L1 (stv hA (by decide) (run_field' Try.underlying39 rfl rfl Try.sizeOf37 (by decide) (hA.ev rfl)) ?_)
      clear hA; intro a hA
      refine L1 (stv hA (by decide) (run_ld (hA.ev rfl) (run_loadS Try.isAgg37 (At.seg1 (hM.box (.s (.s .z))) 4 rfl))) ?_)
      clear hA; intro a hA
      refine L1 (stv hA (by decide) (run_len_slice Try.underlying37 (hA.ev rfl)) ?_)
      clear hA; intro a hA
      refine L1 (stv hA (by decide) (run_bin (hA.ev rfl) (hA.ev rfl) (bin_geq _ _ _ _)) ?_)
      clear hA; intro a hA
      refine L1 (stv hA (by decide) (run_assign (hA.ev rfl)) ?_)
      clear hA; intro a hA
      refine LQ ?_
      refine TN ?_
      refine tcond (b := (decide (((r_0.Fluffed.length : Nat) : Int) ≥ 2048))) hA rfl (fun hb787 => ?_) (fun hb787 => ?_)
      · replace H := ite_t hb787 H
        refine wp_seq ?_
        refine wp_region_lit ?_
        refine L1 (stv hA (by decide) (run_build (cells := #[(.int .u32 0), (.bool false), (.slice none 0 0), (.slice none 0 0), (.slice none 0 0)]) [] zero39 Try.underlying39 (ss := [1, 1, 1, 1, 1]) ⟨Try.sizeOf35, Try.sizeOf4, Try.sizeOf22, Try.sizeOf36, Try.sizeOf37, trivial⟩ hA rfl (by rfl)) ?_)
        clear hA; intro a hA
        refine L1 (e_store (g := g768) (off := 0) (cur := [(.int .u32 0), (.bool false), (.slice none 0 0), (.slice none 0 0), (.slice none 0 0)]) (cs' := [(.int .u32 0), (.bool false), (.slice none 0 0), (.slice none 0 0), (.slice none 0 0)]) hM .z Try.sizeOf39 hA rfl (by simp [add_mk]) rfl (by first | rfl | simp [Value.cells, Pl.len]) (by simp [Value.cells, Value.oneCell']) (by first | exact Nat.le_of_ble_eq_true rfl | (simp [Pl.len]; done)) (spl_all (by first | rfl | simp [Value.cells, Pl.len])) ?_)
        clear hM hA; intro w788  hM hE  a hA
        refine L1 (stv hA (by decide) (run_assign (hA.ev rfl)) ?_)
        clear hA; intro a hA
        refine LQ ?_
        refine TN ?_
        refine wp_ret ?_
        have hM := hM.addnil 3 ((Pl.int .i64)).sz
        have hM := hM.addnil 61 (pStem).sz
        have hM := hM.addnil 34 (pHash).sz
        obtain rfl := Option.some.inj H
        refine BR ?_
        refine TR ?_
        exact ret_mix2 (fn := Try.f15) hA rfl (RV.cell rfl (run_loadW Try.isAgg39 Try.sizeOf39 (by simp [Pl.len]; try rfl) (hM.box (.s (.s (.s .z)))))) (RV.tmp rfl) ⟨_, rfl, (.slice none 0 0), (.slice none 0 0), (.slice none 0 0), rfl, (hM.sel [2, 1, 0] rfl (by decide))⟩
      · replace H := ite_f hb787 H
        refine wp_skip ?_
        refine BN ?_
        refine TN ?_
        refine wp_seq ?_
        refine wp_region_lit ?_
        refine L1 (stv hA (by decide) (run_ld (hA.ev rfl) (run_loadW Try.isAgg39 Try.sizeOf39 (by simp [Pl.len]; try rfl) (hM.box (.s (.s .z))))) ?_)
        clear hA; intro a hA
        obtain ⟨r792, H793, H⟩ := Option.bind_eq_some_iff.1 H
        refine L1 (st_call Try.call32 hA [(.agg #[(.int .u32 r_0.Epoch), (.bool r_0.Diffuse), (.slice A0_2 r_0.Routes.length c0_2), (.slice A0_3 r_0.Stems.length c0_3), (.slice A0_4 r_0.Fluffed.length c0_4)])] rfl (by decide) (relay_clone.calls _ (Relay.mk r_0.Epoch r_0.Diffuse r_0.Routes r_0.Stems r_0.Fluffed) _ _ _ _ _ _ ((RoV.mk (hM.roC (Ms := []) hr0_2) (Eq.refl r_0.Routes.length) hc0_2)) ((RoV.mk (hM.roC (Ms := []) hr0_3) (Eq.refl r_0.Stems.length) hc0_3)) ((RoV.mk (hM.roC (Ms := []) hr0_4) (Eq.refl r_0.Fluffed.length) hc0_4)) (hM.front (Ms := [])) H793) ?_)
        clear hA; rintro _ w794 ⟨v795, v796, v797, rfl, hMc⟩ a hA
        have hE := hMc.below; have hM := hM.call (Ms := []) hMc
        clear hMc; simp only [List.cons_append, List.nil_append] at hM
        obtain ⟨A799, c800, rfl⟩ := RowOk.form (hM.row (p := (Pl.int .i64)) .z)
        obtain ⟨A802, c803, rfl⟩ := RowOk.form (hM.row (p := pStem) (.s .z))
        obtain ⟨A805, c806, rfl⟩ := RowOk.form (hM.row (p := pHash) (.s (.s .z)))
        refine L1 (e_store (g := g762) (off := 0) (cur := [(.int .u32 r_0.Epoch), (.bool r_0.Diffuse), (.slice A0_2 r_0.Routes.length c0_2), (.slice A0_3 r_0.Stems.length c0_3), (.slice A0_4 r_0.Fluffed.length c0_4)]) (cs' := [(.int .u32 r792.Epoch), (.bool r792.Diffuse), (.slice A799 r792.Routes.length c800), (.slice A802 r792.Stems.length c803), (.slice A805 r792.Fluffed.length c806)]) hM (.s (.s (.s (.s (.s .z))))) Try.sizeOf39 hA rfl (by simp [add_mk]) rfl (by first | rfl | simp [Value.cells, Pl.len]) (by simp [Value.cells, Value.oneCell']) (by first | exact Nat.le_of_ble_eq_true rfl | (simp [Pl.len]; done)) (spl_all (by first | rfl | simp [Value.cells, Pl.len])) ?_)
        clear hM hA; intro w807  hM hE  a hA
        refine LQ ?_
        refine TN ?_
        refine wp_seq ?_
        refine wp_region_lit ?_
        refine L1 (stv hA (by decide) (run_field' Try.underlying39 rfl rfl Try.sizeOf36 (by decide) (hA.ev rfl)) ?_)
        clear hA; intro a hA
        refine L1 (stv hA (by decide) (run_ld (hA.ev rfl) (run_loadS Try.isAgg36 (At.seg1 (hM.box (.s (.s (.s (.s (.s .z)))))) 3 rfl))) ?_)
        clear hA; intro a hA
        refine L1 (stv hA (by decide) (run_fn2 hA [(.pointer (some (⟨g765, 0, none⟩)))] rfl) ?_)
        clear hA; intro a hA
        refine L1 (inl_call Try.call33 hA [(.slice A802 r792.Stems.length c803), (.func (.func 34) #[] #[(.pointer (some (⟨g765, 0, none⟩)))])] rfl (by decide) ?_)
        obtain ⟨o1167, H1166, H⟩ := Option.bind_eq_some_iff.1 H
        refine (show Calls Try.prog 33 _ w807 (fun e w => ∃ v, e = .returned v ∧ ∃ (xs1165 : (List Stem)) (v1162 : Value), xs1165 = o1167 ∧ v = v1162 ∧ Mem F w0 w [.box g762 39 [(.int .u32 r792.Epoch), (.bool r792.Diffuse), (.slice A799 r792.Routes.length c800), (.slice A802 r792.Stems.length c803), (.slice A805 r792.Fluffed.length c806)], .row 3 (Pl.int .i64).sz (.slice A799 r792.Routes.length c800) ((Pl.int .i64).flat r792.Routes), .row 34 pHash.sz (.slice A805 r792.Fluffed.length c806) (pHash.flat r792.Fluffed), .box g765 34 (pHash.enc id_1), .box g768 39 [(.int .u32 0), (.bool false), (.slice none 0 0), (.slice none 0 0), (.slice none 0 0)], .row 61 pStem.sz v1162 (pStem.flat xs1165)]) from ?_).mono ?_
        · refine enterL (n := 42) [(.slice A802 r792.Stems.length c803), (.func (.func 34) #[] #[(.pointer (some (⟨g765, 0, none⟩)))])] Try.func33 rfl rfl rfl ?_
          clear hA; intro a hA
          refine wp_seq ?_
          refine wp_region_lit ?_
          refine L1 (stv hA (by decide) (run_assign (hA.ev rfl)) ?_)
          clear hA; intro a hA
          refine LQ ?_
          refine TN ?_
          refine wp_seq ?_
          refine wp_region_lit ?_
          refine L1 (stv hA (by decide) (run_move (hA.ev rfl)) ?_)
          clear hA; intro a hA
          refine L1 (stv hA (by decide) (run_move (hA.ev rfl)) ?_)
          clear hA; intro a hA
          refine L1 (inl_call Try.call48 hA [(.slice A802 r792.Stems.length c803), (.func (.func 34) #[] #[(.pointer (some (⟨g765, 0, none⟩)))])] rfl (by decide) ?_)
          obtain ⟨o1247, H1246, H1166⟩ := Option.bind_eq_some_iff.1 H1166
          refine (show Calls Try.prog 48 _ w807 (fun e w => ∃ v, e = .returned v ∧ ∃ (t1245 : Int), t1245 = o1247 ∧ v = (.int .i64 t1245) ∧ Mem F w0 w [.row 61 pStem.sz (.slice A802 r792.Stems.length c803) (pStem.flat r792.Stems), .box g765 34 (pHash.enc id_1), .box g762 39 [(.int .u32 r792.Epoch), (.bool r792.Diffuse), (.slice A799 r792.Routes.length c800), (.slice A802 r792.Stems.length c803), (.slice A805 r792.Fluffed.length c806)], .row 3 (Pl.int .i64).sz (.slice A799 r792.Routes.length c800) ((Pl.int .i64).flat r792.Routes), .row 34 pHash.sz (.slice A805 r792.Fluffed.length c806) (pHash.flat r792.Fluffed), .box g768 39 [(.int .u32 0), (.bool false), (.slice none 0 0), (.slice none 0 0), (.slice none 0 0)]]) from ?_).mono ?_
          · refine enterL (n := 19) [(.slice A802 r792.Stems.length c803), (.func (.func 34) #[] #[(.pointer (some (⟨g765, 0, none⟩)))])] Try.func48 rfl rfl rfl ?_
            clear hA; intro a hA
            refine wp_seq ?_
            refine wp_region_lit ?_
            refine L1 (stv hA (by decide) (run_assign (hA.ev rfl)) ?_)
            clear hA; intro a hA
            refine LQ ?_
            refine TN ?_
            refine wp_seq ?_
            refine wp_seq ?_
            refine wp_region_lit ?_
            refine L1 (stv hA (by decide) (run_move (hA.ev rfl)) ?_)
            clear hA; intro a hA
            refine L1 (stv hA (by decide) (run_len_slice Try.underlying36 (hA.ev rfl)) ?_)
            clear hA; intro a hA
            refine L1 (stv hA (by decide) (run_move (hA.ev rfl)) ?_)
            clear hA; intro a hA
            refine LQ ?_
            refine TN ?_
            obtain ⟨o1307, H1306, H1246⟩ := Option.bind_eq_some_iff.1 H1246
            refine cutC (fun a w => (.go ()) = o1307 ∧ Mem F w0 w [.box g765 34 (pHash.enc id_1), .row 61 pStem.sz (.slice A802 r792.Stems.length c803) (pStem.flat r792.Stems), .box g762 39 [(.int .u32 r792.Epoch), (.bool r792.Diffuse), (.slice A799 r792.Routes.length c800), (.slice A802 r792.Stems.length c803), (.slice A805 r792.Fluffed.length c806)], .row 3 (Pl.int .i64).sz (.slice A799 r792.Routes.length c800) ((Pl.int .i64).flat r792.Routes), .row 34 pHash.sz (.slice A805 r792.Fluffed.length c806) (pHash.flat r792.Fluffed), .box g768 39 [(.int .u32 0), (.bool false), (.slice none 0 0), (.slice none 0 0), (.slice none 0 0)]] ∧ Has 19 [] a) ?_ ?_
            · refine wp_block ?_
              refine wp_loop_ghost (fun m a w => ∃ (t1305 : Int), relay_Fluff.l0 id_1 r792 m t1305 = some o1307 ∧ Mem F w0 w [.row 61 pStem.sz (.slice A802 r792.Stems.length c803) (pStem.flat r792.Stems), .box g765 34 (pHash.enc id_1), .box g762 39 [(.int .u32 r792.Epoch), (.bool r792.Diffuse), (.slice A799 r792.Routes.length c800), (.slice A802 r792.Stems.length c803), (.slice A805 r792.Fluffed.length c806)], .row 3 (Pl.int .i64).sz (.slice A799 r792.Routes.length c800) ((Pl.int .i64).flat r792.Routes), .row 34 pHash.sz (.slice A805 r792.Fluffed.length c806) (pHash.flat r792.Fluffed), .box g768 39 [(.int .u32 0), (.bool false), (.slice none 0 0), (.slice none 0 0), (.slice none 0 0)]] ∧ Has 19 [(0, (.slice A802 r792.Stems.length c803)), (1, (.func (.func 34) #[] #[(.pointer (some (⟨g765, 0, none⟩)))])), (7, (.int .i64 ((r792.Stems.length : Nat) : Int))), (8, (.int .i64 t1305))] a) k ⟨0, H1306, (hM.sel [1, 4, 5, 0, 2, 3] rfl (by decide)), ((((hA.nil.cons (hA.get 8 _ rfl)).cons (hA.get 7 _ rfl)).cons (hA.get 1 _ rfl)).cons (hA.get 0 _ rfl))⟩ ?_
              clear hM hA; rintro m1308 a w1309 ⟨t1305, H1306, hM, hA⟩
              cases m1308 with
              | zero => exact absurd H1306 (by simp [relay_Fluff.l0])
              | succ m1308 =>
              rw [relay_Fluff.l0] at H1306
              refine wp_seq ?_
              refine wp_region_lit ?_
              refine L1 (stv hA (by decide) (run_bin (hA.ev rfl) (hA.ev rfl) (bin_lss _ _ _ _)) ?_)
              clear hA; intro a hA
              refine LQ ?_
              refine TN ?_
              refine wp_seq ?_
              refine tcond (b := (decide (t1305 < ((r792.Stems.length : Nat) : Int)))) hA rfl (fun hb1310 => ?_) (fun hb1310 => ?_)
              · replace H1306 := ite_t hb1310 H1306
                refine wp_skip ?_
                refine TN ?_
                refine wp_seq ?_
                refine wp_block ?_
                refine wp_seq ?_
                refine wp_region_lit ?_
                refine L1 (stv hA (by decide) (run_move (hA.ev rfl)) ?_)
                clear hA; intro a hA
                refine L1 (stv hA (by decide) (run_assign (hA.ev rfl)) ?_)
                clear hA; intro a hA
                refine LQ ?_
                refine TN ?_
                refine wp_seq ?_
                refine wp_region_lit ?_
                refine L1 (stv hA (by decide) (run_move (hA.ev rfl)) ?_)
                clear hA; intro a hA
                refine L1 (stv hA (by decide) (run_move (hA.ev rfl)) ?_)
                clear hA; intro a hA
                refine L1 (stv hA (by decide) (run_move (hA.ev rfl)) ?_)
                clear hA; intro a hA
                obtain ⟨⟨hi1311, hj1312⟩, H1306⟩ := ite_some H1306
                obtain ⟨ad1313, hq1314, hat1315⟩ := Row.elem' (p := pStem) (RowOk.row (hM.row (p := pStem) .z)) (RowOk.len (hM.row (p := pStem) .z)) Stem.z t1305 hi1311 hj1312
                refine L1 (stv hA (by decide) (run_idx Try.underlying36 Try.sizeOf61 (hA.ev rfl) hq1314 (hA.ev rfl) hi1311 hj1312) ?_)
                clear hA; intro a hA
                refine L1 (stv hA (by decide) (run_ld (hA.ev rfl) (run_loadP Try.isAgg61 Try.sizeOf61 hat1315)) ?_)
                clear hA; intro a hA
                refine L1 (inl_callv (caps := [(.pointer (some (⟨g765, 0, none⟩)))]) Try.call34 hA rfl [(.agg (pStem.enc (r792.Stems.getD t1305.toNat Stem.z)).toArray)] rfl (by decide) ?_)
                refine enterL (n := 8) [(.agg (pStem.enc (r792.Stems.getD t1305.toNat Stem.z)).toArray), (.pointer (some (⟨g765, 0, none⟩)))] Try.func34 rfl rfl rfl ?_
                clear hA; intro a hA
                refine wp_seq ?_
                refine wp_region_lit ?_
                refine L1 (e_box (cs := (pStem.enc (r792.Stems.getD t1305.toNat Stem.z))) hM hA rfl rfl (by decide) ?_)
                clear hM hA; intro w1320 g1319 hM hE  a hA
                refine L1 (stv hA (by decide) (run_assign (hA.ev rfl)) ?_)
                clear hA; intro a hA
                refine LQ ?_
                refine TN ?_
                refine wp_seq ?_
                refine wp_region_lit ?_
                refine L1 (stv hA (by decide) (run_field' Try.underlying61 rfl rfl Try.sizeOf34 (by decide) (hA.ev rfl)) ?_)
                clear hA; intro a hA
                refine L1 (stv hA (by decide) (run_ld (hA.ev rfl) (run_loadP Try.isAgg34 Try.sizeOf34 (Stem.at_ID (hM.box .z)))) ?_)
                clear hA; intro a hA
                refine L1 (stv hA (by decide) (run_ld (hA.ev rfl) (run_loadP Try.isAgg34 Try.sizeOf34 (hM.box (.s (.s .z))))) ?_)
                clear hA; intro a hA
                refine L1 (stv hA (by decide) (run_aggeql eq_Hash rfl (by kernel_rfl) (hA.ev rfl) (hA.ev rfl)) ?_)
                clear hA; intro a hA
                refine L1 (stv hA (by decide) (run_assign (hA.ev rfl)) ?_)
                clear hA; intro a hA
                refine LQ ?_
                refine TN ?_
                refine wp_ret ?_
                refine ret_post1 (fn := Try.f34) hA rfl rfl ⟨_, rfl, ?_⟩; clear hA; intro a hA
                refine LQ ?_
                refine TN ?_
                refine tcond (b := (((r792.Stems.getD t1305.toNat Stem.z).ID) == id_1)) hA rfl (fun hb1322 => ?_) (fun hb1322 => ?_)
                · replace H1306 := ite_t hb1322 H1306
                  refine wp_seq ?_
                  refine wp_region_lit ?_
                  refine L1 (stv hA (by decide) (run_move (hA.ev rfl)) ?_)
                  clear hA; intro a hA
                  refine L1 (stv hA (by decide) (run_assign (hA.ev rfl)) ?_)
                  clear hA; intro a hA
                  refine LQ ?_
                  refine TN ?_
                  refine wp_ret ?_
                  obtain rfl := Option.some.inj H1306
                  dsimp only at H1246
                  obtain rfl := Option.some.inj H1246
                  refine BR ?_
                  refine TR ?_
                  refine TR ?_
                  refine BR ?_
                  refine TR ?_
                  refine TR ?_
                  exact ret_post1 (fn := Try.f48) hA rfl rfl ⟨_, rfl, t1305, rfl, rfl, (hM.sel [1, 2, 3, 4, 5, 6] rfl (by decide))⟩
                · replace H1306 := ite_f hb1322 H1306
                  refine wp_skip ?_
                  refine BN ?_
                  refine TN ?_
                  refine wp_region_lit ?_
                  refine L1 (stv hA (by decide) (run_bin (hA.ev rfl) (hA.ev rfl) (bin_add _ _ _ _)) ?_)
                  clear hA; intro a hA
                  refine L1 (stv hA (by decide) (run_move (hA.ev rfl)) ?_)
                  clear hA; intro a hA
                  refine LQ ?_
                  exact ⟨_, Nat.lt_succ_self m1308, IntKind.i64.wrap (t1305 + 1), H1306, (hM.sel [1, 2, 3, 4, 5, 6] rfl (by decide)), ((((hA.nil.cons (hA.get 8 _ rfl)).cons (hA.get 7 _ rfl)).cons (hA.get 1 _ rfl)).cons (hA.get 0 _ rfl))⟩
              · replace H1306 := ite_f hb1310 H1306
                refine wp_exit ?_
                refine TX ?_
                refine TX ?_
                refine BX ?_
                exact ⟨Option.some.inj H1306, (hM.sel [1, 0, 2, 3, 4, 5] rfl (by decide)), hA.nil⟩
            clear hM hA
            rintro a w1323 ⟨rfl, hM, hA⟩
            try dsimp only at H1246
            refine TN ?_
            refine wp_seq ?_
            refine wp_region_lit ?_
            refine L1 (stv hA (by decide) (run_assign (hA.ev rfl)) ?_)
            clear hA; intro a hA
            refine LQ ?_
            refine TN ?_
            refine wp_ret ?_
            obtain rfl := Option.some.inj H1246
            exact ret_post1 (fn := Try.f48) hA rfl rfl ⟨_, rfl, (-1), rfl, rfl, (hM.sel [1, 0, 2, 3, 4, 5] rfl (by decide))⟩
          rintro e w1324 ⟨_, rfl, ⟨t1245, rfl, rfl, hM⟩⟩
          refine ⟨_, rfl, ?_⟩; clear hA; intro a hA; try dsimp only at H1166
          refine L1 (stv hA (by decide) (run_assign (hA.ev rfl)) ?_)
          clear hA; intro a hA
          refine LQ ?_
          refine TN ?_
          refine wp_seq ?_
          refine wp_seq ?_
          refine wp_region_lit ?_
          refine L1 (stv hA (by decide) (run_move (hA.ev rfl)) ?_)
          clear hA; intro a hA
          refine L1 (stv hA (by decide) (run_bin (hA.ev rfl) (hA.ev rfl) (bin_eql _ _ _ _)) ?_)
          clear hA; intro a hA
          refine LQ ?_
          refine TN ?_
          refine tcond (b := (t1245 == (-1))) hA rfl (fun hb1325 => ?_) (fun hb1325 => ?_)
          · replace H1166 := ite_t hb1325 H1166
            refine wp_seq ?_
            refine wp_region_lit ?_
            refine L1 (stv hA (by decide) (run_move (hA.ev rfl)) ?_)
            clear hA; intro a hA
            refine L1 (stv hA (by decide) (run_assign (hA.ev rfl)) ?_)
            clear hA; intro a hA
            refine LQ ?_
            refine TN ?_
            refine wp_ret ?_
            obtain rfl := Option.some.inj H1166
            refine TR ?_
            exact ret_post1 (fn := Try.f33) hA rfl rfl ⟨_, rfl, r792.Stems, (.slice A802 r792.Stems.length c803), rfl, rfl, (hM.sel [2, 3, 4, 1, 5, 0] rfl (by decide))⟩
          · replace H1166 := ite_f hb1325 H1166
            refine wp_skip ?_
            refine TN ?_
            refine wp_seq ?_
            refine wp_seq ?_
            refine wp_region_lit ?_
            refine L1 (stv hA (by decide) (run_move (hA.ev rfl)) ?_)
            clear hA; intro a hA
            refine L1 (stv hA (by decide) (run_bin (hA.ev rfl) (hA.ev rfl) (bin_add _ _ _ _)) ?_)
            clear hA; intro a hA
            refine L1 (stv hA (by decide) (run_assign (hA.ev rfl)) ?_)
            clear hA; intro a hA
            refine LQ ?_
            refine TN ?_
            obtain ⟨o1473, H1472, H1166⟩ := Option.bind_eq_some_iff.1 H1166
            refine cutC (fun a w => ∃ (xs1469 : (List Stem)) (i1471 : Int), (xs1469, i1471) = o1473 ∧ Mem F w0 w [.row 61 pStem.sz (.slice A802 r792.Stems.length c803) (pStem.flat xs1469), .box g762 39 [(.int .u32 r792.Epoch), (.bool r792.Diffuse), (.slice A799 r792.Routes.length c800), (.slice A802 r792.Stems.length c803), (.slice A805 r792.Fluffed.length c806)], .row 3 (Pl.int .i64).sz (.slice A799 r792.Routes.length c800) ((Pl.int .i64).flat r792.Routes), .row 34 pHash.sz (.slice A805 r792.Fluffed.length c806) (pHash.flat r792.Fluffed), .box g768 39 [(.int .u32 0), (.bool false), (.slice none 0 0), (.slice none 0 0), (.slice none 0 0)], .box g765 34 (pHash.enc id_1)] ∧ Has 42 [(0, (.slice A802 r792.Stems.length c803)), (5, (.int .i64 i1471))] a) ?_ ?_
            · refine wp_block ?_
              refine wp_loop_ghost (fun m a w => ∃ (xs1462 : (List Stem)) (i1465 : Int) (j1467 : Int), relay_Fluff.l1 id_1 r792 m xs1462 i1465 j1467 = some o1473 ∧ Mem F w0 w [.row 61 pStem.sz (.slice A802 r792.Stems.length c803) (pStem.flat xs1462), .box g765 34 (pHash.enc id_1), .box g762 39 [(.int .u32 r792.Epoch), (.bool r792.Diffuse), (.slice A799 r792.Routes.length c800), (.slice A802 r792.Stems.length c803), (.slice A805 r792.Fluffed.length c806)], .row 3 (Pl.int .i64).sz (.slice A799 r792.Routes.length c800) ((Pl.int .i64).flat r792.Routes), .row 34 pHash.sz (.slice A805 r792.Fluffed.length c806) (pHash.flat r792.Fluffed), .box g768 39 [(.int .u32 0), (.bool false), (.slice none 0 0), (.slice none 0 0), (.slice none 0 0)]] ∧ Has 42 [(0, (.slice A802 r792.Stems.length c803)), (1, (.func (.func 34) #[] #[(.pointer (some (⟨g765, 0, none⟩)))])), (5, (.int .i64 i1465)), (6, (.int .i64 j1467))] a) k ⟨r792.Stems, t1245, IntKind.i64.wrap (t1245 + 1), H1472, hM, ((((hA.nil.cons (hA.get 6 _ rfl)).cons (hA.get 5 _ rfl)).cons (hA.get 1 _ rfl)).cons (hA.get 0 _ rfl))⟩ ?_
              clear hM hA; rintro m1474 a w1475 ⟨xs1462, i1465, j1467, H1472, hM, hA⟩
              cases m1474 with
              | zero => exact absurd H1472 (by simp [relay_Fluff.l1])
              | succ m1474 =>
              rw [relay_Fluff.l1] at H1472
              refine wp_seq ?_
              refine wp_seq ?_
              refine wp_region_lit ?_
              refine L1 (stv hA (by decide) (run_move (hA.ev rfl)) ?_)
              clear hA; intro a hA
              refine L1 (stv hA (by decide) (run_move (hA.ev rfl)) ?_)
              clear hA; intro a hA
              refine L1 (stv hA (by decide) (run_len_slice Try.underlying36 (hA.ev rfl)) ?_)
              clear hA; intro a hA
              refine L1 (stv hA (by decide) (run_bin (hA.ev rfl) (hA.ev rfl) (bin_lss _ _ _ _)) ?_)
              clear hA; intro a hA
              refine LQ ?_
              refine TN ?_
              refine tcond (b := (decide (j1467 < ((r792.Stems.length : Nat) : Int)))) hA rfl (fun hb1476 => ?_) (fun hb1476 => ?_)
              · replace H1472 := ite_t hb1476 H1472
                refine wp_skip ?_
                refine TN ?_
                refine wp_seq ?_
                refine wp_block ?_
                refine wp_seq ?_
                refine wp_region_lit ?_
                refine L1 (stv hA (by decide) (run_move (hA.ev rfl)) ?_)
                clear hA; intro a hA
                refine L1 (stv hA (by decide) (run_move (hA.ev rfl)) ?_)
                clear hA; intro a hA
                obtain ⟨⟨hi1477, hj1478⟩, H1472⟩ := ite_some H1472
                obtain ⟨ad1479, hq1480, hat1481⟩ := Row.elem' (p := pStem) (RowOk.row (hM.row (p := pStem) .z)) (RowOk.len (hM.row (p := pStem) .z)) Stem.z j1467 hi1477 hj1478
                refine L1 (stv hA (by decide) (run_idx Try.underlying36 Try.sizeOf61 (hA.ev rfl) hq1480 (hA.ev rfl) hi1477 hj1478) ?_)
                clear hA; intro a hA
                refine L1 (stv hA (by decide) (run_ld (hA.ev rfl) (run_loadP Try.isAgg61 Try.sizeOf61 hat1481)) ?_)
                clear hA; intro a hA
                refine L1 (e_alloc (cs := (pStem.enc Stem.z)) hM zero61 rfl hA (by decide) ?_)
                clear hM hA; intro w1483 g1482 hM hE  a hA
                refine L1 (e_store (g := g1482) (off := 0) (cur := (pStem.enc Stem.z)) (cs' := (pStem.enc (xs1462.getD j1467.toNat Stem.z))) hM .z Try.sizeOf61 hA rfl (by simp [add_mk]) rfl (agg_size _ _) (agg_one _ _) (Nat.le_of_ble_eq_true (enc_fitL _ _ rfl)) (spl_all (by first | rfl | simp [Value.cells, Pl.len])) ?_)
                clear hM hA; intro w1485  hM hE  a hA
                refine LQ ?_
                refine TN ?_
                refine wp_seq ?_
                refine wp_region_lit ?_
                refine L1 (stv hA (by decide) (run_move (hA.ev rfl)) ?_)
                clear hA; intro a hA
                refine L1 (stv hA (by decide) (run_ld (hA.ev rfl) (run_loadP Try.isAgg61 Try.sizeOf61 (hM.box .z))) ?_)
                clear hA; intro a hA
                refine L1 (inl_callv (caps := [(.pointer (some (⟨g765, 0, none⟩)))]) Try.call34 hA rfl [(.agg (pStem.enc (xs1462.getD j1467.toNat Stem.z)).toArray)] rfl (by decide) ?_)
                refine enterL (n := 8) [(.agg (pStem.enc (xs1462.getD j1467.toNat Stem.z)).toArray), (.pointer (some (⟨g765, 0, none⟩)))] Try.func34 rfl rfl rfl ?_
                clear hA; intro a hA
                refine wp_seq ?_
                refine wp_region_lit ?_
                refine L1 (e_box (cs := (pStem.enc (xs1462.getD j1467.toNat Stem.z))) hM hA rfl rfl (by decide) ?_)
                clear hM hA; intro w1490 g1489 hM hE  a hA
                refine L1 (stv hA (by decide) (run_assign (hA.ev rfl)) ?_)
                clear hA; intro a hA
                refine LQ ?_
                refine TN ?_
                refine wp_seq ?_
                refine wp_region_lit ?_
                refine L1 (stv hA (by decide) (run_field' Try.underlying61 rfl rfl Try.sizeOf34 (by decide) (hA.ev rfl)) ?_)
                clear hA; intro a hA
                refine L1 (stv hA (by decide) (run_ld (hA.ev rfl) (run_loadP Try.isAgg34 Try.sizeOf34 (Stem.at_ID (hM.box .z)))) ?_)
                clear hA; intro a hA
                refine L1 (stv hA (by decide) (run_ld (hA.ev rfl) (run_loadP Try.isAgg34 Try.sizeOf34 (hM.box (.s (.s (.s .z)))))) ?_)
                clear hA; intro a hA
                refine L1 (stv hA (by decide) (run_aggeql eq_Hash rfl (by kernel_rfl) (hA.ev rfl) (hA.ev rfl)) ?_)
                clear hA; intro a hA
                refine L1 (stv hA (by decide) (run_assign (hA.ev rfl)) ?_)
                clear hA; intro a hA
                refine LQ ?_
                refine TN ?_
                refine wp_ret ?_
                refine ret_post1 (fn := Try.f34) hA rfl rfl ⟨_, rfl, ?_⟩; clear hA; intro a hA
                refine L1 (stv hA (by decide) (run_not (hA.ev rfl)) ?_)
                clear hA; intro a hA
                refine LQ ?_
                refine TN ?_
                obtain ⟨o1506, H1505, H1472⟩ := Option.bind_eq_some_iff.1 H1472
                refine cutC (fun a w => ∃ (xs1500 : (List Stem)) (i1503 : Int), (xs1500, i1503) = o1506 ∧ Mem F w0 w [.row 61 pStem.sz (.slice A802 r792.Stems.length c803) (pStem.flat xs1500), .box g765 34 (pHash.enc id_1), .box g762 39 [(.int .u32 r792.Epoch), (.bool r792.Diffuse), (.slice A799 r792.Routes.length c800), (.slice A802 r792.Stems.length c803), (.slice A805 r792.Fluffed.length c806)], .row 3 (Pl.int .i64).sz (.slice A799 r792.Routes.length c800) ((Pl.int .i64).flat r792.Routes), .row 34 pHash.sz (.slice A805 r792.Fluffed.length c806) (pHash.flat r792.Fluffed), .box g768 39 [(.int .u32 0), (.bool false), (.slice none 0 0), (.slice none 0 0), (.slice none 0 0)]] ∧ Has 42 [(0, (.slice A802 r792.Stems.length c803)), (1, (.func (.func 34) #[] #[(.pointer (some (⟨g765, 0, none⟩)))])), (5, (.int .i64 i1503)), (6, (.int .i64 j1467))] a) ?_ ?_
                · refine tcond (b := (!(((xs1462.getD j1467.toNat Stem.z).ID) == id_1))) hA rfl (fun hb1507 => ?_) (fun hb1507 => ?_)
                  · replace H1505 := ite_t hb1507 H1505
                    refine wp_seq ?_
                    refine wp_region_lit ?_
                    refine L1 (stv hA (by decide) (run_move (hA.ev rfl)) ?_)
                    clear hA; intro a hA
                    refine L1 (stv hA (by decide) (run_move (hA.ev rfl)) ?_)
                    clear hA; intro a hA
                    refine L1 (stv hA (by decide) (run_ld (hA.ev rfl) (run_loadP Try.isAgg61 Try.sizeOf61 (hM.box (.s .z)))) ?_)
                    clear hA; intro a hA
                    obtain ⟨⟨hi1508, hj1509⟩, H1505⟩ := ite_some H1505
                    obtain ⟨ad1510, hq1511, hat1512⟩ := Row.elem' (p := pStem) (RowOk.row (hM.row (p := pStem) (.s (.s .z)))) (RowOk.len (hM.row (p := pStem) (.s (.s .z)))) Stem.z i1465 hi1508 hj1509
                    refine L1 (stv hA (by decide) (run_idx Try.underlying36 Try.sizeOf61 (hA.ev rfl) hq1511 (hA.ev rfl) hi1508 hj1509) ?_)
                    clear hA; intro a hA
                    refine L1 (e_setrow (x1 := (xs1462.getD i1465.toNat Stem.z)) (y1 := (xs1462.getD j1467.toNat Stem.z)) (off := 0) hM (.s (.s .z)) Try.sizeOf61 hA rfl rfl hq1511 rfl (agg_size _ _) (agg_one _ _) hi1508 hj1509 (getD_getD _ _ _) (by decide) (spl_all (by first | rfl | simp [Value.cells, Pl.len] | (simp only [Value.cells, Pl.len, List.length_cons, List.length_nil]; done))) ?_)
                    clear hM hA; intro w1513  hM hE  a hA
                    refine LQ ?_
                    refine TN ?_
                    refine wp_region_lit ?_
                    refine L1 (stv hA (by decide) (run_move (hA.ev rfl)) ?_)
                    clear hA; intro a hA
                    refine L1 (stv hA (by decide) (run_bin (hA.ev rfl) (hA.ev rfl) (bin_add _ _ _ _)) ?_)
                    clear hA; intro a hA
                    refine L1 (stv hA (by decide) (run_assign (hA.ev rfl)) ?_)
                    clear hA; intro a hA
                    refine LQ ?_
                    exact ⟨(xs1462.set i1465.toNat (xs1462.getD j1467.toNat Stem.z)), IntKind.i64.wrap (i1465 + 1), Option.some.inj H1505, (hM.sel [2, 3, 4, 5, 6, 7] rfl (by decide)), ((((hA.nil.cons (hA.get 6 _ rfl)).cons (hA.get 5 _ rfl)).cons (hA.get 1 _ rfl)).cons (hA.get 0 _ rfl))⟩
                  · replace H1505 := ite_f hb1507 H1505
                    refine wp_skip ?_
                    exact ⟨xs1462, i1465, Option.some.inj H1505, (hM.sel [2, 3, 4, 5, 6, 7] rfl (by decide)), ((((hA.nil.cons (hA.get 6 _ rfl)).cons (hA.get 5 _ rfl)).cons (hA.get 1 _ rfl)).cons (hA.get 0 _ rfl))⟩
                clear hM hA
                rintro a w1514 ⟨xs1500, i1503, rfl, hM, hA⟩
                try dsimp only at H1472
                refine BN ?_
                refine TN ?_
                refine wp_region_lit ?_
                refine L1 (stv hA (by decide) (run_move (hA.ev rfl)) ?_)
                clear hA; intro a hA
                refine L1 (stv hA (by decide) (run_bin (hA.ev rfl) (hA.ev rfl) (bin_add _ _ _ _)) ?_)
                clear hA; intro a hA
                refine L1 (stv hA (by decide) (run_assign (hA.ev rfl)) ?_)
                clear hA; intro a hA
                refine LQ ?_
                exact ⟨_, Nat.lt_succ_self m1474, xs1500, i1503, IntKind.i64.wrap (j1467 + 1), H1472, hM, ((((hA.nil.cons (hA.get 6 _ rfl)).cons (hA.get 5 _ rfl)).cons (hA.get 1 _ rfl)).cons (hA.get 0 _ rfl))⟩
              · replace H1472 := ite_f hb1476 H1472
                refine wp_exit ?_
                refine TX ?_
                refine TX ?_
                refine BX ?_
                exact ⟨xs1462, i1465, Option.some.inj H1472, (hM.sel [0, 2, 3, 4, 5, 1] rfl (by decide)), ((hA.nil.cons (hA.get 5 _ rfl)).cons (hA.get 0 _ rfl))⟩
            clear hM hA
            rintro a w1515 ⟨xs1469, i1471, rfl, hM, hA⟩
            try dsimp only at H1166
            refine TN ?_
            refine wp_seq ?_
            refine wp_region_lit ?_
            refine L1 (stv hA (by decide) (run_move (hA.ev rfl)) ?_)
            clear hA; intro a hA
            refine L1 (stv hA (by decide) (run_move (hA.ev rfl)) ?_)
            clear hA; intro a hA
            obtain ⟨⟨hi1516, hj1517⟩, H1166⟩ := ite_some H1166
            refine L1 (stv hA (by decide) (run_lo Try.underlying36 Try.sizeOf61 (RowOk.cap (hM.row (p := pStem) .z)) hi1516 hj1517 (hA.ev rfl) (hA.ev rfl)) ?_)
            clear hA; intro a hA
            refine L1 (e_clear (lo := i1471.toNat) elt36 rfl hM .z (by omega) hA rfl ?_)
            clear hM hA; intro w1518  hM hE  a hA
            refine LQ ?_
            refine TN ?_
            refine wp_seq ?_
            refine wp_region_lit ?_
            refine L1 (stv hA (by decide) (run_move (hA.ev rfl)) ?_)
            clear hA; intro a hA
            refine L1 (stv hA (by decide) (run_move (hA.ev rfl)) ?_)
            clear hA; intro a hA
            obtain ⟨⟨hi1519, hj1520⟩, H1166⟩ := ite_some H1166
            refine L1 (stv hA (by decide) (run_hi Try.underlying36 Try.sizeOf61 (RowOk.cap (hM.row (p := pStem) .z)) hi1519 hj1520 (hA.ev rfl) (hA.ev rfl)) ?_)
            clear hA; intro a hA
            refine L1 (stv hA (by decide) (run_assign (hA.ev rfl)) ?_)
            clear hA; intro a hA
            refine LQ ?_
            refine TN ?_
            refine wp_ret ?_
            obtain rfl := Option.some.inj H1166
            have hM := hM.re (y := .row 61 pStem.sz (.slice A802 i1471.toNat c803) (pStem.flat ((xs1469.take i1471.toNat ++ List.replicate (r792.Stems.length - i1471.toNat) Stem.z).take i1471.toNat))) .z (fun h => RowOk.cuthi h (by omega)) (key_hi _ _ _ _ _)
            exact ret_post1 (fn := Try.f33) hA rfl rfl ⟨_, rfl, ((xs1469.take i1471.toNat ++ List.replicate (r792.Stems.length - i1471.toNat) Stem.z).take i1471.toNat), (.slice A802 i1471.toNat c803), rfl, rfl, (hM.sel [1, 2, 3, 5, 4, 0] rfl (by decide))⟩
        rintro e w1521 ⟨_, rfl, ⟨xs1165, v1162, rfl, rfl, hM⟩⟩
        refine ⟨_, rfl, ?_⟩; clear hA; intro a hA; try dsimp only at H
        obtain ⟨A1163, c1164, rfl⟩ := RowOk.form (hM.row (p := pStem) (.s (.s (.s (.s (.s .z))))))
        refine L1 (stv hA (by decide) (run_field' Try.underlying39 rfl rfl Try.sizeOf36 (by decide) (hA.ev rfl)) ?_)
        clear hA; intro a hA
        refine L1 (e_store (g := g762) (off := 3) (cur := [(.int .u32 r792.Epoch), (.bool r792.Diffuse), (.slice A799 r792.Routes.length c800), (.slice A802 r792.Stems.length c803), (.slice A805 r792.Fluffed.length c806)]) (cs' := [(.int .u32 r792.Epoch), (.bool r792.Diffuse), (.slice A799 r792.Routes.length c800), (.slice A1163 xs1165.length c1164), (.slice A805 r792.Fluffed.length c806)]) hM .z Try.sizeOf36 hA rfl (by simp [add_mk]) rfl (by first | rfl | simp [Value.cells, Pl.len]) (one_val rfl) (by first | exact Nat.le_of_ble_eq_true rfl | (simp [Pl.len]; done)) (rfl) ?_)
        clear hM hA; intro w1522  hM hE  a hA
        refine LQ ?_
        refine TN ?_
        refine wp_seq ?_
        refine wp_region_lit ?_
        refine L1 (stv hA (by decide) (run_field' Try.underlying39 rfl rfl Try.sizeOf37 (by decide) (hA.ev rfl)) ?_)
        clear hA; intro a hA
        refine L1 (stv hA (by decide) (run_ld (hA.ev rfl) (run_loadS Try.isAgg37 (At.seg1 (hM.box .z) 4 rfl))) ?_)
        clear hA; intro a hA
        refine L1 (stv hA (by decide) (run_ld (hA.ev rfl) (run_loadP Try.isAgg34 Try.sizeOf34 (hM.box (.s (.s (.s .z)))))) ?_)
        clear hA; intro a hA
        refine L1 (e_litN [id_1] [(.agg (pHash.enc id_1).toArray)] elt37 hM rfl (by decide) hA rfl rfl (List.cons_ne_nil _ _) (by decide) ?_)
        clear hM hA; intro w1524 g1523 hM hE  a hA
        obtain ⟨hl1528, H⟩ := ite_some H
        refine L1 (e_append elt37 hM (fun _ => (.s (.s (.s .z)))) (Src.row Try.underlying37 (RowOk.row (hM.row (p := pHash) .z)) (RowOk.len (hM.row (p := pHash) .z))) hl1528 hA rfl rfl (by decide) ?_)
        clear hM hA; intro w1529 A1526 c1527 hM hE  a hA
        refine L1 (stv hA (by decide) (run_field' Try.underlying39 rfl rfl Try.sizeOf37 (by decide) (hA.ev rfl)) ?_)
        clear hA; intro a hA
        refine L1 (e_store (g := g762) (off := 4) (cur := [(.int .u32 r792.Epoch), (.bool r792.Diffuse), (.slice A799 r792.Routes.length c800), (.slice A1163 xs1165.length c1164), (.slice A805 r792.Fluffed.length c806)]) (cs' := [(.int .u32 r792.Epoch), (.bool r792.Diffuse), (.slice A799 r792.Routes.length c800), (.slice A1163 xs1165.length c1164), (.slice A1526 (r792.Fluffed.length + 1) c1527)]) hM (.s .z) Try.sizeOf37 hA rfl (by simp [add_mk]) rfl (by first | rfl | simp [Value.cells, Pl.len]) (one_val rfl) (by first | exact Nat.le_of_ble_eq_true rfl | (simp [Pl.len]; done)) (rfl) ?_)
        clear hM hA; intro w1530  hM hE  a hA
        refine LQ ?_
        refine TN ?_
        refine wp_seq ?_
        refine wp_region_lit ?_
        refine L1 (stv hA (by decide) (run_ld (hA.ev rfl) (run_loadW Try.isAgg39 Try.sizeOf39 (by simp [Pl.len]; try rfl) (hM.box (.s .z)))) ?_)
        clear hA; intro a hA
        refine L1 (e_store (g := g768) (off := 0) (cur := [(.int .u32 0), (.bool false), (.slice none 0 0), (.slice none 0 0), (.slice none 0 0)]) (cs' := [(.int .u32 r792.Epoch), (.bool r792.Diffuse), (.slice A799 r792.Routes.length c800), (.slice A1163 xs1165.length c1164), (.slice A1526 (r792.Fluffed.length + 1) c1527)]) hM (.s (.s (.s (.s (.s .z))))) Try.sizeOf39 hA rfl (by simp [add_mk]) rfl (by first | rfl | simp [Value.cells, Pl.len]) (by simp [Value.cells, Value.oneCell']) (by first | exact Nat.le_of_ble_eq_true rfl | (simp [Pl.len]; done)) (spl_all (by first | rfl | simp [Value.cells, Pl.len])) ?_)
        clear hM hA; intro w1531  hM hE  a hA
        refine L1 (stv hA (by decide) (run_assign (hA.ev rfl)) ?_)
        clear hA; intro a hA
        refine LQ ?_
        refine TN ?_
        refine wp_ret ?_
        obtain rfl := Option.some.inj H
        exact ret_mix2 (fn := Try.f15) hA rfl (RV.cell rfl (run_loadW Try.isAgg39 Try.sizeOf39 (by simp [Pl.len]; try rfl) (hM.box (.s (.s (.s (.s (.s .z)))))))) (RV.tmp rfl) ⟨_, rfl, (.slice A799 r792.Routes.length c800), (.slice A1163 xs1165.length c1164), (.slice A1526 (r792.Fluffed.length + 1) c1527), rfl, (hM.sel [2, 6, 3] rfl (by decide))⟩

def ref40_has.l0 (l_0 : (List (Vector Int 32))) (id_1 : (Vector Int 32)) : Nat → Int → Option (Out Bool (Unit))
  | 0, _ => none
  | k + 1, i104 => (if (decide (i104 < ((l_0.length : Nat) : Int))) = true then (if 0 ≤ i104 ∧ i104 < ((l_0.length : Nat) : Int) then (if ((l_0.getD i104.toNat (Vector.replicate 32 0 : Vector Int 32)) == id_1) = true then (some (.ret true)) else (ref40_has.l0 l_0 id_1 k (IntKind.i64.wrap (i104 + 1)))) else none) else (some (.go ())))
def ref40_has.f (k : Nat) (l_0 : (List (Vector Int 32))) (id_1 : (Vector Int 32)) : Option Bool := (Option.bind (α := Out Bool (Unit)) (ref40_has.l0 l_0 id_1 k 0) (fun o => match o with | .ret r => some r | .go _ => (some false)))
set_option maxRecDepth 100000 in
theorem ref40_has.calls (k : Nat) (l_0 : (List (Vector Int 32))) (id_1 : (Vector Int 32)) (F : List (Option Nat)) (v0 : Value) (r : Bool) (w0 : World) (h0 : RoV F pHash w0 v0 l_0) (hM : Mem F w0 w0 []) (H : ref40_has.f k l_0 id_1 = some r) :
    Calls Try.prog 36 #[v0, (.agg (pHash.enc id_1).toArray)] w0 fun e w' => ∃ v, e = .returned v ∧ v = (.bool r) ∧ Mem F w0 w' [] := by
  unfold ref40_has.f at H
  obtain ⟨A0, c0, rfl, hr0, hc0⟩ := h0
  refine enterL (n := 18) [(.slice A0 l_0.length c0), (.agg (pHash.enc id_1).toArray)] Try.func36 rfl rfl rfl ?_
  intro a hA
  refine wp_seq ?_
  refine wp_region_lit ?_
  refine L1 (e_box (cs := (pHash.enc id_1)) hM hA rfl rfl (by decide) ?_)
  clear hM hA; intro w61 g60 hM hE  a hA
  refine L1 (stv hA (by decide) (run_assign (hA.ev rfl)) ?_)
  clear hA; intro a hA
  refine LQ ?_
  refine TN ?_
  refine wp_seq ?_
  refine wp_seq ?_
  refine wp_region_lit ?_
  refine L1 (stv hA (by decide) (run_assign (hA.ev rfl)) ?_)
  clear hA; intro a hA
  refine LQ ?_
  refine TN ?_
  obtain ⟨o106, H105, H⟩ := Option.bind_eq_some_iff.1 H
  refine cutC (fun a w => (.go ()) = o106 ∧ Mem F w0 w [] ∧ Has 18 [] a) ?_ ?_
  · refine wp_block ?_
    refine wp_loop_ghost (fun m a w => ∃ (i104 : Int), ref40_has.l0 l_0 id_1 m i104 = some o106 ∧ Mem F w0 w [.box g60 34 (pHash.enc id_1)] ∧ Has 18 [(0, (.slice A0 l_0.length c0)), (3, (.pointer (some (⟨g60, 0, none⟩)))), (5, (.int .i64 i104))] a) k ⟨0, H105, hM, (((hA.nil.cons (hA.get 5 _ rfl)).cons (hA.get 3 _ rfl)).cons (hA.get 0 _ rfl))⟩ ?_
    clear hM hA; rintro m107 a w108 ⟨i104, H105, hM, hA⟩
    cases m107 with
    | zero => exact absurd H105 (by simp [ref40_has.l0])
    | succ m107 =>
    rw [ref40_has.l0] at H105
    refine wp_seq ?_
    refine wp_seq ?_
    refine wp_region_lit ?_
    refine L1 (stv hA (by decide) (run_move (hA.ev rfl)) ?_)
    clear hA; intro a hA
    refine L1 (stv hA (by decide) (run_move (hA.ev rfl)) ?_)
    clear hA; intro a hA
    refine L1 (stv hA (by decide) (run_len_slice Try.underlying37 (hA.ev rfl)) ?_)
    clear hA; intro a hA
    refine L1 (stv hA (by decide) (run_bin (hA.ev rfl) (hA.ev rfl) (bin_lss _ _ _ _)) ?_)
    clear hA; intro a hA
    refine LQ ?_
    refine TN ?_
    refine tcond (b := (decide (i104 < ((l_0.length : Nat) : Int)))) hA rfl (fun hb109 => ?_) (fun hb109 => ?_)
    · replace H105 := ite_t hb109 H105
      refine wp_skip ?_
      refine TN ?_
      refine wp_seq ?_
      refine wp_block ?_
      refine wp_seq ?_
      refine draw (fun w' => Below w108.heap.size w108 w') [] rfl ?_
      intro w110 hw hS; replace hM := hM.ext hS; clear hw
      refine d_takef (i := 0) (L' := #[true, false, false, false, false, false]) rfl (by kernel_rfl) rfl (fun _ _ _ h => h) hA (by decide) (fun _ => hS) (fun a w' hA => run_move (hA.ev rfl)) ?_; clear hA; intro a hA
      refine d_takef (i := 1) (L' := #[true, true, false, false, false, false]) rfl (by kernel_rfl) rfl (fun _ _ _ h => h) hA (by decide) (fun _ => hS) (fun a w' hA => run_move (hA.ev rfl)) ?_; clear hA; intro a hA
      obtain ⟨⟨hi112, hj113⟩, H105⟩ := ite_some H105
      obtain ⟨ad114, hq115, hat116⟩ := Row.elem' (p := pHash) (hM.ro hr0) (Eq.refl l_0.length) (Vector.replicate 32 0 : Vector Int 32) i104 hi112 hj113
      refine d_takef (i := 2) (L' := #[true, true, true, false, false, false]) rfl (by kernel_rfl) rfl (fun _ _ _ h => h) hA (by decide) (fun _ => hS) (fun a w' hA => run_idx Try.underlying37 Try.sizeOf34 (hA.ev rfl) hq115 (hA.ev rfl) hi112 hj113) ?_; clear hA; intro a hA
      refine rebase hS ?_; clear hS; intro hS
      refine d_take (i := 3) (L' := #[true, true, true, true, false, false]) rfl (by kernel_rfl) rfl (fun _ _ _ h => h) hA (by decide) rfl hS (fun a w' hA hS' => run_ld (hA.ev rfl) (run_loadP Try.isAgg34 Try.sizeOf34 ((hat116).extB hS'))) ?_; clear hA; intro a hA
      refine d_take (i := 4) (L' := #[true, true, true, true, true, false]) rfl (by kernel_rfl) rfl (fun _ _ _ h => h) hA (by decide) rfl hS (fun a w' hA hS' => run_ld (hA.ev rfl) (run_loadP Try.isAgg34 Try.sizeOf34 ((hM.box .z).extB hS'))) ?_; clear hA; intro a hA
      refine d_takef (i := 5) (L' := #[true, true, true, true, true, true]) rfl (by kernel_rfl) rfl (fun _ _ _ h => h) hA (by decide) (fun _ => hS) (fun a w' hA => run_aggeql eq_Hash rfl (by kernel_rfl) (hA.ev rfl) (hA.ev rfl)) ?_; clear hA; intro a hA
      refine d_done (by kernel_rfl) ?_
      refine TN ?_
      refine tcond (b := ((l_0.getD i104.toNat (Vector.replicate 32 0 : Vector Int 32)) == id_1)) hA rfl (fun hb117 => ?_) (fun hb117 => ?_)
      · replace H105 := ite_t hb117 H105
        refine wp_seq ?_
        refine wp_region_lit ?_
        refine L1 (stv hA (by decide) (run_assign (hA.ev rfl)) ?_)
        clear hA; intro a hA
        refine LQ ?_
        refine TN ?_
        refine wp_ret ?_
        obtain rfl := Option.some.inj H105
        dsimp only at H
        obtain rfl := Option.some.inj H
        refine BR ?_
        refine TR ?_
        refine TR ?_
        refine BR ?_
        refine TR ?_
        refine TR ?_
        exact ret_post1 (fn := Try.f36) hA rfl rfl ⟨_, rfl, rfl, (hM.sel [] rfl (by decide))⟩
      · replace H105 := ite_f hb117 H105
        refine wp_skip ?_
        refine BN ?_
        refine TN ?_
        refine wp_region_lit ?_
        refine L1 (stv hA (by decide) (run_move (hA.ev rfl)) ?_)
        clear hA; intro a hA
        refine L1 (stv hA (by decide) (run_bin (hA.ev rfl) (hA.ev rfl) (bin_add _ _ _ _)) ?_)
        clear hA; intro a hA
        refine L1 (stv hA (by decide) (run_assign (hA.ev rfl)) ?_)
        clear hA; intro a hA
        refine LQ ?_
        exact ⟨_, Nat.lt_succ_self m107, IntKind.i64.wrap (i104 + 1), H105, hM, (((hA.nil.cons (hA.get 5 _ rfl)).cons (hA.get 3 _ rfl)).cons (hA.get 0 _ rfl))⟩
    · replace H105 := ite_f hb109 H105
      refine wp_exit ?_
      refine TX ?_
      refine TX ?_
      refine BX ?_
      exact ⟨Option.some.inj H105, (hM.sel [] rfl (by decide)), hA.nil⟩
  clear hM hA
  rintro a w118 ⟨rfl, hM, hA⟩
  try dsimp only at H
  refine TN ?_
  refine wp_seq ?_
  refine wp_region_lit ?_
  refine L1 (stv hA (by decide) (run_assign (hA.ev rfl)) ?_)
  clear hA; intro a hA
  refine LQ ?_
  refine TN ?_
  refine wp_ret ?_
  obtain rfl := Option.some.inj H
  exact ret_post1 (fn := Try.f36) hA rfl rfl ⟨_, rfl, rfl, hM⟩

def ref40_find.l0 (l_0 : (List Stem)) (id_1 : (Vector Int 32)) : Nat → Int → Option (Out Int (Unit))
  | 0, _ => none
  | k + 1, i104 => (if (decide (i104 < ((l_0.length : Nat) : Int))) = true then (if 0 ≤ i104 ∧ i104 < ((l_0.length : Nat) : Int) then (if (((l_0.getD i104.toNat Stem.z).ID) == id_1) = true then (some (.ret i104)) else (ref40_find.l0 l_0 id_1 k (IntKind.i64.wrap (i104 + 1)))) else none) else (some (.go ())))
def ref40_find.f (k : Nat) (l_0 : (List Stem)) (id_1 : (Vector Int 32)) : Option Int := (Option.bind (α := Out Int (Unit)) (ref40_find.l0 l_0 id_1 k 0) (fun o => match o with | .ret r => some r | .go _ => (some (-1))))
set_option maxRecDepth 100000 in
theorem ref40_find.calls (k : Nat) (l_0 : (List Stem)) (id_1 : (Vector Int 32)) (F : List (Option Nat)) (v0 : Value) (r : Int) (w0 : World) (h0 : RoV F pStem w0 v0 l_0) (hM : Mem F w0 w0 []) (H : ref40_find.f k l_0 id_1 = some r) :
    Calls Try.prog 37 #[v0, (.agg (pHash.enc id_1).toArray)] w0 fun e w' => ∃ v, e = .returned v ∧ v = (.int .i64 r) ∧ Mem F w0 w' [] := by
  unfold ref40_find.f at H
  obtain ⟨A0, c0, rfl, hr0, hc0⟩ := h0
  refine enterL (n := 20) [(.slice A0 l_0.length c0), (.agg (pHash.enc id_1).toArray)] Try.func37 rfl rfl rfl ?_
  intro a hA
  refine wp_seq ?_
  refine wp_region_lit ?_
  refine L1 (e_box (cs := (pHash.enc id_1)) hM hA rfl rfl (by decide) ?_)
  clear hM hA; intro w61 g60 hM hE  a hA
  refine L1 (stv hA (by decide) (run_assign (hA.ev rfl)) ?_)
  clear hA; intro a hA
  refine LQ ?_
  refine TN ?_
  refine wp_seq ?_
  refine wp_seq ?_
  refine wp_region_lit ?_
  refine L1 (stv hA (by decide) (run_assign (hA.ev rfl)) ?_)
  clear hA; intro a hA
  refine LQ ?_
  refine TN ?_
  obtain ⟨o106, H105, H⟩ := Option.bind_eq_some_iff.1 H
  refine cutC (fun a w => (.go ()) = o106 ∧ Mem F w0 w [] ∧ Has 20 [] a) ?_ ?_
  · refine wp_block ?_
    refine wp_loop_ghost (fun m a w => ∃ (i104 : Int), ref40_find.l0 l_0 id_1 m i104 = some o106 ∧ Mem F w0 w [.box g60 34 (pHash.enc id_1)] ∧ Has 20 [(0, (.slice A0 l_0.length c0)), (3, (.pointer (some (⟨g60, 0, none⟩)))), (5, (.int .i64 i104))] a) k ⟨0, H105, hM, (((hA.nil.cons (hA.get 5 _ rfl)).cons (hA.get 3 _ rfl)).cons (hA.get 0 _ rfl))⟩ ?_
    clear hM hA; rintro m107 a w108 ⟨i104, H105, hM, hA⟩
    cases m107 with
    | zero => exact absurd H105 (by simp [ref40_find.l0])
    | succ m107 =>
    rw [ref40_find.l0] at H105
    refine wp_seq ?_
    refine wp_seq ?_
    refine wp_region_lit ?_
    refine L1 (stv hA (by decide) (run_move (hA.ev rfl)) ?_)
    clear hA; intro a hA
    refine L1 (stv hA (by decide) (run_move (hA.ev rfl)) ?_)
    clear hA; intro a hA
    refine L1 (stv hA (by decide) (run_len_slice Try.underlying36 (hA.ev rfl)) ?_)
    clear hA; intro a hA
    refine L1 (stv hA (by decide) (run_bin (hA.ev rfl) (hA.ev rfl) (bin_lss _ _ _ _)) ?_)
    clear hA; intro a hA
    refine LQ ?_
    refine TN ?_
    refine tcond (b := (decide (i104 < ((l_0.length : Nat) : Int)))) hA rfl (fun hb109 => ?_) (fun hb109 => ?_)
    · replace H105 := ite_t hb109 H105
      refine wp_skip ?_
      refine TN ?_
      refine wp_seq ?_
      refine wp_block ?_
      refine wp_seq ?_
      refine draw (fun w' => Below w108.heap.size w108 w') [] rfl ?_
      intro w110 hw hS; replace hM := hM.ext hS; clear hw
      refine d_takef (i := 0) (L' := #[true, false, false, false, false, false, false]) rfl (by kernel_rfl) rfl (fun _ _ _ h => h) hA (by decide) (fun _ => hS) (fun a w' hA => run_move (hA.ev rfl)) ?_; clear hA; intro a hA
      refine d_takef (i := 1) (L' := #[true, true, false, false, false, false, false]) rfl (by kernel_rfl) rfl (fun _ _ _ h => h) hA (by decide) (fun _ => hS) (fun a w' hA => run_move (hA.ev rfl)) ?_; clear hA; intro a hA
      obtain ⟨⟨hi112, hj113⟩, H105⟩ := ite_some H105
      obtain ⟨ad114, hq115, hat116⟩ := Row.elem' (p := pStem) (hM.ro hr0) (Eq.refl l_0.length) Stem.z i104 hi112 hj113
      refine d_takef (i := 2) (L' := #[true, true, true, false, false, false, false]) rfl (by kernel_rfl) rfl (fun _ _ _ h => h) hA (by decide) (fun _ => hS) (fun a w' hA => run_idx Try.underlying36 Try.sizeOf61 (hA.ev rfl) hq115 (hA.ev rfl) hi112 hj113) ?_; clear hA; intro a hA
      refine d_takef (i := 3) (L' := #[true, true, true, true, false, false, false]) rfl (by kernel_rfl) rfl (fun _ _ _ h => h) hA (by decide) (fun _ => hS) (fun a w' hA => run_field' Try.underlying61 rfl rfl Try.sizeOf34 (by decide) (hA.ev rfl)) ?_; clear hA; intro a hA
      refine rebase hS ?_; clear hS; intro hS
      refine d_take (i := 4) (L' := #[true, true, true, true, true, false, false]) rfl (by kernel_rfl) rfl (fun _ _ _ h => h) hA (by decide) rfl hS (fun a w' hA hS' => run_ld (hA.ev rfl) (run_loadP Try.isAgg34 Try.sizeOf34 ((Stem.at_ID (hat116)).extB hS'))) ?_; clear hA; intro a hA
      refine d_take (i := 5) (L' := #[true, true, true, true, true, true, false]) rfl (by kernel_rfl) rfl (fun _ _ _ h => h) hA (by decide) rfl hS (fun a w' hA hS' => run_ld (hA.ev rfl) (run_loadP Try.isAgg34 Try.sizeOf34 ((hM.box .z).extB hS'))) ?_; clear hA; intro a hA
      refine d_takef (i := 6) (L' := #[true, true, true, true, true, true, true]) rfl (by kernel_rfl) rfl (fun _ _ _ h => h) hA (by decide) (fun _ => hS) (fun a w' hA => run_aggeql eq_Hash rfl (by kernel_rfl) (hA.ev rfl) (hA.ev rfl)) ?_; clear hA; intro a hA
      refine d_done (by kernel_rfl) ?_
      refine TN ?_
      refine tcond (b := (((l_0.getD i104.toNat Stem.z).ID) == id_1)) hA rfl (fun hb117 => ?_) (fun hb117 => ?_)
      · replace H105 := ite_t hb117 H105
        refine wp_seq ?_
        refine wp_region_lit ?_
        refine L1 (stv hA (by decide) (run_move (hA.ev rfl)) ?_)
        clear hA; intro a hA
        refine L1 (stv hA (by decide) (run_assign (hA.ev rfl)) ?_)
        clear hA; intro a hA
        refine LQ ?_
        refine TN ?_
        refine wp_ret ?_
        obtain rfl := Option.some.inj H105
        dsimp only at H
        obtain rfl := Option.some.inj H
        refine BR ?_
        refine TR ?_
        refine TR ?_
        refine BR ?_
        refine TR ?_
        refine TR ?_
        exact ret_post1 (fn := Try.f37) hA rfl rfl ⟨_, rfl, rfl, (hM.sel [] rfl (by decide))⟩
      · replace H105 := ite_f hb117 H105
        refine wp_skip ?_
        refine BN ?_
        refine TN ?_
        refine wp_region_lit ?_
        refine L1 (stv hA (by decide) (run_move (hA.ev rfl)) ?_)
        clear hA; intro a hA
        refine L1 (stv hA (by decide) (run_bin (hA.ev rfl) (hA.ev rfl) (bin_add _ _ _ _)) ?_)
        clear hA; intro a hA
        refine L1 (stv hA (by decide) (run_assign (hA.ev rfl)) ?_)
        clear hA; intro a hA
        refine LQ ?_
        exact ⟨_, Nat.lt_succ_self m107, IntKind.i64.wrap (i104 + 1), H105, hM, (((hA.nil.cons (hA.get 5 _ rfl)).cons (hA.get 3 _ rfl)).cons (hA.get 0 _ rfl))⟩
    · replace H105 := ite_f hb109 H105
      refine wp_exit ?_
      refine TX ?_
      refine TX ?_
      refine BX ?_
      exact ⟨Option.some.inj H105, (hM.sel [] rfl (by decide)), hA.nil⟩
  clear hM hA
  rintro a w118 ⟨rfl, hM, hA⟩
  try dsimp only at H
  refine TN ?_
  refine wp_seq ?_
  refine wp_region_lit ?_
  refine L1 (stv hA (by decide) (run_assign (hA.ev rfl)) ?_)
  clear hA; intro a hA
  refine LQ ?_
  refine TN ?_
  refine wp_ret ?_
  obtain rfl := Option.some.inj H
  exact ret_post1 (fn := Try.f37) hA rfl rfl ⟨_, rfl, rfl, hM⟩

def ref40_Sound.l0 (r_0 : Relay) : Nat → Int → Option (Out Bool (Unit))
  | 0, _ => none
  | k + 1, i618 => (if (decide (i618 < ((r_0.Routes.length : Nat) : Int))) = true then (Option.bind (α := Bool) (if 0 ≤ i618 ∧ i618 < ((r_0.Routes.length : Nat) : Int) then (if (decide ((r_0.Routes.getD i618.toNat (0 : Int)) < 0)) = true then (some true) else (if (decide (i618 > 0)) = true then (if 0 ≤ (0 : Int) ∧ (0 : Int) < ((r_0.Routes.length : Nat) : Int) then (if 0 ≤ (1 : Int) ∧ (1 : Int) < ((r_0.Routes.length : Nat) : Int) then (some ((r_0.Routes.getD (0 : Int).toNat (0 : Int)) == (r_0.Routes.getD (1 : Int).toNat (0 : Int)))) else none) else none) else (some false))) else none) (fun t647 => (if t647 = true then (some (.ret false)) else (ref40_Sound.l0 r_0 k (IntKind.i64.wrap (i618 + 1)))))) else (some (.go ())))
def ref40_Sound.l1 (r_0 : Relay) : Nat → Int → Option (Out Bool (Unit))
  | 0, _ => none
  | k + 1, i724 => (if (decide (i724 < ((r_0.Fluffed.length : Nat) : Int))) = true then (if 0 ≤ i724 ∧ i724 ≤ ((r_0.Fluffed.length : Nat) : Int) then (if 0 ≤ i724 ∧ i724 < ((r_0.Fluffed.length : Nat) : Int) then ((ref40_has.f k (r_0.Fluffed.take i724.toNat) (r_0.Fluffed.getD i724.toNat (Vector.replicate 32 0 : Vector Int 32))).bind fun r740 => (if r740 = true then (some (.ret false)) else (ref40_Sound.l1 r_0 k (IntKind.i64.wrap (i724 + 1))))) else none) else none) else (some (.go ())))
def ref40_Sound.l2 (r_0 : Relay) : Nat → Int → Option (Out Bool (Unit))
  | 0, _ => none
  | k + 1, i896 => (if (decide (i896 < ((r_0.Stems.length : Nat) : Int))) = true then (Option.bind (α := Bool) (if 0 ≤ i896 ∧ i896 < ((r_0.Stems.length : Nat) : Int) then ((ref40_find.f k r_0.Stems ((r_0.Stems.getD i896.toNat Stem.z).ID)).bind fun r934 => (if (r934 != i896) = true then (some true) else (if 0 ≤ i896 ∧ i896 < ((r_0.Stems.length : Nat) : Int) then ((ref40_has.f k r_0.Fluffed ((r_0.Stems.getD i896.toNat Stem.z).ID)).bind fun r943 => (some r943)) else none))) else none) (fun t924 => (if t924 = true then (some (.ret false)) else (ref40_Sound.l2 r_0 k (IntKind.i64.wrap (i896 + 1)))))) else (some (.go ())))
def ref40_Sound.f (k : Nat) (r_0 : Relay) : Option Bool := (Option.bind (α := Bool) (if (decide (((r_0.Routes.length : Nat) : Int) > 2)) = true then (some true) else (if (decide (((r_0.Stems.length : Nat) : Int) > 64)) = true then (some true) else (some (decide (((r_0.Fluffed.length : Nat) : Int) > 2048))))) (fun t482 => (if t482 = true then (some false) else (Option.bind (α := Out Bool (Unit)) (ref40_Sound.l0 r_0 k 0) (fun o => match o with | .ret r => some r | .go _ => (Option.bind (α := Out Bool (Unit)) (ref40_Sound.l1 r_0 k 0) (fun o => match o with | .ret r => some r | .go _ => (Option.bind (α := Out Bool (Unit)) (ref40_Sound.l2 r_0 k 0) (fun o => match o with | .ret r => some r | .go _ => (some true))))))))))
set_option maxRecDepth 100000 in
theorem ref40_Sound.calls (k : Nat) (r_0 : Relay) (F : List (Option Nat)) (v0_2 : Value) (v0_3 : Value) (v0_4 : Value) (r : Bool) (w0 : World) (h0_2 : RoV F (Pl.int .i64) w0 v0_2 r_0.Routes) (h0_3 : RoV F pStem w0 v0_3 r_0.Stems) (h0_4 : RoV F pHash w0 v0_4 r_0.Fluffed) (hM : Mem F w0 w0 []) (H : ref40_Sound.f k r_0 = some r) :
    Calls Try.prog 35 #[(.agg #[(.int .u32 r_0.Epoch), (.bool r_0.Diffuse), v0_2, v0_3, v0_4])] w0 fun e w' => ∃ v, e = .returned v ∧ v = (.bool r) ∧ Mem F w0 w' [] := by
  unfold ref40_Sound.f at H
  obtain ⟨A0_2, c0_2, rfl, hr0_2, hc0_2⟩ := h0_2
  obtain ⟨A0_3, c0_3, rfl, hr0_3, hc0_3⟩ := h0_3
  obtain ⟨A0_4, c0_4, rfl, hr0_4, hc0_4⟩ := h0_4
  refine enterL (n := 96) [(.agg #[(.int .u32 r_0.Epoch), (.bool r_0.Diffuse), (.slice A0_2 r_0.Routes.length c0_2), (.slice A0_3 r_0.Stems.length c0_3), (.slice A0_4 r_0.Fluffed.length c0_4)])] Try.func35 rfl rfl rfl ?_
  intro a hA
  refine wp_seq ?_
  refine wp_region_lit ?_
  refine L1 (e_box (cs := [(.int .u32 r_0.Epoch), (.bool r_0.Diffuse), (.slice A0_2 r_0.Routes.length c0_2), (.slice A0_3 r_0.Stems.length c0_3), (.slice A0_4 r_0.Fluffed.length c0_4)]) hM hA rfl rfl (by decide) ?_)
  clear hM hA; intro w476 g475 hM hE  a hA
  refine L1 (stv hA (by decide) (run_assign (hA.ev rfl)) ?_)
  clear hA; intro a hA
  refine LQ ?_
  refine TN ?_
  refine wp_seq ?_
  refine wp_seq ?_
  obtain ⟨o484, H483, H⟩ := Option.bind_eq_some_iff.1 H
  refine cutC (fun a w => ∃ (t482 : Bool), t482 = o484 ∧ Mem F w0 w [.box g475 39 [(.int .u32 r_0.Epoch), (.bool r_0.Diffuse), (.slice A0_2 r_0.Routes.length c0_2), (.slice A0_3 r_0.Stems.length c0_3), (.slice A0_4 r_0.Fluffed.length c0_4)]] ∧ Has 96 [(1, (.pointer (some (⟨g475, 0, none⟩)))), (21, (.bool t482))] a) ?_ ?_
  · refine wp_region_lit ?_
    refine L1 (stv hA (by decide) (run_field' Try.underlying39 rfl rfl Try.sizeOf22 (by decide) (hA.ev rfl)) ?_)
    clear hA; intro a hA
    refine L1 (stv hA (by decide) (run_ld (hA.ev rfl) (run_loadS Try.isAgg22 (At.seg1 (hM.box .z) 2 rfl))) ?_)
    clear hA; intro a hA
    refine L1 (stv hA (by decide) (run_len_slice Try.underlying22 (hA.ev rfl)) ?_)
    clear hA; intro a hA
    refine L1 (stv hA (by decide) (run_bin (hA.ev rfl) (hA.ev rfl) (bin_gtr _ _ _ _)) ?_)
    clear hA; intro a hA
    refine L1 (stv hA (by decide) (run_move (hA.ev rfl)) ?_)
    clear hA; intro a hA
    refine bsplit (b := (decide (((r_0.Routes.length : Nat) : Int) > 2))) (fun hb485 => ?_) (fun hb485 => ?_)
    · replace H483 := ite_t hb485 H483
      have hA := hA.re (t := 10) rfl (congrArg Value.bool hb485)
      refine L1 (gate_off rfl (by decide) rfl hA (by decide) rfl rfl ?_); clear hA; intro a hA
      refine L1 (gate_off rfl (by decide) rfl hA (by decide) rfl rfl ?_); clear hA; intro a hA
      refine L1 (gate_off rfl (by decide) rfl hA (by decide) rfl rfl ?_); clear hA; intro a hA
      refine L1 (gate_off rfl (by decide) rfl hA (by decide) rfl rfl ?_); clear hA; intro a hA
      refine L1 (stv hA (by decide) (run_pick (hA.ev rfl) (fun _ => hA.ev rfl) (fun h => Bool.noConfusion h)) ?_)
      clear hA; intro a hA
      refine L1 (stv hA (by decide) (run_move (hA.ev rfl)) ?_)
      clear hA; intro a hA
      refine L1 (gate_off rfl (by decide) rfl hA (by decide) rfl rfl ?_); clear hA; intro a hA
      refine L1 (gate_off rfl (by decide) rfl hA (by decide) rfl rfl ?_); clear hA; intro a hA
      refine L1 (gate_off rfl (by decide) rfl hA (by decide) rfl rfl ?_); clear hA; intro a hA
      refine L1 (gate_off rfl (by decide) rfl hA (by decide) rfl rfl ?_); clear hA; intro a hA
      refine L1 (stv hA (by decide) (run_pick (hA.ev rfl) (fun _ => hA.ev rfl) (fun h => Bool.noConfusion h)) ?_)
      clear hA; intro a hA
      refine LQ ?_
      exact ⟨true, Option.some.inj H483, hM, ((hA.nil.cons (hA.get 21 _ rfl)).cons (hA.get 1 _ rfl))⟩
    · replace H483 := ite_f hb485 H483
      have hA := hA.re (t := 10) rfl (congrArg Value.bool hb485)
      refine L1 (gate_on rfl rfl hA (by decide) rfl (stv hA (by decide) (run_field' Try.underlying39 rfl rfl Try.sizeOf36 (by decide) (hA.ev rfl)) ?_))
      clear hA; intro a hA
      refine L1 (gate_on rfl rfl hA (by decide) rfl (stv hA (by decide) (run_ld (hA.ev rfl) (run_loadS Try.isAgg36 (At.seg1 (hM.box .z) 3 rfl))) ?_))
      clear hA; intro a hA
      refine L1 (gate_on rfl rfl hA (by decide) rfl (stv hA (by decide) (run_len_slice Try.underlying36 (hA.ev rfl)) ?_))
      clear hA; intro a hA
      refine L1 (gate_on rfl rfl hA (by decide) rfl (stv hA (by decide) (run_bin (hA.ev rfl) (hA.ev rfl) (bin_gtr _ _ _ _)) ?_))
      clear hA; intro a hA
      refine L1 (stv hA (by decide) (run_pick (hA.ev rfl) (fun h => Bool.noConfusion h) (fun _ => hA.ev rfl)) ?_)
      clear hA; intro a hA
      refine L1 (stv hA (by decide) (run_move (hA.ev rfl)) ?_)
      clear hA; intro a hA
      refine bsplit (b := (decide (((r_0.Stems.length : Nat) : Int) > 64))) (fun hb486 => ?_) (fun hb486 => ?_)
      · replace H483 := ite_t hb486 H483
        have hA := hA.re (t := 16) rfl (congrArg Value.bool hb486)
        refine L1 (gate_off rfl (by decide) rfl hA (by decide) rfl rfl ?_); clear hA; intro a hA
        refine L1 (gate_off rfl (by decide) rfl hA (by decide) rfl rfl ?_); clear hA; intro a hA
        refine L1 (gate_off rfl (by decide) rfl hA (by decide) rfl rfl ?_); clear hA; intro a hA
        refine L1 (gate_off rfl (by decide) rfl hA (by decide) rfl rfl ?_); clear hA; intro a hA
        refine L1 (stv hA (by decide) (run_pick (hA.ev rfl) (fun _ => hA.ev rfl) (fun h => Bool.noConfusion h)) ?_)
        clear hA; intro a hA
        refine LQ ?_
        exact ⟨true, Option.some.inj H483, hM, ((hA.nil.cons (hA.get 21 _ rfl)).cons (hA.get 1 _ rfl))⟩
      · replace H483 := ite_f hb486 H483
        have hA := hA.re (t := 16) rfl (congrArg Value.bool hb486)
        refine L1 (gate_on rfl rfl hA (by decide) rfl (stv hA (by decide) (run_field' Try.underlying39 rfl rfl Try.sizeOf37 (by decide) (hA.ev rfl)) ?_))
        clear hA; intro a hA
        refine L1 (gate_on rfl rfl hA (by decide) rfl (stv hA (by decide) (run_ld (hA.ev rfl) (run_loadS Try.isAgg37 (At.seg1 (hM.box .z) 4 rfl))) ?_))
        clear hA; intro a hA
        refine L1 (gate_on rfl rfl hA (by decide) rfl (stv hA (by decide) (run_len_slice Try.underlying37 (hA.ev rfl)) ?_))
        clear hA; intro a hA
        refine L1 (gate_on rfl rfl hA (by decide) rfl (stv hA (by decide) (run_bin (hA.ev rfl) (hA.ev rfl) (bin_gtr _ _ _ _)) ?_))
        clear hA; intro a hA
        refine L1 (stv hA (by decide) (run_pick (hA.ev rfl) (fun h => Bool.noConfusion h) (fun _ => hA.ev rfl)) ?_)
        clear hA; intro a hA
        refine LQ ?_
        exact ⟨(decide (((r_0.Fluffed.length : Nat) : Int) > 2048)), Option.some.inj H483, hM, ((hA.nil.cons (hA.get 21 _ rfl)).cons (hA.get 1 _ rfl))⟩
  clear hM hA
  rintro a w487 ⟨t482, rfl, hM, hA⟩
  try dsimp only at H
  refine TN ?_
  refine tcond (b := t482) hA rfl (fun hb488 => ?_) (fun hb488 => ?_)
  · replace H := ite_t hb488 H
    refine wp_seq ?_
    refine wp_region_lit ?_
    refine L1 (stv hA (by decide) (run_assign (hA.ev rfl)) ?_)
    clear hA; intro a hA
    refine LQ ?_
    refine TN ?_
    refine wp_ret ?_
    obtain rfl := Option.some.inj H
    refine TR ?_
    exact ret_post1 (fn := Try.f35) hA rfl rfl ⟨_, rfl, rfl, (hM.sel [] rfl (by decide))⟩
  · replace H := ite_f hb488 H
    refine wp_skip ?_
    refine TN ?_
    refine wp_seq ?_
    refine wp_seq ?_
    refine wp_region_lit ?_
    refine L1 (stv hA (by decide) (run_assign (hA.ev rfl)) ?_)
    clear hA; intro a hA
    refine LQ ?_
    refine TN ?_
    obtain ⟨o621, H620, H⟩ := Option.bind_eq_some_iff.1 H
    refine cutC (fun a w => (.go ()) = o621 ∧ Mem F w0 w [.box g475 39 [(.int .u32 r_0.Epoch), (.bool r_0.Diffuse), (.slice A0_2 r_0.Routes.length c0_2), (.slice A0_3 r_0.Stems.length c0_3), (.slice A0_4 r_0.Fluffed.length c0_4)]] ∧ Has 96 [(1, (.pointer (some (⟨g475, 0, none⟩))))] a) ?_ ?_
    · refine wp_block ?_
      refine wp_loop_ghost (fun m a w => ∃ (i618 : Int), ref40_Sound.l0 r_0 m i618 = some o621 ∧ Mem F w0 w [.box g475 39 [(.int .u32 r_0.Epoch), (.bool r_0.Diffuse), (.slice A0_2 r_0.Routes.length c0_2), (.slice A0_3 r_0.Stems.length c0_3), (.slice A0_4 r_0.Fluffed.length c0_4)]] ∧ Has 96 [(1, (.pointer (some (⟨g475, 0, none⟩)))), (3, (.int .i64 i618))] a) k ⟨0, H620, hM, ((hA.nil.cons (hA.get 3 _ rfl)).cons (hA.get 1 _ rfl))⟩ ?_
      clear hM hA; rintro m622 a w623 ⟨i618, H620, hM, hA⟩
      cases m622 with
      | zero => exact absurd H620 (by simp [ref40_Sound.l0])
      | succ m622 =>
      rw [ref40_Sound.l0] at H620
      refine wp_seq ?_
      refine wp_seq ?_
      refine wp_region_lit ?_
      refine L1 (stv hA (by decide) (run_move (hA.ev rfl)) ?_)
      clear hA; intro a hA
      refine L1 (stv hA (by decide) (run_field' Try.underlying39 rfl rfl Try.sizeOf22 (by decide) (hA.ev rfl)) ?_)
      clear hA; intro a hA
      refine L1 (stv hA (by decide) (run_ld (hA.ev rfl) (run_loadS Try.isAgg22 (At.seg1 (hM.box .z) 2 rfl))) ?_)
      clear hA; intro a hA
      refine L1 (stv hA (by decide) (run_len_slice Try.underlying22 (hA.ev rfl)) ?_)
      clear hA; intro a hA
      refine L1 (stv hA (by decide) (run_bin (hA.ev rfl) (hA.ev rfl) (bin_lss _ _ _ _)) ?_)
      clear hA; intro a hA
      refine LQ ?_
      refine TN ?_
      refine tcond (b := (decide (i618 < ((r_0.Routes.length : Nat) : Int)))) hA rfl (fun hb624 => ?_) (fun hb624 => ?_)
      · replace H620 := ite_t hb624 H620
        refine wp_skip ?_
        refine TN ?_
        refine wp_seq ?_
        refine wp_block ?_
        refine wp_seq ?_
        obtain ⟨o649, H648, H620⟩ := Option.bind_eq_some_iff.1 H620
        refine cutC (fun a w => ∃ (t647 : Bool), t647 = o649 ∧ Mem F w0 w [.box g475 39 [(.int .u32 r_0.Epoch), (.bool r_0.Diffuse), (.slice A0_2 r_0.Routes.length c0_2), (.slice A0_3 r_0.Stems.length c0_3), (.slice A0_4 r_0.Fluffed.length c0_4)]] ∧ Has 96 [(1, (.pointer (some (⟨g475, 0, none⟩)))), (3, (.int .i64 i618)), (49, (.bool t647))] a) ?_ ?_
        · refine draw (fun w' => Below w623.heap.size w623 w') [] rfl ?_
          intro w650 hw hS; replace hM := hM.ext hS; clear hw
          refine d_takef (i := 0) (L' := #[true, false, false, false, false, false, false, false, false, false, false, false, false, false, false, false, false, false, false, false, false]) rfl (by kernel_rfl) rfl (fun _ _ _ h => h) hA (by decide) (fun _ => hS) (fun a w' hA => run_field' Try.underlying39 rfl rfl Try.sizeOf22 (by decide) (hA.ev rfl)) ?_; clear hA; intro a hA
          refine rebase hS ?_; clear hS; intro hS
          refine d_take (i := 1) (L' := #[true, true, false, false, false, false, false, false, false, false, false, false, false, false, false, false, false, false, false, false, false]) rfl (by kernel_rfl) rfl (fun _ _ _ h => h) hA (by decide) rfl hS (fun a w' hA hS' => run_ld (hA.ev rfl) (run_loadS Try.isAgg22 ((At.seg1 (hM.box .z) 2 rfl).extB hS'))) ?_; clear hA; intro a hA
          refine d_takef (i := 2) (L' := #[true, true, true, false, false, false, false, false, false, false, false, false, false, false, false, false, false, false, false, false, false]) rfl (by kernel_rfl) rfl (fun _ _ _ h => h) hA (by decide) (fun _ => hS) (fun a w' hA => run_move (hA.ev rfl)) ?_; clear hA; intro a hA
          obtain ⟨⟨hi652, hj653⟩, H648⟩ := ite_some H648
          obtain ⟨ad654, hq655, hat656⟩ := Row.elem' (p := (Pl.int .i64)) (hM.ro hr0_2) (Eq.refl r_0.Routes.length) (0 : Int) i618 hi652 hj653
          refine d_takef (i := 3) (L' := #[true, true, true, true, false, false, false, false, false, false, false, false, false, false, false, false, false, false, false, false, false]) rfl (by kernel_rfl) rfl (fun _ _ _ h => h) hA (by decide) (fun _ => hS) (fun a w' hA => run_idx Try.underlying22 Try.sizeOf3 (hA.ev rfl) hq655 (hA.ev rfl) hi652 hj653) ?_; clear hA; intro a hA
          refine d_take (i := 4) (L' := #[true, true, true, true, true, false, false, false, false, false, false, false, false, false, false, false, false, false, false, false, false]) rfl (by kernel_rfl) rfl (fun _ _ _ h => h) hA (by decide) rfl hS (fun a w' hA hS' => run_ld (hA.ev rfl) (run_loadS Try.isAgg3 ((hat656).extB hS'))) ?_; clear hA; intro a hA
          refine d_takef (i := 5) (L' := #[true, true, true, true, true, true, false, false, false, false, false, false, false, false, false, false, false, false, false, false, false]) rfl (by kernel_rfl) rfl (fun _ _ _ h => h) hA (by decide) (fun _ => hS) (fun a w' hA => run_bin (hA.ev rfl) (hA.ev rfl) (bin_lss _ _ _ _)) ?_; clear hA; intro a hA
          refine d_takef (i := 6) (L' := #[true, true, true, true, true, true, true, false, false, false, false, false, false, false, false, false, false, false, false, false, false]) rfl (by kernel_rfl) rfl (fun _ _ _ h => h) hA (by decide) (fun _ => hS) (fun a w' hA => run_move (hA.ev rfl)) ?_; clear hA; intro a hA
          refine bsplit (b := (decide ((r_0.Routes.getD i618.toNat (0 : Int)) < 0))) (fun hb657 => ?_) (fun hb657 => ?_)
          · replace H648 := ite_t hb657 H648
            have hA := hA.re (t := 35) rfl (congrArg Value.bool hb657)
            refine d_skip (i := 7) (L' := #[true, true, true, true, true, true, true, true, false, false, false, false, false, false, false, false, false, false, false, false, false]) rfl (by kernel_rfl) rfl (fun _ _ _ h => h) rfl hA (by decide) (by decide) rfl rfl (fun _ => hS) ?_; clear hA; intro a hA
            refine d_skip (i := 8) (L' := #[true, true, true, true, true, true, true, true, true, false, false, false, false, false, false, false, false, false, false, false, false]) rfl (by kernel_rfl) rfl (fun _ _ _ h => h) rfl hA (by decide) (by decide) rfl rfl (fun _ => hS) ?_; clear hA; intro a hA
            refine d_skip (i := 9) (L' := #[true, true, true, true, true, true, true, true, true, true, false, false, false, false, false, false, false, false, false, false, false]) rfl (by kernel_rfl) rfl (fun _ _ _ h => h) rfl hA (by decide) (by decide) rfl rfl (fun _ => hS) ?_; clear hA; intro a hA
            refine d_skipu (i := 10) (L' := #[true, true, true, true, true, true, true, true, true, true, true, false, false, false, false, false, false, false, false, false, false]) rfl (by kernel_rfl) rfl (fun _ _ _ h => h) rfl hA (by decide) (by decide) rfl (fun _ => hS) ?_; clear hA; intro a hA
            refine d_skipu (i := 11) (L' := #[true, true, true, true, true, true, true, true, true, true, true, true, false, false, false, false, false, false, false, false, false]) rfl (by kernel_rfl) rfl (fun _ _ _ h => h) rfl hA (by decide) (by decide) rfl (fun _ => hS) ?_; clear hA; intro a hA
            refine d_skipu (i := 12) (L' := #[true, true, true, true, true, true, true, true, true, true, true, true, true, false, false, false, false, false, false, false, false]) rfl (by kernel_rfl) rfl (fun _ _ _ h => h) rfl hA (by decide) (by decide) rfl (fun _ => hS) ?_; clear hA; intro a hA
            refine d_skipu (i := 13) (L' := #[true, true, true, true, true, true, true, true, true, true, true, true, true, true, false, false, false, false, false, false, false]) rfl (by kernel_rfl) rfl (fun _ _ _ h => h) rfl hA (by decide) (by decide) rfl (fun _ => hS) ?_; clear hA; intro a hA
            refine d_skipu (i := 14) (L' := #[true, true, true, true, true, true, true, true, true, true, true, true, true, true, true, false, false, false, false, false, false]) rfl (by kernel_rfl) rfl (fun _ _ _ h => h) rfl hA (by decide) (by decide) rfl (fun _ => hS) ?_; clear hA; intro a hA
            refine d_skipu (i := 15) (L' := #[true, true, true, true, true, true, true, true, true, true, true, true, true, true, true, true, false, false, false, false, false]) rfl (by kernel_rfl) rfl (fun _ _ _ h => h) rfl hA (by decide) (by decide) rfl (fun _ => hS) ?_; clear hA; intro a hA
            refine d_skipu (i := 16) (L' := #[true, true, true, true, true, true, true, true, true, true, true, true, true, true, true, true, true, false, false, false, false]) rfl (by kernel_rfl) rfl (fun _ _ _ h => h) rfl hA (by decide) (by decide) rfl (fun _ => hS) ?_; clear hA; intro a hA
            refine d_skipu (i := 17) (L' := #[true, true, true, true, true, true, true, true, true, true, true, true, true, true, true, true, true, true, false, false, false]) rfl (by kernel_rfl) rfl (fun _ _ _ h => h) rfl hA (by decide) (by decide) rfl (fun _ => hS) ?_; clear hA; intro a hA
            refine d_skipu (i := 18) (L' := #[true, true, true, true, true, true, true, true, true, true, true, true, true, true, true, true, true, true, true, false, false]) rfl (by kernel_rfl) rfl (fun _ _ _ h => h) rfl hA (by decide) (by decide) rfl (fun _ => hS) ?_; clear hA; intro a hA
            refine d_skip (i := 19) (L' := #[true, true, true, true, true, true, true, true, true, true, true, true, true, true, true, true, true, true, true, true, false]) rfl (by kernel_rfl) rfl (fun _ _ _ h => h) rfl hA (by decide) (by decide) rfl rfl (fun _ => hS) ?_; clear hA; intro a hA
            refine d_takef (i := 20) (L' := #[true, true, true, true, true, true, true, true, true, true, true, true, true, true, true, true, true, true, true, true, true]) rfl (by kernel_rfl) rfl (fun _ _ _ h => h) hA (by decide) (fun _ => hS) (fun a w' hA => run_pick (hA.ev rfl) (fun _ => hA.ev rfl) (fun h => Bool.noConfusion h)) ?_; clear hA; intro a hA
            refine d_done (by kernel_rfl) ?_
            exact ⟨true, Option.some.inj H648, hM, (((hA.nil.cons (hA.get 49 _ rfl)).cons (hA.get 3 _ rfl)).cons (hA.get 1 _ rfl))⟩
          · replace H648 := ite_f hb657 H648
            have hA := hA.re (t := 35) rfl (congrArg Value.bool hb657)
            refine d_takegf (i := 7) (L' := #[true, true, true, true, true, true, true, true, false, false, false, false, false, false, false, false, false, false, false, false, false]) rfl (by kernel_rfl) rfl (fun _ _ _ h => h) rfl hA (by decide) (by decide) rfl (fun _ => hS) (fun a w' hA => run_move (hA.ev rfl)) ?_; clear hA; intro a hA
            refine d_takegf (i := 8) (L' := #[true, true, true, true, true, true, true, true, true, false, false, false, false, false, false, false, false, false, false, false, false]) rfl (by kernel_rfl) rfl (fun _ _ _ h => h) rfl hA (by decide) (by decide) rfl (fun _ => hS) (fun a w' hA => run_bin (hA.ev rfl) (hA.ev rfl) (bin_gtr _ _ _ _)) ?_; clear hA; intro a hA
            refine d_takegf (i := 9) (L' := #[true, true, true, true, true, true, true, true, true, true, false, false, false, false, false, false, false, false, false, false, false]) rfl (by kernel_rfl) rfl (fun _ _ _ h => h) rfl hA (by decide) (by decide) rfl (fun _ => hS) (fun a w' hA => run_move (hA.ev rfl)) ?_; clear hA; intro a hA
            refine bsplit (b := (decide (i618 > 0))) (fun hb658 => ?_) (fun hb658 => ?_)
            · replace H648 := ite_t hb658 H648
              have hA := hA.re (t := 38) rfl (congrArg Value.bool hb658)
              refine d_takegf (i := 10) (L' := #[true, true, true, true, true, true, true, true, true, true, true, false, false, false, false, false, false, false, false, false, false]) rfl (by kernel_rfl) rfl (fun _ _ _ h => h) rfl hA (by decide) (by decide) rfl (fun _ => hS) (fun a w' hA => run_field' Try.underlying39 rfl rfl Try.sizeOf22 (by decide) (hA.ev rfl)) ?_; clear hA; intro a hA
              refine d_takeg (i := 11) (L' := #[true, true, true, true, true, true, true, true, true, true, true, true, false, false, false, false, false, false, false, false, false]) rfl (by kernel_rfl) rfl (fun _ _ _ h => h) rfl hA (by decide) (by decide) rfl rfl hS (fun a w' hA hS' => run_ld (hA.ev rfl) (run_loadS Try.isAgg22 ((At.seg1 (hM.box .z) 2 rfl).extB hS'))) ?_; clear hA; intro a hA
              obtain ⟨⟨hi659, hj660⟩, H648⟩ := ite_some H648
              obtain ⟨ad661, hq662, hat663⟩ := Row.elem' (p := (Pl.int .i64)) (hM.ro hr0_2) (Eq.refl r_0.Routes.length) (0 : Int) (0 : Int) hi659 hj660
              refine d_takegf (i := 12) (L' := #[true, true, true, true, true, true, true, true, true, true, true, true, true, false, false, false, false, false, false, false, false]) rfl (by kernel_rfl) rfl (fun _ _ _ h => h) rfl hA (by decide) (by decide) rfl (fun _ => hS) (fun a w' hA => run_idx Try.underlying22 Try.sizeOf3 (hA.ev rfl) hq662 (hA.ev rfl) hi659 hj660) ?_; clear hA; intro a hA
              refine d_takeg (i := 13) (L' := #[true, true, true, true, true, true, true, true, true, true, true, true, true, true, false, false, false, false, false, false, false]) rfl (by kernel_rfl) rfl (fun _ _ _ h => h) rfl hA (by decide) (by decide) rfl rfl hS (fun a w' hA hS' => run_ld (hA.ev rfl) (run_loadS Try.isAgg3 ((hat663).extB hS'))) ?_; clear hA; intro a hA
              refine d_takegf (i := 14) (L' := #[true, true, true, true, true, true, true, true, true, true, true, true, true, true, true, false, false, false, false, false, false]) rfl (by kernel_rfl) rfl (fun _ _ _ h => h) rfl hA (by decide) (by decide) rfl (fun _ => hS) (fun a w' hA => run_field' Try.underlying39 rfl rfl Try.sizeOf22 (by decide) (hA.ev rfl)) ?_; clear hA; intro a hA
              refine d_takeg (i := 15) (L' := #[true, true, true, true, true, true, true, true, true, true, true, true, true, true, true, true, false, false, false, false, false]) rfl (by kernel_rfl) rfl (fun _ _ _ h => h) rfl hA (by decide) (by decide) rfl rfl hS (fun a w' hA hS' => run_ld (hA.ev rfl) (run_loadS Try.isAgg22 ((At.seg1 (hM.box .z) 2 rfl).extB hS'))) ?_; clear hA; intro a hA
              obtain ⟨⟨hi664, hj665⟩, H648⟩ := ite_some H648
              obtain ⟨ad666, hq667, hat668⟩ := Row.elem' (p := (Pl.int .i64)) (hM.ro hr0_2) (Eq.refl r_0.Routes.length) (0 : Int) (1 : Int) hi664 hj665
              refine d_takegf (i := 16) (L' := #[true, true, true, true, true, true, true, true, true, true, true, true, true, true, true, true, true, false, false, false, false]) rfl (by kernel_rfl) rfl (fun _ _ _ h => h) rfl hA (by decide) (by decide) rfl (fun _ => hS) (fun a w' hA => run_idx Try.underlying22 Try.sizeOf3 (hA.ev rfl) hq667 (hA.ev rfl) hi664 hj665) ?_; clear hA; intro a hA
              refine d_takeg (i := 17) (L' := #[true, true, true, true, true, true, true, true, true, true, true, true, true, true, true, true, true, true, false, false, false]) rfl (by kernel_rfl) rfl (fun _ _ _ h => h) rfl hA (by decide) (by decide) rfl rfl hS (fun a w' hA hS' => run_ld (hA.ev rfl) (run_loadS Try.isAgg3 ((hat668).extB hS'))) ?_; clear hA; intro a hA
              refine d_takegf (i := 18) (L' := #[true, true, true, true, true, true, true, true, true, true, true, true, true, true, true, true, true, true, true, false, false]) rfl (by kernel_rfl) rfl (fun _ _ _ h => h) rfl hA (by decide) (by decide) rfl (fun _ => hS) (fun a w' hA => run_bin (hA.ev rfl) (hA.ev rfl) (bin_eql _ _ _ _)) ?_; clear hA; intro a hA
              refine d_takegf (i := 19) (L' := #[true, true, true, true, true, true, true, true, true, true, true, true, true, true, true, true, true, true, true, true, false]) rfl (by kernel_rfl) rfl (fun _ _ _ h => h) rfl hA (by decide) (by decide) rfl (fun _ => hS) (fun a w' hA => run_pick (hA.ev rfl) (fun _ => hA.ev rfl) (fun h => Bool.noConfusion h)) ?_; clear hA; intro a hA
              refine d_takef (i := 20) (L' := #[true, true, true, true, true, true, true, true, true, true, true, true, true, true, true, true, true, true, true, true, true]) rfl (by kernel_rfl) rfl (fun _ _ _ h => h) hA (by decide) (fun _ => hS) (fun a w' hA => run_pick (hA.ev rfl) (fun h => Bool.noConfusion h) (fun _ => hA.ev rfl)) ?_; clear hA; intro a hA
              refine d_done (by kernel_rfl) ?_
              exact ⟨((r_0.Routes.getD (0 : Int).toNat (0 : Int)) == (r_0.Routes.getD (1 : Int).toNat (0 : Int))), Option.some.inj H648, hM, (((hA.nil.cons (hA.get 49 _ rfl)).cons (hA.get 3 _ rfl)).cons (hA.get 1 _ rfl))⟩
            · replace H648 := ite_f hb658 H648
              have hA := hA.re (t := 38) rfl (congrArg Value.bool hb658)
              refine d_skip (i := 10) (L' := #[true, true, true, true, true, true, true, true, true, true, true, false, false, false, false, false, false, false, false, false, false]) rfl (by kernel_rfl) rfl (fun _ _ _ h => h) rfl hA (by decide) (by decide) rfl rfl (fun _ => hS) ?_; clear hA; intro a hA
              refine d_skip (i := 11) (L' := #[true, true, true, true, true, true, true, true, true, true, true, true, false, false, false, false, false, false, false, false, false]) rfl (by kernel_rfl) rfl (fun _ _ _ h => h) rfl hA (by decide) (by decide) rfl rfl (fun _ => hS) ?_; clear hA; intro a hA
              refine d_skip (i := 12) (L' := #[true, true, true, true, true, true, true, true, true, true, true, true, true, false, false, false, false, false, false, false, false]) rfl (by kernel_rfl) rfl (fun _ _ _ h => h) rfl hA (by decide) (by decide) rfl rfl (fun _ => hS) ?_; clear hA; intro a hA
              refine d_skip (i := 13) (L' := #[true, true, true, true, true, true, true, true, true, true, true, true, true, true, false, false, false, false, false, false, false]) rfl (by kernel_rfl) rfl (fun _ _ _ h => h) rfl hA (by decide) (by decide) rfl rfl (fun _ => hS) ?_; clear hA; intro a hA
              refine d_skip (i := 14) (L' := #[true, true, true, true, true, true, true, true, true, true, true, true, true, true, true, false, false, false, false, false, false]) rfl (by kernel_rfl) rfl (fun _ _ _ h => h) rfl hA (by decide) (by decide) rfl rfl (fun _ => hS) ?_; clear hA; intro a hA
              refine d_skip (i := 15) (L' := #[true, true, true, true, true, true, true, true, true, true, true, true, true, true, true, true, false, false, false, false, false]) rfl (by kernel_rfl) rfl (fun _ _ _ h => h) rfl hA (by decide) (by decide) rfl rfl (fun _ => hS) ?_; clear hA; intro a hA
              refine d_skip (i := 16) (L' := #[true, true, true, true, true, true, true, true, true, true, true, true, true, true, true, true, true, false, false, false, false]) rfl (by kernel_rfl) rfl (fun _ _ _ h => h) rfl hA (by decide) (by decide) rfl rfl (fun _ => hS) ?_; clear hA; intro a hA
              refine d_skip (i := 17) (L' := #[true, true, true, true, true, true, true, true, true, true, true, true, true, true, true, true, true, true, false, false, false]) rfl (by kernel_rfl) rfl (fun _ _ _ h => h) rfl hA (by decide) (by decide) rfl rfl (fun _ => hS) ?_; clear hA; intro a hA
              refine d_skip (i := 18) (L' := #[true, true, true, true, true, true, true, true, true, true, true, true, true, true, true, true, true, true, true, false, false]) rfl (by kernel_rfl) rfl (fun _ _ _ h => h) rfl hA (by decide) (by decide) rfl rfl (fun _ => hS) ?_; clear hA; intro a hA
              refine d_takegf (i := 19) (L' := #[true, true, true, true, true, true, true, true, true, true, true, true, true, true, true, true, true, true, true, true, false]) rfl (by kernel_rfl) rfl (fun _ _ _ h => h) rfl hA (by decide) (by decide) rfl (fun _ => hS) (fun a w' hA => run_pick (hA.ev rfl) (fun h => Bool.noConfusion h) (fun _ => hA.ev rfl)) ?_; clear hA; intro a hA
              refine d_takef (i := 20) (L' := #[true, true, true, true, true, true, true, true, true, true, true, true, true, true, true, true, true, true, true, true, true]) rfl (by kernel_rfl) rfl (fun _ _ _ h => h) hA (by decide) (fun _ => hS) (fun a w' hA => run_pick (hA.ev rfl) (fun h => Bool.noConfusion h) (fun _ => hA.ev rfl)) ?_; clear hA; intro a hA
              refine d_done (by kernel_rfl) ?_
              exact ⟨false, Option.some.inj H648, hM, (((hA.nil.cons (hA.get 49 _ rfl)).cons (hA.get 3 _ rfl)).cons (hA.get 1 _ rfl))⟩
        clear hM hA
        rintro a w669 ⟨t647, rfl, hM, hA⟩
        try dsimp only at H620
        refine TN ?_
        refine tcond (b := t647) hA rfl (fun hb670 => ?_) (fun hb670 => ?_)
        · replace H620 := ite_t hb670 H620
          refine wp_seq ?_
          refine wp_region_lit ?_
          refine L1 (stv hA (by decide) (run_assign (hA.ev rfl)) ?_)
          clear hA; intro a hA
          refine LQ ?_
          refine TN ?_
          refine wp_ret ?_
          obtain rfl := Option.some.inj H620
          dsimp only at H
          obtain rfl := Option.some.inj H
          refine BR ?_
          refine TR ?_
          refine TR ?_
          refine BR ?_
          refine TR ?_
          refine TR ?_
          exact ret_post1 (fn := Try.f35) hA rfl rfl ⟨_, rfl, rfl, (hM.sel [] rfl (by decide))⟩
        · replace H620 := ite_f hb670 H620
          refine wp_skip ?_
          refine BN ?_
          refine TN ?_
          refine wp_region_lit ?_
          refine L1 (stv hA (by decide) (run_move (hA.ev rfl)) ?_)
          clear hA; intro a hA
          refine L1 (stv hA (by decide) (run_bin (hA.ev rfl) (hA.ev rfl) (bin_add _ _ _ _)) ?_)
          clear hA; intro a hA
          refine L1 (stv hA (by decide) (run_assign (hA.ev rfl)) ?_)
          clear hA; intro a hA
          refine LQ ?_
          exact ⟨_, Nat.lt_succ_self m622, IntKind.i64.wrap (i618 + 1), H620, hM, ((hA.nil.cons (hA.get 3 _ rfl)).cons (hA.get 1 _ rfl))⟩
      · replace H620 := ite_f hb624 H620
        refine wp_exit ?_
        refine TX ?_
        refine TX ?_
        refine BX ?_
        exact ⟨Option.some.inj H620, hM, (hA.nil.cons (hA.get 1 _ rfl))⟩
    clear hM hA
    rintro a w671 ⟨rfl, hM, hA⟩
    try dsimp only at H
    refine TN ?_
    refine wp_seq ?_
    refine wp_seq ?_
    refine wp_region_lit ?_
    refine L1 (stv hA (by decide) (run_assign (hA.ev rfl)) ?_)
    clear hA; intro a hA
    refine LQ ?_
    refine TN ?_
    obtain ⟨o727, H726, H⟩ := Option.bind_eq_some_iff.1 H
    refine cutC (fun a w => (.go ()) = o727 ∧ Mem F w0 w [.box g475 39 [(.int .u32 r_0.Epoch), (.bool r_0.Diffuse), (.slice A0_2 r_0.Routes.length c0_2), (.slice A0_3 r_0.Stems.length c0_3), (.slice A0_4 r_0.Fluffed.length c0_4)]] ∧ Has 96 [(1, (.pointer (some (⟨g475, 0, none⟩))))] a) ?_ ?_
    · refine wp_block ?_
      refine wp_loop_ghost (fun m a w => ∃ (i724 : Int), ref40_Sound.l1 r_0 m i724 = some o727 ∧ Mem F w0 w [.box g475 39 [(.int .u32 r_0.Epoch), (.bool r_0.Diffuse), (.slice A0_2 r_0.Routes.length c0_2), (.slice A0_3 r_0.Stems.length c0_3), (.slice A0_4 r_0.Fluffed.length c0_4)]] ∧ Has 96 [(1, (.pointer (some (⟨g475, 0, none⟩)))), (4, (.int .i64 i724))] a) k ⟨0, H726, hM, ((hA.nil.cons (hA.get 4 _ rfl)).cons (hA.get 1 _ rfl))⟩ ?_
      clear hM hA; rintro m728 a w729 ⟨i724, H726, hM, hA⟩
      cases m728 with
      | zero => exact absurd H726 (by simp [ref40_Sound.l1])
      | succ m728 =>
      rw [ref40_Sound.l1] at H726
      refine wp_seq ?_
      refine wp_seq ?_
      refine wp_region_lit ?_
      refine L1 (stv hA (by decide) (run_move (hA.ev rfl)) ?_)
      clear hA; intro a hA
      refine L1 (stv hA (by decide) (run_field' Try.underlying39 rfl rfl Try.sizeOf37 (by decide) (hA.ev rfl)) ?_)
      clear hA; intro a hA
      refine L1 (stv hA (by decide) (run_ld (hA.ev rfl) (run_loadS Try.isAgg37 (At.seg1 (hM.box .z) 4 rfl))) ?_)
      clear hA; intro a hA
      refine L1 (stv hA (by decide) (run_len_slice Try.underlying37 (hA.ev rfl)) ?_)
      clear hA; intro a hA
      refine L1 (stv hA (by decide) (run_bin (hA.ev rfl) (hA.ev rfl) (bin_lss _ _ _ _)) ?_)
      clear hA; intro a hA
      refine LQ ?_
      refine TN ?_
      refine tcond (b := (decide (i724 < ((r_0.Fluffed.length : Nat) : Int)))) hA rfl (fun hb730 => ?_) (fun hb730 => ?_)
      · replace H726 := ite_t hb730 H726
        refine wp_skip ?_
        refine TN ?_
        refine wp_seq ?_
        refine wp_block ?_
        refine wp_seq ?_
        refine draw (fun w' => Below w729.heap.size w729 w') [] rfl ?_
        intro w731 hw hS; replace hM := hM.ext hS; clear hw
        refine d_takef (i := 0) (L' := #[true, false, false, false, false, false, false, false, false, false]) rfl (by kernel_rfl) rfl (fun _ _ _ h => h) hA (by decide) (fun _ => hS) (fun a w' hA => run_field' Try.underlying39 rfl rfl Try.sizeOf37 (by decide) (hA.ev rfl)) ?_; clear hA; intro a hA
        refine rebase hS ?_; clear hS; intro hS
        refine d_take (i := 1) (L' := #[true, true, false, false, false, false, false, false, false, false]) rfl (by kernel_rfl) rfl (fun _ _ _ h => h) hA (by decide) rfl hS (fun a w' hA hS' => run_ld (hA.ev rfl) (run_loadS Try.isAgg37 ((At.seg1 (hM.box .z) 4 rfl).extB hS'))) ?_; clear hA; intro a hA
        refine d_takef (i := 2) (L' := #[true, true, true, false, false, false, false, false, false, false]) rfl (by kernel_rfl) rfl (fun _ _ _ h => h) hA (by decide) (fun _ => hS) (fun a w' hA => run_move (hA.ev rfl)) ?_; clear hA; intro a hA
        obtain ⟨⟨hi733, hj734⟩, H726⟩ := ite_some H726
        refine d_takef (i := 3) (L' := #[true, true, true, true, false, false, false, false, false, false]) rfl (by kernel_rfl) rfl (fun _ _ _ h => h) hA (by decide) (fun _ => hS) (fun a w' hA => run_hi Try.underlying37 Try.sizeOf34 hc0_4 hi733 hj734 (hA.ev rfl) (hA.ev rfl)) ?_; clear hA; intro a hA
        refine d_takef (i := 4) (L' := #[true, true, true, true, true, false, false, false, false, false]) rfl (by kernel_rfl) rfl (fun _ _ _ h => h) hA (by decide) (fun _ => hS) (fun a w' hA => run_field' Try.underlying39 rfl rfl Try.sizeOf37 (by decide) (hA.ev rfl)) ?_; clear hA; intro a hA
        refine d_take (i := 5) (L' := #[true, true, true, true, true, true, false, false, false, false]) rfl (by kernel_rfl) rfl (fun _ _ _ h => h) hA (by decide) rfl hS (fun a w' hA hS' => run_ld (hA.ev rfl) (run_loadS Try.isAgg37 ((At.seg1 (hM.box .z) 4 rfl).extB hS'))) ?_; clear hA; intro a hA
        refine d_takef (i := 6) (L' := #[true, true, true, true, true, true, true, false, false, false]) rfl (by kernel_rfl) rfl (fun _ _ _ h => h) hA (by decide) (fun _ => hS) (fun a w' hA => run_move (hA.ev rfl)) ?_; clear hA; intro a hA
        obtain ⟨⟨hi735, hj736⟩, H726⟩ := ite_some H726
        obtain ⟨ad737, hq738, hat739⟩ := Row.elem' (p := pHash) (hM.ro hr0_4) (Eq.refl r_0.Fluffed.length) (Vector.replicate 32 0 : Vector Int 32) i724 hi735 hj736
        refine d_takef (i := 7) (L' := #[true, true, true, true, true, true, true, true, false, false]) rfl (by kernel_rfl) rfl (fun _ _ _ h => h) hA (by decide) (fun _ => hS) (fun a w' hA => run_idx Try.underlying37 Try.sizeOf34 (hA.ev rfl) hq738 (hA.ev rfl) hi735 hj736) ?_; clear hA; intro a hA
        refine d_take (i := 8) (L' := #[true, true, true, true, true, true, true, true, true, false]) rfl (by kernel_rfl) rfl (fun _ _ _ h => h) hA (by decide) rfl hS (fun a w' hA hS' => run_ld (hA.ev rfl) (run_loadP Try.isAgg34 Try.sizeOf34 ((hat739).extB hS'))) ?_; clear hA; intro a hA
        obtain ⟨r740, H741, H726⟩ := Option.bind_eq_some_iff.1 H726
        refine d_one (i := 9) (L' := #[true, true, true, true, true, true, true, true, true, true]) (by kernel_rfl) rfl rfl (st_call Try.call36 hA [(.slice A0_4 i724.toNat c0_4), (.agg (pHash.enc (r_0.Fluffed.getD i724.toNat (Vector.replicate 32 0 : Vector Int 32))).toArray)] rfl (by decide) (ref40_has.calls _ _ _ _ _ _ _ ((RoV.mk (Ro.take (hM.roC (Ms := []) hr0_4) i724.toNat) (len_take (Eq.refl r_0.Fluffed.length) (by omega)) (by have hh1 := hc0_4; omega))) (hM.front (Ms := [])) H741) ?_)
        clear hA; rintro _ w742 ⟨rfl, hMc⟩ a hA
        have hE := hMc.below; have hM := hM.call (Ms := []) hMc
        clear hMc; simp only [List.cons_append, List.nil_append] at hM
        replace hS := hS.trans (hE.mono hS.size)
        refine ⟨fun _ => hS, ?_⟩
        refine d_done (by kernel_rfl) ?_
        refine TN ?_
        refine tcond (b := r740) hA rfl (fun hb743 => ?_) (fun hb743 => ?_)
        · replace H726 := ite_t hb743 H726
          refine wp_seq ?_
          refine wp_region_lit ?_
          refine L1 (stv hA (by decide) (run_assign (hA.ev rfl)) ?_)
          clear hA; intro a hA
          refine LQ ?_
          refine TN ?_
          refine wp_ret ?_
          obtain rfl := Option.some.inj H726
          dsimp only at H
          obtain rfl := Option.some.inj H
          refine BR ?_
          refine TR ?_
          refine TR ?_
          refine BR ?_
          refine TR ?_
          refine TR ?_
          exact ret_post1 (fn := Try.f35) hA rfl rfl ⟨_, rfl, rfl, (hM.sel [] rfl (by decide))⟩
        · replace H726 := ite_f hb743 H726
          refine wp_skip ?_
          refine BN ?_
          refine TN ?_
          refine wp_region_lit ?_
          refine L1 (stv hA (by decide) (run_move (hA.ev rfl)) ?_)
          clear hA; intro a hA
          refine L1 (stv hA (by decide) (run_bin (hA.ev rfl) (hA.ev rfl) (bin_add _ _ _ _)) ?_)
          clear hA; intro a hA
          refine L1 (stv hA (by decide) (run_assign (hA.ev rfl)) ?_)
          clear hA; intro a hA
          refine LQ ?_
          exact ⟨_, Nat.lt_succ_self m728, IntKind.i64.wrap (i724 + 1), H726, hM, ((hA.nil.cons (hA.get 4 _ rfl)).cons (hA.get 1 _ rfl))⟩
      · replace H726 := ite_f hb730 H726
        refine wp_exit ?_
        refine TX ?_
        refine TX ?_
        refine BX ?_
        exact ⟨Option.some.inj H726, hM, (hA.nil.cons (hA.get 1 _ rfl))⟩
    clear hM hA
    rintro a w744 ⟨rfl, hM, hA⟩
    try dsimp only at H
    refine TN ?_
    refine wp_seq ?_
    refine wp_seq ?_
    refine wp_region_lit ?_
    refine L1 (stv hA (by decide) (run_assign (hA.ev rfl)) ?_)
    clear hA; intro a hA
    refine LQ ?_
    refine TN ?_
    obtain ⟨o898, H897, H⟩ := Option.bind_eq_some_iff.1 H
    refine cutC (fun a w => (.go ()) = o898 ∧ Mem F w0 w [] ∧ Has 96 [] a) ?_ ?_
    · refine wp_block ?_
      refine wp_loop_ghost (fun m a w => ∃ (i896 : Int), ref40_Sound.l2 r_0 m i896 = some o898 ∧ Mem F w0 w [.box g475 39 [(.int .u32 r_0.Epoch), (.bool r_0.Diffuse), (.slice A0_2 r_0.Routes.length c0_2), (.slice A0_3 r_0.Stems.length c0_3), (.slice A0_4 r_0.Fluffed.length c0_4)]] ∧ Has 96 [(1, (.pointer (some (⟨g475, 0, none⟩)))), (5, (.int .i64 i896))] a) k ⟨0, H897, hM, ((hA.nil.cons (hA.get 5 _ rfl)).cons (hA.get 1 _ rfl))⟩ ?_
      clear hM hA; rintro m899 a w900 ⟨i896, H897, hM, hA⟩
      cases m899 with
      | zero => exact absurd H897 (by simp [ref40_Sound.l2])
      | succ m899 =>
      rw [ref40_Sound.l2] at H897
      refine wp_seq ?_
      refine wp_seq ?_
      refine wp_region_lit ?_
      refine L1 (stv hA (by decide) (run_move (hA.ev rfl)) ?_)
      clear hA; intro a hA
      refine L1 (stv hA (by decide) (run_field' Try.underlying39 rfl rfl Try.sizeOf36 (by decide) (hA.ev rfl)) ?_)
      clear hA; intro a hA
      refine L1 (stv hA (by decide) (run_ld (hA.ev rfl) (run_loadS Try.isAgg36 (At.seg1 (hM.box .z) 3 rfl))) ?_)
      clear hA; intro a hA
      refine L1 (stv hA (by decide) (run_len_slice Try.underlying36 (hA.ev rfl)) ?_)
      clear hA; intro a hA
      refine L1 (stv hA (by decide) (run_bin (hA.ev rfl) (hA.ev rfl) (bin_lss _ _ _ _)) ?_)
      clear hA; intro a hA
      refine LQ ?_
      refine TN ?_
      refine tcond (b := (decide (i896 < ((r_0.Stems.length : Nat) : Int)))) hA rfl (fun hb901 => ?_) (fun hb901 => ?_)
      · replace H897 := ite_t hb901 H897
        refine wp_skip ?_
        refine TN ?_
        refine wp_seq ?_
        refine wp_block ?_
        refine wp_seq ?_
        obtain ⟨o926, H925, H897⟩ := Option.bind_eq_some_iff.1 H897
        refine cutC (fun a w => ∃ (t924 : Bool), t924 = o926 ∧ Mem F w0 w [.box g475 39 [(.int .u32 r_0.Epoch), (.bool r_0.Diffuse), (.slice A0_2 r_0.Routes.length c0_2), (.slice A0_3 r_0.Stems.length c0_3), (.slice A0_4 r_0.Fluffed.length c0_4)]] ∧ Has 96 [(1, (.pointer (some (⟨g475, 0, none⟩)))), (5, (.int .i64 i896)), (95, (.bool t924))] a) ?_ ?_
        · refine draw (fun w' => Below w900.heap.size w900 w') [] rfl ?_
          intro w927 hw hS; replace hM := hM.ext hS; clear hw
          refine d_takef (i := 0) (L' := #[true, false, false, false, false, false, false, false, false, false, false, false, false, false, false, false, false, false, false, false, false, false]) rfl (by kernel_rfl) rfl (fun _ _ _ h => h) hA (by decide) (fun _ => hS) (fun a w' hA => run_field' Try.underlying39 rfl rfl Try.sizeOf36 (by decide) (hA.ev rfl)) ?_; clear hA; intro a hA
          refine rebase hS ?_; clear hS; intro hS
          refine d_take (i := 1) (L' := #[true, true, false, false, false, false, false, false, false, false, false, false, false, false, false, false, false, false, false, false, false, false]) rfl (by kernel_rfl) rfl (fun _ _ _ h => h) hA (by decide) rfl hS (fun a w' hA hS' => run_ld (hA.ev rfl) (run_loadS Try.isAgg36 ((At.seg1 (hM.box .z) 3 rfl).extB hS'))) ?_; clear hA; intro a hA
          refine d_takef (i := 2) (L' := #[true, true, true, false, false, false, false, false, false, false, false, false, false, false, false, false, false, false, false, false, false, false]) rfl (by kernel_rfl) rfl (fun _ _ _ h => h) hA (by decide) (fun _ => hS) (fun a w' hA => run_field' Try.underlying39 rfl rfl Try.sizeOf36 (by decide) (hA.ev rfl)) ?_; clear hA; intro a hA
          refine d_take (i := 3) (L' := #[true, true, true, true, false, false, false, false, false, false, false, false, false, false, false, false, false, false, false, false, false, false]) rfl (by kernel_rfl) rfl (fun _ _ _ h => h) hA (by decide) rfl hS (fun a w' hA hS' => run_ld (hA.ev rfl) (run_loadS Try.isAgg36 ((At.seg1 (hM.box .z) 3 rfl).extB hS'))) ?_; clear hA; intro a hA
          refine d_takef (i := 4) (L' := #[true, true, true, true, true, false, false, false, false, false, false, false, false, false, false, false, false, false, false, false, false, false]) rfl (by kernel_rfl) rfl (fun _ _ _ h => h) hA (by decide) (fun _ => hS) (fun a w' hA => run_move (hA.ev rfl)) ?_; clear hA; intro a hA
          obtain ⟨⟨hi929, hj930⟩, H925⟩ := ite_some H925
          obtain ⟨ad931, hq932, hat933⟩ := Row.elem' (p := pStem) (hM.ro hr0_3) (Eq.refl r_0.Stems.length) Stem.z i896 hi929 hj930
          refine d_takef (i := 5) (L' := #[true, true, true, true, true, true, false, false, false, false, false, false, false, false, false, false, false, false, false, false, false, false]) rfl (by kernel_rfl) rfl (fun _ _ _ h => h) hA (by decide) (fun _ => hS) (fun a w' hA => run_idx Try.underlying36 Try.sizeOf61 (hA.ev rfl) hq932 (hA.ev rfl) hi929 hj930) ?_; clear hA; intro a hA
          refine d_takef (i := 6) (L' := #[true, true, true, true, true, true, true, false, false, false, false, false, false, false, false, false, false, false, false, false, false, false]) rfl (by kernel_rfl) rfl (fun _ _ _ h => h) hA (by decide) (fun _ => hS) (fun a w' hA => run_field' Try.underlying61 rfl rfl Try.sizeOf34 (by decide) (hA.ev rfl)) ?_; clear hA; intro a hA
          refine d_take (i := 7) (L' := #[true, true, true, true, true, true, true, true, false, false, false, false, false, false, false, false, false, false, false, false, false, false]) rfl (by kernel_rfl) rfl (fun _ _ _ h => h) hA (by decide) rfl hS (fun a w' hA hS' => run_ld (hA.ev rfl) (run_loadP Try.isAgg34 Try.sizeOf34 ((Stem.at_ID (hat933)).extB hS'))) ?_; clear hA; intro a hA
          refine d_takef (i := 9) (L' := #[true, true, true, true, true, true, true, true, false, true, false, false, false, false, false, false, false, false, false, false, false, false]) rfl (by kernel_rfl) rfl (fun _ _ _ h => h) hA (by decide) (fun _ => hS) (fun a w' hA => run_move (hA.ev rfl)) ?_; clear hA; intro a hA
          obtain ⟨r934, H935, H925⟩ := Option.bind_eq_some_iff.1 H925
          refine d_one (i := 8) (L' := #[true, true, true, true, true, true, true, true, true, true, false, false, false, false, false, false, false, false, false, false, false, false]) (by kernel_rfl) rfl rfl (st_call Try.call37 hA [(.slice A0_3 r_0.Stems.length c0_3), (.agg (pHash.enc ((r_0.Stems.getD i896.toNat Stem.z).ID)).toArray)] rfl (by decide) (ref40_find.calls _ _ _ _ _ _ _ ((RoV.mk (hM.roC (Ms := []) hr0_3) (Eq.refl r_0.Stems.length) hc0_3)) (hM.front (Ms := [])) H935) ?_)
          clear hA; rintro _ w936 ⟨rfl, hMc⟩ a hA
          have hE := hMc.below; have hM := hM.call (Ms := []) hMc
          clear hMc; simp only [List.cons_append, List.nil_append] at hM
          replace hS := hS.trans (hE.mono hS.size)
          refine ⟨fun _ => hS, ?_⟩
          refine d_takef (i := 10) (L' := #[true, true, true, true, true, true, true, true, true, true, true, false, false, false, false, false, false, false, false, false, false, false]) rfl (by kernel_rfl) rfl (fun _ _ _ h => h) hA (by decide) (fun _ => hS) (fun a w' hA => run_bin (hA.ev rfl) (hA.ev rfl) (bin_neq _ _ _ _)) ?_; clear hA; intro a hA
          refine d_takef (i := 11) (L' := #[true, true, true, true, true, true, true, true, true, true, true, true, false, false, false, false, false, false, false, false, false, false]) rfl (by kernel_rfl) rfl (fun _ _ _ h => h) hA (by decide) (fun _ => hS) (fun a w' hA => run_move (hA.ev rfl)) ?_; clear hA; intro a hA
          refine bsplit (b := (r934 != i896)) (fun hb937 => ?_) (fun hb937 => ?_)
          · replace H925 := ite_t hb937 H925
            have hA := hA.re (t := 85) rfl (congrArg Value.bool hb937)
            refine d_skip (i := 12) (L' := #[true, true, true, true, true, true, true, true, true, true, true, true, true, false, false, false, false, false, false, false, false, false]) rfl (by kernel_rfl) rfl (fun _ _ _ h => h) rfl hA (by decide) (by decide) rfl rfl (fun _ => hS) ?_; clear hA; intro a hA
            refine d_skip (i := 13) (L' := #[true, true, true, true, true, true, true, true, true, true, true, true, true, true, false, false, false, false, false, false, false, false]) rfl (by kernel_rfl) rfl (fun _ _ _ h => h) rfl hA (by decide) (by decide) rfl rfl (fun _ => hS) ?_; clear hA; intro a hA
            refine d_skip (i := 14) (L' := #[true, true, true, true, true, true, true, true, true, true, true, true, true, true, true, false, false, false, false, false, false, false]) rfl (by kernel_rfl) rfl (fun _ _ _ h => h) rfl hA (by decide) (by decide) rfl rfl (fun _ => hS) ?_; clear hA; intro a hA
            refine d_skip (i := 15) (L' := #[true, true, true, true, true, true, true, true, true, true, true, true, true, true, true, true, false, false, false, false, false, false]) rfl (by kernel_rfl) rfl (fun _ _ _ h => h) rfl hA (by decide) (by decide) rfl rfl (fun _ => hS) ?_; clear hA; intro a hA
            refine d_skip (i := 16) (L' := #[true, true, true, true, true, true, true, true, true, true, true, true, true, true, true, true, true, false, false, false, false, false]) rfl (by kernel_rfl) rfl (fun _ _ _ h => h) rfl hA (by decide) (by decide) rfl rfl (fun _ => hS) ?_; clear hA; intro a hA
            refine d_skip (i := 17) (L' := #[true, true, true, true, true, true, true, true, true, true, true, true, true, true, true, true, true, true, false, false, false, false]) rfl (by kernel_rfl) rfl (fun _ _ _ h => h) rfl hA (by decide) (by decide) rfl rfl (fun _ => hS) ?_; clear hA; intro a hA
            refine d_skip (i := 18) (L' := #[true, true, true, true, true, true, true, true, true, true, true, true, true, true, true, true, true, true, true, false, false, false]) rfl (by kernel_rfl) rfl (fun _ _ _ h => h) rfl hA (by decide) (by decide) rfl rfl (fun _ => hS) ?_; clear hA; intro a hA
            refine d_skip (i := 19) (L' := #[true, true, true, true, true, true, true, true, true, true, true, true, true, true, true, true, true, true, true, true, false, false]) rfl (by kernel_rfl) rfl (fun _ _ _ h => h) rfl hA (by decide) (by decide) rfl rfl (fun _ => hS) ?_; clear hA; intro a hA
            refine d_one (i := 20) (L' := #[true, true, true, true, true, true, true, true, true, true, true, true, true, true, true, true, true, true, true, true, true, false]) (by kernel_rfl) rfl rfl (gate_off rfl (by decide) rfl hA (by decide) rfl rfl ?_); clear hA; intro a hA
            refine ⟨fun _ => hS, ?_⟩
            refine d_takef (i := 21) (L' := #[true, true, true, true, true, true, true, true, true, true, true, true, true, true, true, true, true, true, true, true, true, true]) rfl (by kernel_rfl) rfl (fun _ _ _ h => h) hA (by decide) (fun _ => hS) (fun a w' hA => run_pick (hA.ev rfl) (fun _ => hA.ev rfl) (fun h => Bool.noConfusion h)) ?_; clear hA; intro a hA
            refine d_done (by kernel_rfl) ?_
            exact ⟨true, Option.some.inj H925, hM, (((hA.nil.cons (hA.get 95 _ rfl)).cons (hA.get 5 _ rfl)).cons (hA.get 1 _ rfl))⟩
          · replace H925 := ite_f hb937 H925
            have hA := hA.re (t := 85) rfl (congrArg Value.bool hb937)
            refine d_takegf (i := 12) (L' := #[true, true, true, true, true, true, true, true, true, true, true, true, true, false, false, false, false, false, false, false, false, false]) rfl (by kernel_rfl) rfl (fun _ _ _ h => h) rfl hA (by decide) (by decide) rfl (fun _ => hS) (fun a w' hA => run_field' Try.underlying39 rfl rfl Try.sizeOf37 (by decide) (hA.ev rfl)) ?_; clear hA; intro a hA
            refine rebase hS ?_; clear hS; intro hS
            refine d_takeg (i := 13) (L' := #[true, true, true, true, true, true, true, true, true, true, true, true, true, true, false, false, false, false, false, false, false, false]) rfl (by kernel_rfl) rfl (fun _ _ _ h => h) rfl hA (by decide) (by decide) rfl rfl hS (fun a w' hA hS' => run_ld (hA.ev rfl) (run_loadS Try.isAgg37 ((At.seg1 (hM.box .z) 4 rfl).extB hS'))) ?_; clear hA; intro a hA
            refine d_takegf (i := 14) (L' := #[true, true, true, true, true, true, true, true, true, true, true, true, true, true, true, false, false, false, false, false, false, false]) rfl (by kernel_rfl) rfl (fun _ _ _ h => h) rfl hA (by decide) (by decide) rfl (fun _ => hS) (fun a w' hA => run_field' Try.underlying39 rfl rfl Try.sizeOf36 (by decide) (hA.ev rfl)) ?_; clear hA; intro a hA
            refine d_takeg (i := 15) (L' := #[true, true, true, true, true, true, true, true, true, true, true, true, true, true, true, true, false, false, false, false, false, false]) rfl (by kernel_rfl) rfl (fun _ _ _ h => h) rfl hA (by decide) (by decide) rfl rfl hS (fun a w' hA hS' => run_ld (hA.ev rfl) (run_loadS Try.isAgg36 ((At.seg1 (hM.box .z) 3 rfl).extB hS'))) ?_; clear hA; intro a hA
            refine d_takegf (i := 16) (L' := #[true, true, true, true, true, true, true, true, true, true, true, true, true, true, true, true, true, false, false, false, false, false]) rfl (by kernel_rfl) rfl (fun _ _ _ h => h) rfl hA (by decide) (by decide) rfl (fun _ => hS) (fun a w' hA => run_move (hA.ev rfl)) ?_; clear hA; intro a hA
            obtain ⟨⟨hi938, hj939⟩, H925⟩ := ite_some H925
            obtain ⟨ad940, hq941, hat942⟩ := Row.elem' (p := pStem) (hM.ro hr0_3) (Eq.refl r_0.Stems.length) Stem.z i896 hi938 hj939
            refine d_takegf (i := 17) (L' := #[true, true, true, true, true, true, true, true, true, true, true, true, true, true, true, true, true, true, false, false, false, false]) rfl (by kernel_rfl) rfl (fun _ _ _ h => h) rfl hA (by decide) (by decide) rfl (fun _ => hS) (fun a w' hA => run_idx Try.underlying36 Try.sizeOf61 (hA.ev rfl) hq941 (hA.ev rfl) hi938 hj939) ?_; clear hA; intro a hA
            refine d_takegf (i := 18) (L' := #[true, true, true, true, true, true, true, true, true, true, true, true, true, true, true, true, true, true, true, false, false, false]) rfl (by kernel_rfl) rfl (fun _ _ _ h => h) rfl hA (by decide) (by decide) rfl (fun _ => hS) (fun a w' hA => run_field' Try.underlying61 rfl rfl Try.sizeOf34 (by decide) (hA.ev rfl)) ?_; clear hA; intro a hA
            refine d_takeg (i := 19) (L' := #[true, true, true, true, true, true, true, true, true, true, true, true, true, true, true, true, true, true, true, true, false, false]) rfl (by kernel_rfl) rfl (fun _ _ _ h => h) rfl hA (by decide) (by decide) rfl rfl hS (fun a w' hA hS' => run_ld (hA.ev rfl) (run_loadP Try.isAgg34 Try.sizeOf34 ((Stem.at_ID (hat942)).extB hS'))) ?_; clear hA; intro a hA
            obtain ⟨r943, H944, H925⟩ := Option.bind_eq_some_iff.1 H925
            refine d_one (i := 20) (L' := #[true, true, true, true, true, true, true, true, true, true, true, true, true, true, true, true, true, true, true, true, true, false]) (by kernel_rfl) rfl rfl (gate_on rfl rfl hA (by decide) rfl (st_call Try.call36 hA [(.slice A0_4 r_0.Fluffed.length c0_4), (.agg (pHash.enc ((r_0.Stems.getD i896.toNat Stem.z).ID)).toArray)] rfl (by decide) (ref40_has.calls _ _ _ _ _ _ _ ((RoV.mk (hM.roC (Ms := []) hr0_4) (Eq.refl r_0.Fluffed.length) hc0_4)) (hM.front (Ms := [])) H944) ?_))
            clear hA; rintro _ w945 ⟨rfl, hMc⟩ a hA
            have hE := hMc.below; have hM := hM.call (Ms := []) hMc
            clear hMc; simp only [List.cons_append, List.nil_append] at hM
            replace hS := hS.trans (hE.mono hS.size)
            refine ⟨fun _ => hS, ?_⟩
            refine d_takef (i := 21) (L' := #[true, true, true, true, true, true, true, true, true, true, true, true, true, true, true, true, true, true, true, true, true, true]) rfl (by kernel_rfl) rfl (fun _ _ _ h => h) hA (by decide) (fun _ => hS) (fun a w' hA => run_pick (hA.ev rfl) (fun h => Bool.noConfusion h) (fun _ => hA.ev rfl)) ?_; clear hA; intro a hA
            refine d_done (by kernel_rfl) ?_
            exact ⟨r943, Option.some.inj H925, hM, (((hA.nil.cons (hA.get 95 _ rfl)).cons (hA.get 5 _ rfl)).cons (hA.get 1 _ rfl))⟩
        clear hM hA
        rintro a w946 ⟨t924, rfl, hM, hA⟩
        try dsimp only at H897
        refine TN ?_
        refine tcond (b := t924) hA rfl (fun hb947 => ?_) (fun hb947 => ?_)
        · replace H897 := ite_t hb947 H897
          refine wp_seq ?_
          refine wp_region_lit ?_
          refine L1 (stv hA (by decide) (run_assign (hA.ev rfl)) ?_)
          clear hA; intro a hA
          refine LQ ?_
          refine TN ?_
          refine wp_ret ?_
          obtain rfl := Option.some.inj H897
          dsimp only at H
          obtain rfl := Option.some.inj H
          refine BR ?_
          refine TR ?_
          refine TR ?_
          refine BR ?_
          refine TR ?_
          refine TR ?_
          exact ret_post1 (fn := Try.f35) hA rfl rfl ⟨_, rfl, rfl, (hM.sel [] rfl (by decide))⟩
        · replace H897 := ite_f hb947 H897
          refine wp_skip ?_
          refine BN ?_
          refine TN ?_
          refine wp_region_lit ?_
          refine L1 (stv hA (by decide) (run_move (hA.ev rfl)) ?_)
          clear hA; intro a hA
          refine L1 (stv hA (by decide) (run_bin (hA.ev rfl) (hA.ev rfl) (bin_add _ _ _ _)) ?_)
          clear hA; intro a hA
          refine L1 (stv hA (by decide) (run_assign (hA.ev rfl)) ?_)
          clear hA; intro a hA
          refine LQ ?_
          exact ⟨_, Nat.lt_succ_self m899, IntKind.i64.wrap (i896 + 1), H897, hM, ((hA.nil.cons (hA.get 5 _ rfl)).cons (hA.get 1 _ rfl))⟩
      · replace H897 := ite_f hb901 H897
        refine wp_exit ?_
        refine TX ?_
        refine TX ?_
        refine BX ?_
        exact ⟨Option.some.inj H897, (hM.sel [] rfl (by decide)), hA.nil⟩
    clear hM hA
    rintro a w948 ⟨rfl, hM, hA⟩
    try dsimp only at H
    refine TN ?_
    refine wp_seq ?_
    refine wp_region_lit ?_
    refine L1 (stv hA (by decide) (run_assign (hA.ev rfl)) ?_)
    clear hA; intro a hA
    refine LQ ?_
    refine TN ?_
    refine wp_ret ?_
    obtain rfl := Option.some.inj H
    exact ret_post1 (fn := Try.f35) hA rfl rfl ⟨_, rfl, rfl, hM⟩

def ref40_Fluff.f (k : Nat) (r_0 : Relay) (id_1 : (Vector Int 32)) : Option (Relay × Int) := ((ref40_Sound.f k (Relay.mk r_0.Epoch r_0.Diffuse r_0.Routes r_0.Stems r_0.Fluffed)).bind fun r121 => (if (!r121) = true then (some ((Relay.mk 0 false ([] : List Int) ([] : List Stem) ([] : List (Vector Int 32))), 6)) else ((ref40_has.f k r_0.Fluffed id_1).bind fun r129 => (if r129 = true then (some ((Relay.mk 0 false ([] : List Int) ([] : List Stem) ([] : List (Vector Int 32))), 150)) else (if (decide (((r_0.Fluffed.length : Nat) : Int) ≥ 2048)) = true then (some ((Relay.mk 0 false ([] : List Int) ([] : List Stem) ([] : List (Vector Int 32))), 380)) else ((ref40_Copied.f k (Relay.mk r_0.Epoch r_0.Diffuse r_0.Routes r_0.Stems r_0.Fluffed)).bind fun r142 => ((ref40_find.f k r_0.Stems id_1).bind fun r161 => (Option.bind (α := (List Stem)) (if (decide (r161 ≥ 0)) = true then (if 0 ≤ r161 ∧ r161 ≤ ((r_0.Stems.length : Nat) : Int) then (if 0 ≤ (IntKind.i64.wrap (r161 + 1)) ∧ (IntKind.i64.wrap (r161 + 1)) ≤ ((r_0.Stems.length : Nat) : Int) then (if (0 + r161.toNat) * 56 ≤ 140737488355328 then (if ((0 + r161.toNat) + (r_0.Stems.length - (IntKind.i64.wrap (r161 + 1)).toNat)) * 56 ≤ 140737488355328 then (some ((([] : List Stem) ++ (r_0.Stems.take r161.toNat)) ++ (r_0.Stems.drop ((IntKind.i64.wrap (r161 + 1)).toNat)))) else none) else none) else none) else none) else (some r142.Stems)) (fun xs195 => (if (r142.Fluffed.length + 1) * 32 ≤ 140737488355328 then (some ((Relay.mk r142.Epoch r142.Diffuse r142.Routes xs195 (r142.Fluffed ++ [id_1])), 0)) else none))))))))))
set_option maxRecDepth 100000 in
theorem ref40_Fluff.calls (k : Nat) (r_0 : Relay) (id_1 : (Vector Int 32)) (F : List (Option Nat)) (v0_2 : Value) (v0_3 : Value) (v0_4 : Value) (r : (Relay × Int)) (w0 : World) (h0_2 : RoV F (Pl.int .i64) w0 v0_2 r_0.Routes) (h0_3 : RoV F pStem w0 v0_3 r_0.Stems) (h0_4 : RoV F pHash w0 v0_4 r_0.Fluffed) (hM : Mem F w0 w0 []) (H : ref40_Fluff.f k r_0 id_1 = some r) :
    Calls Try.prog 16 #[(.agg #[(.int .u32 r_0.Epoch), (.bool r_0.Diffuse), v0_2, v0_3, v0_4]), (.agg (pHash.enc id_1).toArray)] w0 fun e w' => ∃ v, e = .returned v ∧ ∃ (ur_0_2 : Value) (ur_0_3 : Value) (ur_0_4 : Value), v = (.tuple #[(.agg #[(.int .u32 r.1.Epoch), (.bool r.1.Diffuse), ur_0_2, ur_0_3, ur_0_4]), (.int .i64 r.2)]) ∧ Mem F w0 w' [.row 3 (Pl.int .i64).sz ur_0_2 ((Pl.int .i64).flat r.1.Routes), .row 61 pStem.sz ur_0_3 (pStem.flat r.1.Stems), .row 34 pHash.sz ur_0_4 (pHash.flat r.1.Fluffed)] := by
  unfold ref40_Fluff.f at H
  obtain ⟨A0_2, c0_2, rfl, hr0_2, hc0_2⟩ := h0_2
  obtain ⟨A0_3, c0_3, rfl, hr0_3, hc0_3⟩ := h0_3
  obtain ⟨A0_4, c0_4, rfl, hr0_4, hc0_4⟩ := h0_4
  refine enterL (n := 53) [(.agg #[(.int .u32 r_0.Epoch), (.bool r_0.Diffuse), (.slice A0_2 r_0.Routes.length c0_2), (.slice A0_3 r_0.Stems.length c0_3), (.slice A0_4 r_0.Fluffed.length c0_4)]), (.agg (pHash.enc id_1).toArray)] Try.func16 rfl rfl rfl ?_
  intro a hA
  refine wp_seq ?_
  refine wp_region_lit ?_
  refine L1 (e_box (cs := [(.int .u32 r_0.Epoch), (.bool r_0.Diffuse), (.slice A0_2 r_0.Routes.length c0_2), (.slice A0_3 r_0.Stems.length c0_3), (.slice A0_4 r_0.Fluffed.length c0_4)]) hM hA rfl rfl (by decide) ?_)
  clear hM hA; intro w113 g112 hM hE  a hA
  refine L1 (e_box (cs := (pHash.enc id_1)) hM hA rfl rfl (by decide) ?_)
  clear hM hA; intro w116 g115 hM hE  a hA
  refine L1 (e_alloc (cs := [(.int .u32 0), (.bool false), (.slice none 0 0), (.slice none 0 0), (.slice none 0 0)]) hM zero39 rfl hA (by decide) ?_)
  clear hM hA; intro w119 g118 hM hE  a hA
  refine L1 (stv hA (by decide) (run_assign (hA.ev rfl)) ?_)
  clear hA; intro a hA
  refine LQ ?_
  refine TN ?_
  refine wp_seq ?_
  refine wp_block ?_
  refine wp_seq ?_
  refine wp_region_lit ?_
  refine L1 (stv hA (by decide) (run_ld (hA.ev rfl) (run_loadW Try.isAgg39 Try.sizeOf39 (by simp [Pl.len]; try rfl) (hM.box (.s (.s .z))))) ?_)
  clear hA; intro a hA
  obtain ⟨r121, H122, H⟩ := Option.bind_eq_some_iff.1 H
  refine L1 (st_call Try.call35 hA [(.agg #[(.int .u32 r_0.Epoch), (.bool r_0.Diffuse), (.slice A0_2 r_0.Routes.length c0_2), (.slice A0_3 r_0.Stems.length c0_3), (.slice A0_4 r_0.Fluffed.length c0_4)])] rfl (by decide) (ref40_Sound.calls _ (Relay.mk r_0.Epoch r_0.Diffuse r_0.Routes r_0.Stems r_0.Fluffed) _ _ _ _ _ _ ((RoV.mk (hM.roC (Ms := []) hr0_2) (Eq.refl r_0.Routes.length) hc0_2)) ((RoV.mk (hM.roC (Ms := []) hr0_3) (Eq.refl r_0.Stems.length) hc0_3)) ((RoV.mk (hM.roC (Ms := []) hr0_4) (Eq.refl r_0.Fluffed.length) hc0_4)) (hM.front (Ms := [])) H122) ?_)
  clear hA; rintro _ w123 ⟨rfl, hMc⟩ a hA
  have hE := hMc.below; have hM := hM.call (Ms := []) hMc
  clear hMc; simp only [List.cons_append, List.nil_append] at hM
  refine L1 (stv hA (by decide) (run_not (hA.ev rfl)) ?_)
  clear hA; intro a hA
  refine L1 (stv hA (by decide) (run_assign (hA.ev rfl)) ?_)
  clear hA; intro a hA
  refine LQ ?_
  refine TN ?_
  refine tcond (b := (!r121)) hA rfl (fun hb124 => ?_) (fun hb124 => ?_)
  · replace H := ite_t hb124 H
    refine wp_seq ?_
    refine wp_region_lit ?_
    refine L1 (stv hA (by decide) (run_build (cells := #[(.int .u32 0), (.bool false), (.slice none 0 0), (.slice none 0 0), (.slice none 0 0)]) [] zero39 Try.underlying39 (ss := [1, 1, 1, 1, 1]) ⟨Try.sizeOf35, Try.sizeOf4, Try.sizeOf22, Try.sizeOf36, Try.sizeOf37, trivial⟩ hA rfl (by rfl)) ?_)
    clear hA; intro a hA
    refine L1 (e_store (g := g118) (off := 0) (cur := [(.int .u32 0), (.bool false), (.slice none 0 0), (.slice none 0 0), (.slice none 0 0)]) (cs' := [(.int .u32 0), (.bool false), (.slice none 0 0), (.slice none 0 0), (.slice none 0 0)]) hM .z Try.sizeOf39 hA rfl (by simp [add_mk]) rfl (by first | rfl | simp [Value.cells, Pl.len]) (by simp [Value.cells, Value.oneCell']) (by first | exact Nat.le_of_ble_eq_true rfl | (simp [Pl.len]; done)) (spl_all (by first | rfl | simp [Value.cells, Pl.len])) ?_)
    clear hM hA; intro w125  hM hE  a hA
    refine L1 (stv hA (by decide) (run_assign (hA.ev rfl)) ?_)
    clear hA; intro a hA
    refine LQ ?_
    refine TN ?_
    refine wp_ret ?_
    have hM := hM.addnil 3 ((Pl.int .i64)).sz
    have hM := hM.addnil 61 (pStem).sz
    have hM := hM.addnil 34 (pHash).sz
    obtain rfl := Option.some.inj H
    refine BR ?_
    refine TR ?_
    exact ret_mix2 (fn := Try.f16) hA rfl (RV.cell rfl (run_loadW Try.isAgg39 Try.sizeOf39 (by simp [Pl.len]; try rfl) (hM.box (.s (.s (.s .z)))))) (RV.tmp rfl) ⟨_, rfl, (.slice none 0 0), (.slice none 0 0), (.slice none 0 0), rfl, (hM.sel [2, 1, 0] rfl (by decide))⟩
  · replace H := ite_f hb124 H
    refine wp_seq ?_
    refine wp_region_lit ?_
    refine L1 (stv hA (by decide) (run_field' Try.underlying39 rfl rfl Try.sizeOf37 (by decide) (hA.ev rfl)) ?_)
    clear hA; intro a hA
    refine L1 (stv hA (by decide) (run_ld (hA.ev rfl) (run_loadS Try.isAgg37 (At.seg1 (hM.box (.s (.s .z))) 4 rfl))) ?_)
    clear hA; intro a hA
    refine L1 (stv hA (by decide) (run_ld (hA.ev rfl) (run_loadP Try.isAgg34 Try.sizeOf34 (hM.box (.s .z)))) ?_)
    clear hA; intro a hA
    obtain ⟨r129, H130, H⟩ := Option.bind_eq_some_iff.1 H
    refine L1 (st_call Try.call36 hA [(.slice A0_4 r_0.Fluffed.length c0_4), (.agg (pHash.enc id_1).toArray)] rfl (by decide) (ref40_has.calls _ _ _ _ _ _ _ ((RoV.mk (hM.roC (Ms := []) hr0_4) (Eq.refl r_0.Fluffed.length) hc0_4)) (hM.front (Ms := [])) H130) ?_)
    clear hA; rintro _ w131 ⟨rfl, hMc⟩ a hA
    have hE := hMc.below; have hM := hM.call (Ms := []) hMc
    clear hMc; simp only [List.cons_append, List.nil_append] at hM
    refine L1 (stv hA (by decide) (run_assign (hA.ev rfl)) ?_)
    clear hA; intro a hA
    refine LQ ?_
    refine TN ?_
    refine tcond (b := r129) hA rfl (fun hb132 => ?_) (fun hb132 => ?_)
    · replace H := ite_t hb132 H
      refine wp_seq ?_
      refine wp_region_lit ?_
      refine L1 (stv hA (by decide) (run_build (cells := #[(.int .u32 0), (.bool false), (.slice none 0 0), (.slice none 0 0), (.slice none 0 0)]) [] zero39 Try.underlying39 (ss := [1, 1, 1, 1, 1]) ⟨Try.sizeOf35, Try.sizeOf4, Try.sizeOf22, Try.sizeOf36, Try.sizeOf37, trivial⟩ hA rfl (by rfl)) ?_)
      clear hA; intro a hA
      refine L1 (e_store (g := g118) (off := 0) (cur := [(.int .u32 0), (.bool false), (.slice none 0 0), (.slice none 0 0), (.slice none 0 0)]) (cs' := [(.int .u32 0), (.bool false), (.slice none 0 0), (.slice none 0 0), (.slice none 0 0)]) hM .z Try.sizeOf39 hA rfl (by simp [add_mk]) rfl (by first | rfl | simp [Value.cells, Pl.len]) (by simp [Value.cells, Value.oneCell']) (by first | exact Nat.le_of_ble_eq_true rfl | (simp [Pl.len]; done)) (spl_all (by first | rfl | simp [Value.cells, Pl.len])) ?_)
      clear hM hA; intro w133  hM hE  a hA
      refine L1 (stv hA (by decide) (run_assign (hA.ev rfl)) ?_)
      clear hA; intro a hA
      refine LQ ?_
      refine TN ?_
      refine wp_ret ?_
      have hM := hM.addnil 3 ((Pl.int .i64)).sz
      have hM := hM.addnil 61 (pStem).sz
      have hM := hM.addnil 34 (pHash).sz
      obtain rfl := Option.some.inj H
      refine BR ?_
      refine TR ?_
      exact ret_mix2 (fn := Try.f16) hA rfl (RV.cell rfl (run_loadW Try.isAgg39 Try.sizeOf39 (by simp [Pl.len]; try rfl) (hM.box (.s (.s (.s .z)))))) (RV.tmp rfl) ⟨_, rfl, (.slice none 0 0), (.slice none 0 0), (.slice none 0 0), rfl, (hM.sel [2, 1, 0] rfl (by decide))⟩
    · replace H := ite_f hb132 H
      refine wp_seq ?_
      refine wp_region_lit ?_
      refine L1 (stv hA (by decide) (run_field' Try.underlying39 rfl rfl Try.sizeOf37 (by decide) (hA.ev rfl)) ?_)
      clear hA; intro a hA
      refine L1 (stv hA (by decide) (run_ld (hA.ev rfl) (run_loadS Try.isAgg37 (At.seg1 (hM.box (.s (.s .z))) 4 rfl))) ?_)
      clear hA; intro a hA
      refine L1 (stv hA (by decide) (run_len_slice Try.underlying37 (hA.ev rfl)) ?_)
      clear hA; intro a hA
      refine L1 (stv hA (by decide) (run_bin (hA.ev rfl) (hA.ev rfl) (bin_geq _ _ _ _)) ?_)
      clear hA; intro a hA
      refine L1 (stv hA (by decide) (run_assign (hA.ev rfl)) ?_)
      clear hA; intro a hA
      refine LQ ?_
      refine TN ?_
      refine tcond (b := (decide (((r_0.Fluffed.length : Nat) : Int) ≥ 2048))) hA rfl (fun hb137 => ?_) (fun hb137 => ?_)
      · replace H := ite_t hb137 H
        refine wp_seq ?_
        refine wp_region_lit ?_
        refine L1 (stv hA (by decide) (run_build (cells := #[(.int .u32 0), (.bool false), (.slice none 0 0), (.slice none 0 0), (.slice none 0 0)]) [] zero39 Try.underlying39 (ss := [1, 1, 1, 1, 1]) ⟨Try.sizeOf35, Try.sizeOf4, Try.sizeOf22, Try.sizeOf36, Try.sizeOf37, trivial⟩ hA rfl (by rfl)) ?_)
        clear hA; intro a hA
        refine L1 (e_store (g := g118) (off := 0) (cur := [(.int .u32 0), (.bool false), (.slice none 0 0), (.slice none 0 0), (.slice none 0 0)]) (cs' := [(.int .u32 0), (.bool false), (.slice none 0 0), (.slice none 0 0), (.slice none 0 0)]) hM .z Try.sizeOf39 hA rfl (by simp [add_mk]) rfl (by first | rfl | simp [Value.cells, Pl.len]) (by simp [Value.cells, Value.oneCell']) (by first | exact Nat.le_of_ble_eq_true rfl | (simp [Pl.len]; done)) (spl_all (by first | rfl | simp [Value.cells, Pl.len])) ?_)
        clear hM hA; intro w138  hM hE  a hA
        refine L1 (stv hA (by decide) (run_assign (hA.ev rfl)) ?_)
        clear hA; intro a hA
        refine LQ ?_
        refine TN ?_
        refine wp_ret ?_
        have hM := hM.addnil 3 ((Pl.int .i64)).sz
        have hM := hM.addnil 61 (pStem).sz
        have hM := hM.addnil 34 (pHash).sz
        obtain rfl := Option.some.inj H
        refine BR ?_
        refine TR ?_
        exact ret_mix2 (fn := Try.f16) hA rfl (RV.cell rfl (run_loadW Try.isAgg39 Try.sizeOf39 (by simp [Pl.len]; try rfl) (hM.box (.s (.s (.s .z)))))) (RV.tmp rfl) ⟨_, rfl, (.slice none 0 0), (.slice none 0 0), (.slice none 0 0), rfl, (hM.sel [2, 1, 0] rfl (by decide))⟩
      · replace H := ite_f hb137 H
        refine wp_skip ?_
        refine BN ?_
        refine TN ?_
        refine wp_seq ?_
        refine wp_region_lit ?_
        refine L1 (stv hA (by decide) (run_ld (hA.ev rfl) (run_loadW Try.isAgg39 Try.sizeOf39 (by simp [Pl.len]; try rfl) (hM.box (.s (.s .z))))) ?_)
        clear hA; intro a hA
        obtain ⟨r142, H143, H⟩ := Option.bind_eq_some_iff.1 H
        refine L1 (st_call Try.call29 hA [(.agg #[(.int .u32 r_0.Epoch), (.bool r_0.Diffuse), (.slice A0_2 r_0.Routes.length c0_2), (.slice A0_3 r_0.Stems.length c0_3), (.slice A0_4 r_0.Fluffed.length c0_4)])] rfl (by decide) (ref40_Copied.calls _ (Relay.mk r_0.Epoch r_0.Diffuse r_0.Routes r_0.Stems r_0.Fluffed) _ _ _ _ _ _ ((RoV.mk (hM.roC (Ms := []) hr0_2) (Eq.refl r_0.Routes.length) hc0_2)) ((RoV.mk (hM.roC (Ms := []) hr0_3) (Eq.refl r_0.Stems.length) hc0_3)) ((RoV.mk (hM.roC (Ms := []) hr0_4) (Eq.refl r_0.Fluffed.length) hc0_4)) (hM.front (Ms := [])) H143) ?_)
        clear hA; rintro _ w144 ⟨v145, v146, v147, rfl, hMc⟩ a hA
        have hE := hMc.below; have hM := hM.call (Ms := []) hMc
        clear hMc; simp only [List.cons_append, List.nil_append] at hM
        obtain ⟨A149, c150, rfl⟩ := RowOk.form (hM.row (p := (Pl.int .i64)) .z)
        obtain ⟨A152, c153, rfl⟩ := RowOk.form (hM.row (p := pStem) (.s .z))
        obtain ⟨A155, c156, rfl⟩ := RowOk.form (hM.row (p := pHash) (.s (.s .z)))
        refine L1 (e_alloc (cs := [(.int .u32 0), (.bool false), (.slice none 0 0), (.slice none 0 0), (.slice none 0 0)]) hM zero39 rfl hA (by decide) ?_)
        clear hM hA; intro w158 g157 hM hE  a hA
        refine L1 (e_store (g := g157) (off := 0) (cur := [(.int .u32 0), (.bool false), (.slice none 0 0), (.slice none 0 0), (.slice none 0 0)]) (cs' := [(.int .u32 r142.Epoch), (.bool r142.Diffuse), (.slice A149 r142.Routes.length c150), (.slice A152 r142.Stems.length c153), (.slice A155 r142.Fluffed.length c156)]) hM .z Try.sizeOf39 hA rfl (by simp [add_mk]) rfl (by first | rfl | simp [Value.cells, Pl.len]) (by simp [Value.cells, Value.oneCell']) (by first | exact Nat.le_of_ble_eq_true rfl | (simp [Pl.len]; done)) (spl_all (by first | rfl | simp [Value.cells, Pl.len])) ?_)
        clear hM hA; intro w160  hM hE  a hA
        refine LQ ?_
        refine TN ?_
        refine wp_seq ?_
        refine wp_seq ?_
        refine wp_region_lit ?_
        refine L1 (stv hA (by decide) (run_field' Try.underlying39 rfl rfl Try.sizeOf36 (by decide) (hA.ev rfl)) ?_)
        clear hA; intro a hA
        refine L1 (stv hA (by decide) (run_ld (hA.ev rfl) (run_loadS Try.isAgg36 (At.seg1 (hM.box (.s (.s (.s (.s (.s (.s .z))))))) 3 rfl))) ?_)
        clear hA; intro a hA
        refine L1 (stv hA (by decide) (run_ld (hA.ev rfl) (run_loadP Try.isAgg34 Try.sizeOf34 (hM.box (.s (.s (.s (.s (.s .z)))))))) ?_)
        clear hA; intro a hA
        obtain ⟨r161, H162, H⟩ := Option.bind_eq_some_iff.1 H
        refine L1 (st_call Try.call37 hA [(.slice A0_3 r_0.Stems.length c0_3), (.agg (pHash.enc id_1).toArray)] rfl (by decide) (ref40_find.calls _ _ _ _ _ _ _ ((RoV.mk (hM.roC (Ms := []) hr0_3) (Eq.refl r_0.Stems.length) hc0_3)) (hM.front (Ms := [])) H162) ?_)
        clear hA; rintro _ w163 ⟨rfl, hMc⟩ a hA
        have hE := hMc.below; have hM := hM.call (Ms := []) hMc
        clear hMc; simp only [List.cons_append, List.nil_append] at hM
        refine L1 (stv hA (by decide) (run_assign (hA.ev rfl)) ?_)
        clear hA; intro a hA
        refine LQ ?_
        refine TN ?_
        refine wp_seq ?_
        refine wp_region_lit ?_
        refine L1 (stv hA (by decide) (run_move (hA.ev rfl)) ?_)
        clear hA; intro a hA
        refine L1 (stv hA (by decide) (run_bin (hA.ev rfl) (hA.ev rfl) (bin_geq _ _ _ _)) ?_)
        clear hA; intro a hA
        refine LQ ?_
        refine TN ?_
        obtain ⟨o197, H196, H⟩ := Option.bind_eq_some_iff.1 H
        refine cutC (fun a w => ∃ (xs195 : (List Stem)) (v192 : Value), xs195 = o197 ∧ Mem F w0 w [.box g115 34 (pHash.enc id_1), .box g118 39 [(.int .u32 0), (.bool false), (.slice none 0 0), (.slice none 0 0), (.slice none 0 0)], .box g157 39 [(.int .u32 r142.Epoch), (.bool r142.Diffuse), (.slice A149 r142.Routes.length c150), v192, (.slice A155 r142.Fluffed.length c156)], .row 3 (Pl.int .i64).sz (.slice A149 r142.Routes.length c150) ((Pl.int .i64).flat r142.Routes), .row 61 pStem.sz v192 (pStem.flat xs195), .row 34 pHash.sz (.slice A155 r142.Fluffed.length c156) (pHash.flat r142.Fluffed)] ∧ Has 53 [(3, (.pointer (some (⟨g115, 0, none⟩)))), (4, (.pointer (some (⟨g118, 0, none⟩)))), (6, (.pointer (some (⟨g157, 0, none⟩))))] a) ?_ ?_
        · refine tcond (b := (decide (r161 ≥ 0))) hA rfl (fun hb198 => ?_) (fun hb198 => ?_)
          · replace H196 := ite_t hb198 H196
            refine draw (fun w' => Below w163.heap.size w163 w') [13] rfl ?_
            intro w199 hw hS; replace hM := hM.ext hS; clear hw
            refine d_takef (i := 1) (L' := #[false, true, false, false, false, false, false, false, false, false, false, false, false, false]) rfl (by kernel_rfl) rfl (fun _ _ _ h => h) hA (by decide) (fun _ => hS) (fun a w' hA => run_field' Try.underlying39 rfl rfl Try.sizeOf36 (by decide) (hA.ev rfl)) ?_; clear hA; intro a hA
            refine rebase hS ?_; clear hS; intro hS
            refine d_take (i := 2) (L' := #[false, true, true, false, false, false, false, false, false, false, false, false, false, false]) rfl (by kernel_rfl) rfl (fun _ _ _ h => h) hA (by decide) rfl hS (fun a w' hA hS' => run_ld (hA.ev rfl) (run_loadS Try.isAgg36 ((At.seg1 (hM.box (.s (.s (.s (.s (.s (.s .z))))))) 3 rfl).extB hS'))) ?_; clear hA; intro a hA
            refine d_takef (i := 3) (L' := #[false, true, true, true, false, false, false, false, false, false, false, false, false, false]) rfl (by kernel_rfl) rfl (fun _ _ _ h => h) hA (by decide) (fun _ => hS) (fun a w' hA => run_move (hA.ev rfl)) ?_; clear hA; intro a hA
            obtain ⟨⟨hi201, hj202⟩, H196⟩ := ite_some H196
            refine d_takef (i := 4) (L' := #[false, true, true, true, true, false, false, false, false, false, false, false, false, false]) rfl (by kernel_rfl) rfl (fun _ _ _ h => h) hA (by decide) (fun _ => hS) (fun a w' hA => run_hi Try.underlying36 Try.sizeOf61 hc0_3 hi201 hj202 (hA.ev rfl) (hA.ev rfl)) ?_; clear hA; intro a hA
            refine d_takef (i := 6) (L' := #[false, true, true, true, true, false, true, false, false, false, false, false, false, false]) rfl (by kernel_rfl) rfl (fun _ _ _ h => h) hA (by decide) (fun _ => hS) (fun a w' hA => run_field' Try.underlying39 rfl rfl Try.sizeOf36 (by decide) (hA.ev rfl)) ?_; clear hA; intro a hA
            refine d_take (i := 7) (L' := #[false, true, true, true, true, false, true, true, false, false, false, false, false, false]) rfl (by kernel_rfl) rfl (fun _ _ _ h => h) hA (by decide) rfl hS (fun a w' hA hS' => run_ld (hA.ev rfl) (run_loadS Try.isAgg36 ((At.seg1 (hM.box (.s (.s (.s (.s (.s (.s .z))))))) 3 rfl).extB hS'))) ?_; clear hA; intro a hA
            refine d_takef (i := 8) (L' := #[false, true, true, true, true, false, true, true, true, false, false, false, false, false]) rfl (by kernel_rfl) rfl (fun _ _ _ h => h) hA (by decide) (fun _ => hS) (fun a w' hA => run_move (hA.ev rfl)) ?_; clear hA; intro a hA
            refine d_takef (i := 9) (L' := #[false, true, true, true, true, false, true, true, true, true, false, false, false, false]) rfl (by kernel_rfl) rfl (fun _ _ _ h => h) hA (by decide) (fun _ => hS) (fun a w' hA => run_bin (hA.ev rfl) (hA.ev rfl) (bin_add _ _ _ _)) ?_; clear hA; intro a hA
            obtain ⟨⟨hi203, hj204⟩, H196⟩ := ite_some H196
            refine d_takef (i := 10) (L' := #[false, true, true, true, true, false, true, true, true, true, true, false, false, false]) rfl (by kernel_rfl) rfl (fun _ _ _ h => h) hA (by decide) (fun _ => hS) (fun a w' hA => run_lo Try.underlying36 Try.sizeOf61 hc0_3 hi203 hj204 (hA.ev rfl) (hA.ev rfl)) ?_; clear hA; intro a hA
            refine d_one (i := 0) (L' := #[true, true, true, true, true, false, true, true, true, true, true, false, false, false]) (by kernel_rfl) rfl rfl (e_lit0L elt36 hM hA (by decide) ?_)
            clear hM hA; intro w206 g205 hM hE hlo207 a hA
            have hlw208 : ∀ k, Value.ownBlock (.slice (some ⟨g205, 0, none⟩) 0 0) = some k → w199.heap.size ≤ k := fun k hk => by cases hk; exact Nat.le_trans hS.size hlo207
            replace hS := hS.trans (hE.mono hS.size)
            refine ⟨fun _ => hS, ?_⟩
            obtain ⟨hl211, H196⟩ := ite_some H196
            refine d_one (i := 5) (L' := #[true, true, true, true, true, true, true, true, true, true, true, false, false, false]) (by kernel_rfl) rfl rfl (e_appendL elt36 hM (fun _ => .z) (Src.row Try.underlying36 (Row.take (hM.ro hr0_3) r161.toNat) (len_take (Eq.refl r_0.Stems.length) (by omega))) hl211 hA rfl rfl (by decide) ?_)
            clear hM hA; intro w212 A209 c210 hM hE hlo213 a hA
            have hlw214 : ∀ k, Value.ownBlock (.slice A209 (0 + r161.toNat) c210) = some k → w199.heap.size ≤ k := hlo213 _ hS.size hlw208
            replace hS := hS.grown hE hS.size hlw208
            refine ⟨fun _ => hS, ?_⟩
            obtain ⟨hl217, H196⟩ := ite_some H196
            refine d_one (i := 11) (L' := #[true, true, true, true, true, true, true, true, true, true, true, true, false, false]) (by kernel_rfl) rfl rfl (e_appendL elt36 hM (fun _ => .z) (Src.row Try.underlying36 (Row.drop' (c := c0_3) (hM.ro hr0_3) (by have hh1 := (Eq.refl r_0.Stems.length); omega) (by have hh1 := (Eq.refl r_0.Stems.length); have hh2 := hc0_3; omega)) (len_drop (Eq.refl r_0.Stems.length))) hl217 hA rfl rfl (by decide) ?_)
            clear hM hA; intro w218 A215 c216 hM hE hlo219 a hA
            have hlw220 : ∀ k, Value.ownBlock (.slice A215 ((0 + r161.toNat) + (r_0.Stems.length - (IntKind.i64.wrap (r161 + 1)).toNat)) c216) = some k → w199.heap.size ≤ k := hlo219 _ hS.size hlw214
            replace hS := hS.grown hE hS.size hlw214
            refine ⟨fun _ => hS, ?_⟩
            refine d_takef (i := 12) (L' := #[true, true, true, true, true, true, true, true, true, true, true, true, true, false]) rfl (by kernel_rfl) rfl (fun _ _ _ h => h) hA (by decide) (fun _ => hS) (fun a w' hA => run_field' Try.underlying39 rfl rfl Try.sizeOf36 (by decide) (hA.ev rfl)) ?_; clear hA; intro a hA
            refine d_one (i := 13) (L' := #[true, true, true, true, true, true, true, true, true, true, true, true, true, true]) (by kernel_rfl) rfl rfl (e_store (g := g157) (off := 3) (cur := [(.int .u32 r142.Epoch), (.bool r142.Diffuse), (.slice A149 r142.Routes.length c150), (.slice A152 r142.Stems.length c153), (.slice A155 r142.Fluffed.length c156)]) (cs' := [(.int .u32 r142.Epoch), (.bool r142.Diffuse), (.slice A149 r142.Routes.length c150), (.slice A215 ((0 + r161.toNat) + (r_0.Stems.length - (IntKind.i64.wrap (r161 + 1)).toNat)) c216), (.slice A155 r142.Fluffed.length c156)]) hM (.s .z) Try.sizeOf36 hA rfl (by simp [add_mk]) rfl (by first | rfl | simp [Value.cells, Pl.len]) (one_val rfl) (by first | exact Nat.le_of_ble_eq_true rfl | (simp [Pl.len]; done)) (rfl) ?_)
            clear hM hA; intro w221  hM hE  a hA
            refine ⟨fun h => absurd h (by decide), ?_⟩
            refine d_done (by kernel_rfl) ?_
            exact ⟨((([] : List Stem) ++ (r_0.Stems.take r161.toNat)) ++ (r_0.Stems.drop ((IntKind.i64.wrap (r161 + 1)).toNat))), (.slice A215 ((0 + r161.toNat) + (r_0.Stems.length - (IntKind.i64.wrap (r161 + 1)).toNat)) c216), Option.some.inj H196, (hM.sel [6, 5, 1, 2, 0, 4] rfl (by decide)), (((hA.nil.cons (hA.get 6 _ rfl)).cons (hA.get 4 _ rfl)).cons (hA.get 3 _ rfl))⟩
          · replace H196 := ite_f hb198 H196
            refine wp_skip ?_
            exact ⟨r142.Stems, (.slice A152 r142.Stems.length c153), Option.some.inj H196, (hM.sel [5, 4, 0, 1, 2, 3] rfl (by decide)), (((hA.nil.cons (hA.get 6 _ rfl)).cons (hA.get 4 _ rfl)).cons (hA.get 3 _ rfl))⟩
        clear hM hA
        rintro a w222 ⟨xs195, v192, rfl, hM, hA⟩
        try dsimp only at H
        obtain ⟨A193, c194, rfl⟩ := RowOk.form (hM.row (p := pStem) (.s (.s (.s (.s .z)))))
        refine TN ?_
        refine wp_seq ?_
        refine wp_region_lit ?_
        refine L1 (stv hA (by decide) (run_field' Try.underlying39 rfl rfl Try.sizeOf37 (by decide) (hA.ev rfl)) ?_)
        clear hA; intro a hA
        refine L1 (stv hA (by decide) (run_ld (hA.ev rfl) (run_loadS Try.isAgg37 (At.seg1 (hM.box (.s (.s .z))) 4 rfl))) ?_)
        clear hA; intro a hA
        refine L1 (stv hA (by decide) (run_ld (hA.ev rfl) (run_loadP Try.isAgg34 Try.sizeOf34 (hM.box .z))) ?_)
        clear hA; intro a hA
        refine L1 (e_litN [id_1] [(.agg (pHash.enc id_1).toArray)] elt37 hM rfl (by decide) hA rfl rfl (List.cons_ne_nil _ _) (by decide) ?_)
        clear hM hA; intro w224 g223 hM hE  a hA
        obtain ⟨hl228, H⟩ := ite_some H
        refine L1 (e_append elt37 hM (fun _ => (.s (.s (.s (.s (.s (.s .z))))))) (Src.row Try.underlying37 (RowOk.row (hM.row (p := pHash) .z)) (RowOk.len (hM.row (p := pHash) .z))) hl228 hA rfl rfl (by decide) ?_)
        clear hM hA; intro w229 A226 c227 hM hE  a hA
        refine L1 (stv hA (by decide) (run_field' Try.underlying39 rfl rfl Try.sizeOf37 (by decide) (hA.ev rfl)) ?_)
        clear hA; intro a hA
        refine L1 (e_store (g := g157) (off := 4) (cur := [(.int .u32 r142.Epoch), (.bool r142.Diffuse), (.slice A149 r142.Routes.length c150), (.slice A193 xs195.length c194), (.slice A155 r142.Fluffed.length c156)]) (cs' := [(.int .u32 r142.Epoch), (.bool r142.Diffuse), (.slice A149 r142.Routes.length c150), (.slice A193 xs195.length c194), (.slice A226 (r142.Fluffed.length + 1) c227)]) hM (.s (.s (.s .z))) Try.sizeOf37 hA rfl (by simp [add_mk]) rfl (by first | rfl | simp [Value.cells, Pl.len]) (one_val rfl) (by first | exact Nat.le_of_ble_eq_true rfl | (simp [Pl.len]; done)) (rfl) ?_)
        clear hM hA; intro w230  hM hE  a hA
        refine LQ ?_
        refine TN ?_
        refine wp_seq ?_
        refine wp_region_lit ?_
        refine L1 (stv hA (by decide) (run_ld (hA.ev rfl) (run_loadW Try.isAgg39 Try.sizeOf39 (by simp [Pl.len]; try rfl) (hM.box (.s (.s (.s .z)))))) ?_)
        clear hA; intro a hA
        refine L1 (e_store (g := g118) (off := 0) (cur := [(.int .u32 0), (.bool false), (.slice none 0 0), (.slice none 0 0), (.slice none 0 0)]) (cs' := [(.int .u32 r142.Epoch), (.bool r142.Diffuse), (.slice A149 r142.Routes.length c150), (.slice A193 xs195.length c194), (.slice A226 (r142.Fluffed.length + 1) c227)]) hM (.s (.s .z)) Try.sizeOf39 hA rfl (by simp [add_mk]) rfl (by first | rfl | simp [Value.cells, Pl.len]) (by simp [Value.cells, Value.oneCell']) (by first | exact Nat.le_of_ble_eq_true rfl | (simp [Pl.len]; done)) (spl_all (by first | rfl | simp [Value.cells, Pl.len])) ?_)
        clear hM hA; intro w231  hM hE  a hA
        refine L1 (stv hA (by decide) (run_assign (hA.ev rfl)) ?_)
        clear hA; intro a hA
        refine LQ ?_
        refine TN ?_
        refine wp_ret ?_
        obtain rfl := Option.some.inj H
        exact ret_mix2 (fn := Try.f16) hA rfl (RV.cell rfl (run_loadW Try.isAgg39 Try.sizeOf39 (by simp [Pl.len]; try rfl) (hM.box (.s (.s .z))))) (RV.tmp rfl) ⟨_, rfl, (.slice A149 r142.Routes.length c150), (.slice A193 xs195.length c194), (.slice A226 (r142.Fluffed.length + 1) c227), rfl, (hM.sel [4, 5, 6] rfl (by decide))⟩

end Go.Proofs.Ytnhgfdinnbadeaa.G
