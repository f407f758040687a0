/- The functions that a law of this seat reaches: what each comes to, as a plain function, and that its code comes to it. Conditions: the plain function gives a value (enough fuel, no panic). -/
import Derived.Test.YtjjahfpamjmacaaFBranchMeetsNearx0
set_option linter.unusedVariables false
set_option linter.unusedSimpArgs false
namespace Go.Proofs.Ytjjahfpamjmacaa.G
open Go Go.RowKit Go.Proofs
def law16_sane.f (k : Nat)  : Option Bool := (if 0 ≤ (30 : Int) ∧ (30 : Int) * 1 ≤ 140737488355328 then ((law16_line.f k (List.replicate ((30 : Int).toNat) (0 : Int))).bind fun r126 => ((branch_Locator.f k (Tree.mk r126.Nodes r126.Best) 30).bind fun r137 => (Option.bind (α := Bool) (if (((r137.length : Nat) : Int) == 14) = true then (if 0 ≤ (10 : Int) ∧ (10 : Int) < ((r137.length : Nat) : Int) then (if 0 ≤ (19 : Int) ∧ (19 : Int) < ((r126.Nodes.length : Nat) : Int) then (if ((r137.getD (10 : Int).toNat (Vector.replicate 32 0 : Vector Int 32)) == ((r126.Nodes.getD (19 : Int).toNat Node.z).Hash)) = true then (if 0 ≤ (12 : Int) ∧ (12 : Int) < ((r137.length : Nat) : Int) then (if 0 ≤ (7 : Int) ∧ (7 : Int) < ((r126.Nodes.length : Nat) : Int) then (if ((r137.getD (12 : Int).toNat (Vector.replicate 32 0 : Vector Int 32)) == ((r126.Nodes.getD (7 : Int).toNat Node.z).Hash)) = true then (if 0 ≤ (13 : Int) ∧ (13 : Int) < ((r137.length : Nat) : Int) then (if 0 ≤ (0 : Int) ∧ (0 : Int) < ((r126.Nodes.length : Nat) : Int) then (if ((r137.getD (13 : Int).toNat (Vector.replicate 32 0 : Vector Int 32)) == ((r126.Nodes.getD (0 : Int).toNat Node.z).Hash)) = true then ((branch_Fork.f k (Tree.mk r126.Nodes r126.Best) 3 9).bind fun r230 => (if (r230 == 3) = true then ((branch_Main.f k (Tree.mk r126.Nodes r126.Best)).bind fun r234 => (some (((r234.length : Nat) : Int) == 31))) else (some false))) else (some false)) else none) else none) else (some false)) else none) else none) else (some false)) else none) else none) else (some false)) (fun t191 => (some t191))))) else none)
set_option maxRecDepth 100000 in
theorem law16_sane.calls (k : Nat)  (F : List (Option Nat)) (r : Bool) (w0 : World) (hM : Mem F w0 w0 []) (H : law16_sane.f k  = some r) :
    Calls Try.prog 8 #[] w0 fun e w' => ∃ v, e = .returned v ∧ v = (.bool r) ∧ Mem F w0 w' [] := by
  unfold law16_sane.f at H
  refine enterL (n := 54) [] Try.func8 rfl rfl rfl ?_
  intro a hA
  refine wp_seq ?_
  refine wp_region_lit ?_
  refine L1 (stv hA (by decide) (run_assign (hA.ev rfl)) ?_)
  clear hA; intro a hA
  refine LQ ?_
  refine TN ?_
  refine wp_seq ?_
  refine wp_region_lit ?_
  obtain ⟨⟨hi122, hj123⟩, H⟩ := ite_some H
  refine L1 (e_make elt25 rfl hM hA rfl rfl hi122 hj123 (by decide) ?_)
  clear hM hA; intro w124 g121 hM hE a hA
  obtain ⟨r126, H127, H⟩ := Option.bind_eq_some_iff.1 H
  refine L1 (st_call Try.call10 hA [(.slice (some ⟨g121, 0, none⟩) ((30 : Int).toNat) ((30 : Int).toNat))] rfl (by decide) (law16_line.calls _ _ _ _ _ _ ((RoV.mk (hM.rowC (p := (Pl.int .u8)) (Ms := []) .z) (RowOk.len (hM.row (p := (Pl.int .u8)) .z)) (RowOk.cap (hM.row (p := (Pl.int .u8)) .z)))) (hM.front (Ms := [])) H127) ?_)
  clear hA; rintro _ w128 ⟨v129, rfl, hMc⟩ a hA
  have hE := hMc.below; have hM := hM.call (Ms := []) hMc
  clear hMc; simp only [List.cons_append, List.nil_append] at hM
  obtain ⟨A131, c132, rfl⟩ := RowOk.form (hM.row (p := pNode) .z)
  refine L1 (e_alloc (cs := [(.slice none 0 0), (.int .i64 0)]) hM zero24 rfl hA (by decide) ?_)
  clear hM hA; intro w134 g133 hM hE a hA
  refine L1 (e_store (g := g133) (off := 0) (cur := [(.slice none 0 0), (.int .i64 0)]) (cs' := [(.slice A131 r126.Nodes.length c132), (.int .i64 r126.Best)]) hM .z Try.sizeOf24 hA rfl (by simp [add_mk]) rfl (by first | rfl | simp [Value.cells, Pl.len]) (by simp [Value.cells, Value.oneCell']) (by first | exact Nat.le_of_ble_eq_true rfl | (simp [Pl.len]; done)) (spl_all (by first | rfl | simp [Value.cells, Pl.len])) ?_)
  clear hM hA; intro w136 hM hE a hA
  refine LQ ?_
  refine TN ?_
  refine wp_seq ?_
  refine wp_region_lit ?_
  refine L1 (stv hA (by decide) (run_ld (hA.ev rfl) (run_loadW Try.isAgg24 Try.sizeOf24 (by simp [Pl.len]; try rfl) (hM.box .z))) ?_)
  clear hA; intro a hA
  obtain ⟨r137, H138, H⟩ := Option.bind_eq_some_iff.1 H
  refine L1 (st_call Try.call18 hA [(.agg #[(.slice A131 r126.Nodes.length c132), (.int .i64 r126.Best)]), (.int .i64 30)] rfl (by decide) (branch_Locator.calls _ _ _ _ _ _ _ ((RoV.mk (hM.rowC (p := pNode) (Ms := []) (.s .z)) (RowOk.len (hM.row (p := pNode) (.s .z))) (RowOk.cap (hM.row (p := pNode) (.s .z))))) (hM.front (Ms := [])) H138) ?_)
  clear hA; rintro _ w139 ⟨v140, rfl, hMc⟩ a hA
  have hE := hMc.below; have hM := hM.call (Ms := []) hMc
  clear hMc; simp only [List.cons_append, List.nil_append] at hM
  obtain ⟨A142, c143, rfl⟩ := RowOk.form (hM.row (p := pHash) .z)
  refine L1 (stv hA (by decide) (run_assign (hA.ev rfl)) ?_)
  clear hA; intro a hA
  refine LQ ?_
  refine TN ?_
  refine wp_seq ?_
  obtain ⟨o193, H192, H⟩ := Option.bind_eq_some_iff.1 H
  refine cutC (fun a w => ∃ (t191 : Bool), t191 = o193 ∧ Mem F w0 w [] ∧ Has 54 [(0, (.bool t191))] a) ?_ ?_
  · refine draw (fun w' => Below w139.heap.size w139 w') [] rfl ?_
    intro w194 hw hS; replace hM := hM.ext hS; clear hw
    refine d_takef (i := 0) (L' := #[true, false, false, false, false, false, false, false, false, false, false, false, false, false, false, false, false, false, false, false, false, false, false, false, false, false, false, false, false, false, false, false, false, false, false, false, false, false, false, false, false, false, false, false, false, false, false, false]) rfl (by kernel_rfl) rfl (fun _ _ _ h => h) hA (by decide) (fun _ => hS) (fun a w' hA => run_move (hA.ev rfl)) ?_; clear hA; intro a hA
    refine d_takef (i := 1) (L' := #[true, true, false, false, false, false, false, false, false, false, false, false, false, false, false, false, false, false, false, false, false, false, false, false, false, false, false, false, false, false, false, false, false, false, false, false, false, false, false, false, false, false, false, false, false, false, false, false]) rfl (by kernel_rfl) rfl (fun _ _ _ h => h) hA (by decide) (fun _ => hS) (fun a w' hA => run_len_slice Try.underlying35 (hA.ev rfl)) ?_; clear hA; intro a hA
    refine d_takef (i := 2) (L' := #[true, true, true, false, false, false, false, false, false, false, false, false, false, false, false, false, false, false, false, false, false, false, false, false, false, false, false, false, false, false, false, false, false, false, false, false, false, false, false, false, false, false, false, false, false, false, false, false]) rfl (by kernel_rfl) rfl (fun _ _ _ h => h) hA (by decide) (fun _ => hS) (fun a w' hA => run_bin (hA.ev rfl) (hA.ev rfl) (bin_eql _ _ _ _)) ?_; clear hA; intro a hA
    refine d_takef (i := 3) (L' := #[true, true, true, true, false, false, false, false, false, false, false, false, false, false, false, false, false, false, false, false, false, false, false, false, false, false, false, false, false, false, false, false, false, false, false, false, false, false, false, false, false, false, false, false, false, false, false, false]) rfl (by kernel_rfl) rfl (fun _ _ _ h => h) hA (by decide) (fun _ => hS) (fun a w' hA => run_move (hA.ev rfl)) ?_; clear hA; intro a hA
    refine bsplit (b := (((r137.length : Nat) : Int) == 14)) (fun hb196 => ?_) (fun hb196 => ?_)
    · replace H192 := ite_t hb196 H192
      have hA := hA.re (t := 10) rfl (congrArg Value.bool hb196)
      refine d_takegf (i := 4) (L' := #[true, true, true, true, true, false, false, false, false, false, false, false, false, false, false, false, false, false, false, false, false, false, false, false, false, false, false, false, false, false, false, false, false, false, false, false, false, false, false, false, false, false, false, false, false, false, false, false]) rfl (by kernel_rfl) rfl (fun _ _ _ h => h) rfl hA (by decide) (by decide) rfl (fun _ => hS) (fun a w' hA => run_move (hA.ev rfl)) ?_; clear hA; intro a hA
      obtain ⟨⟨hi197, hj198⟩, H192⟩ := ite_some H192
      obtain ⟨ad199, hq200, hat201⟩ := Row.elem' (p := pHash) (RowOk.row (hM.row (p := pHash) .z)) (RowOk.len (hM.row (p := pHash) .z)) (Vector.replicate 32 0 : Vector Int 32) (10 : Int) hi197 hj198
      refine d_takegf (i := 5) (L' := #[true, true, true, true, true, true, false, false, false, false, false, false, false, false, false, false, false, false, false, false, false, false, false, false, false, false, false, false, false, false, false, false, false, false, false, false, false, false, false, false, false, false, false, false, false, false, false, false]) rfl (by kernel_rfl) rfl (fun _ _ _ h => h) rfl hA (by decide) (by decide) rfl (fun _ => hS) (fun a w' hA => run_idx Try.underlying35 Try.sizeOf38 (hA.ev rfl) hq200 (hA.ev rfl) hi197 hj198) ?_; clear hA; intro a hA
      refine rebase hS ?_; clear hS; intro hS
      refine d_takeg (i := 6) (L' := #[true, true, true, true, true, true, true, false, false, false, false, false, false, false, false, false, false, false, false, false, false, false, false, false, false, false, false, false, false, false, false, false, false, false, false, false, false, false, false, false, false, false, false, false, false, false, false, false]) rfl (by kernel_rfl) rfl (fun _ _ _ h => h) rfl hA (by decide) (by decide) rfl rfl hS (fun a w' hA hS' => run_ld (hA.ev rfl) (run_loadP Try.isAgg38 Try.sizeOf38 ((hat201).extB hS'))) ?_; clear hA; intro a hA
      refine d_takegf (i := 7) (L' := #[true, true, true, true, true, true, true, true, false, false, false, false, false, false, false, false, false, false, false, false, false, false, false, false, false, false, false, false, false, false, false, false, false, false, false, false, false, false, false, false, false, false, false, false, false, false, false, false]) rfl (by kernel_rfl) rfl (fun _ _ _ h => h) rfl hA (by decide) (by decide) rfl (fun _ => hS) (fun a w' hA => run_field' Try.underlying24 rfl rfl Try.sizeOf22 (by decide) (hA.ev rfl)) ?_; clear hA; intro a hA
      refine d_takeg (i := 8) (L' := #[true, true, true, true, true, true, true, true, true, false, false, false, false, false, false, false, false, false, false, false, false, false, false, false, false, false, false, false, false, false, false, false, false, false, false, false, false, false, false, false, false, false, false, false, false, false, false, false]) rfl (by kernel_rfl) rfl (fun _ _ _ h => h) rfl hA (by decide) (by decide) rfl rfl hS (fun a w' hA hS' => run_ld (hA.ev rfl) (run_loadS Try.isAgg22 ((At.seg1 (hM.box (.s .z)) 0 rfl).extB hS'))) ?_; clear hA; intro a hA
      obtain ⟨⟨hi202, hj203⟩, H192⟩ := ite_some H192
      obtain ⟨ad204, hq205, hat206⟩ := Row.elem' (p := pNode) (RowOk.row (hM.row (p := pNode) (.s (.s .z)))) (RowOk.len (hM.row (p := pNode) (.s (.s .z)))) Node.z (19 : Int) hi202 hj203
      refine d_takegf (i := 9) (L' := #[true, true, true, true, true, true, true, true, true, true, false, false, false, false, false, false, false, false, false, false, false, false, false, false, false, false, false, false, false, false, false, false, false, false, false, false, false, false, false, false, false, false, false, false, false, false, false, false]) rfl (by kernel_rfl) rfl (fun _ _ _ h => h) rfl hA (by decide) (by decide) rfl (fun _ => hS) (fun a w' hA => run_idx Try.underlying22 Try.sizeOf46 (hA.ev rfl) hq205 (hA.ev rfl) hi202 hj203) ?_; clear hA; intro a hA
      refine d_takegf (i := 10) (L' := #[true, true, true, true, true, true, true, true, true, true, true, false, false, false, false, false, false, false, false, false, false, false, false, false, false, false, false, false, false, false, false, false, false, false, false, false, false, false, false, false, false, false, false, false, false, false, false, false]) rfl (by kernel_rfl) rfl (fun _ _ _ h => h) rfl hA (by decide) (by decide) rfl (fun _ => hS) (fun a w' hA => run_field' Try.underlying46 rfl rfl Try.sizeOf38 (by decide) (hA.ev rfl)) ?_; clear hA; intro a hA
      refine d_takeg (i := 11) (L' := #[true, true, true, true, true, true, true, true, true, true, true, true, false, false, false, false, false, false, false, false, false, false, false, false, false, false, false, false, false, false, false, false, false, false, false, false, false, false, false, false, false, false, false, false, false, false, false, false]) rfl (by kernel_rfl) rfl (fun _ _ _ h => h) rfl hA (by decide) (by decide) rfl rfl hS (fun a w' hA hS' => run_ld (hA.ev rfl) (run_loadP Try.isAgg38 Try.sizeOf38 ((Node.at_Hash (hat206)).extB hS'))) ?_; clear hA; intro a hA
      refine d_takegf (i := 12) (L' := #[true, true, true, true, true, true, true, true, true, true, true, true, true, false, false, false, false, false, false, false, false, false, false, false, false, false, false, false, false, false, false, false, false, false, false, false, false, false, false, false, false, false, false, false, false, false, false, false]) rfl (by kernel_rfl) rfl (fun _ _ _ h => h) rfl hA (by decide) (by decide) rfl (fun _ => hS) (fun a w' hA => run_aggeql eq_Hash rfl (by kernel_rfl) (hA.ev rfl) (hA.ev rfl)) ?_; clear hA; intro a hA
      refine d_takef (i := 13) (L' := #[true, true, true, true, true, true, true, true, true, true, true, true, true, true, false, false, false, false, false, false, false, false, false, false, false, false, false, false, false, false, false, false, false, false, false, false, false, false, false, false, false, false, false, false, false, false, false, false]) rfl (by kernel_rfl) rfl (fun _ _ _ h => h) hA (by decide) (fun _ => hS) (fun a w' hA => run_pick (hA.ev rfl) (fun _ => hA.ev rfl) (fun h => Bool.noConfusion h)) ?_; clear hA; intro a hA
      refine d_takef (i := 14) (L' := #[true, true, true, true, true, true, true, true, true, true, true, true, true, true, true, false, false, false, false, false, false, false, false, false, false, false, false, false, false, false, false, false, false, false, false, false, false, false, false, false, false, false, false, false, false, false, false, false]) rfl (by kernel_rfl) rfl (fun _ _ _ h => h) hA (by decide) (fun _ => hS) (fun a w' hA => run_move (hA.ev rfl)) ?_; clear hA; intro a hA
      refine bsplit (b := ((r137.getD (10 : Int).toNat (Vector.replicate 32 0 : Vector Int 32)) == ((r126.Nodes.getD (19 : Int).toNat Node.z).Hash))) (fun hb207 => ?_) (fun hb207 => ?_)
      · replace H192 := ite_t hb207 H192
        have hA := hA.re (t := 21) rfl (congrArg Value.bool hb207)
        refine d_takegf (i := 15) (L' := #[true, true, true, true, true, true, true, true, true, true, true, true, true, true, true, true, false, false, false, false, false, false, false, false, false, false, false, false, false, false, false, false, false, false, false, false, false, false, false, false, false, false, false, false, false, false, false, false]) rfl (by kernel_rfl) rfl (fun _ _ _ h => h) rfl hA (by decide) (by decide) rfl (fun _ => hS) (fun a w' hA => run_move (hA.ev rfl)) ?_; clear hA; intro a hA
        obtain ⟨⟨hi208, hj209⟩, H192⟩ := ite_some H192
        obtain ⟨ad210, hq211, hat212⟩ := Row.elem' (p := pHash) (RowOk.row (hM.row (p := pHash) .z)) (RowOk.len (hM.row (p := pHash) .z)) (Vector.replicate 32 0 : Vector Int 32) (12 : Int) hi208 hj209
        refine d_takegf (i := 16) (L' := #[true, true, true, true, true, true, true, true, true, true, true, true, true, true, true, true, true, false, false, false, false, false, false, false, false, false, false, false, false, false, false, false, false, false, false, false, false, false, false, false, false, false, false, false, false, false, false, false]) rfl (by kernel_rfl) rfl (fun _ _ _ h => h) rfl hA (by decide) (by decide) rfl (fun _ => hS) (fun a w' hA => run_idx Try.underlying35 Try.sizeOf38 (hA.ev rfl) hq211 (hA.ev rfl) hi208 hj209) ?_; clear hA; intro a hA
        refine d_takeg (i := 17) (L' := #[true, true, true, true, true, true, true, true, true, true, true, true, true, true, true, true, true, true, false, false, false, false, false, false, false, false, false, false, false, false, false, false, false, false, false, false, false, false, false, false, false, false, false, false, false, false, false, false]) rfl (by kernel_rfl) rfl (fun _ _ _ h => h) rfl hA (by decide) (by decide) rfl rfl hS (fun a w' hA hS' => run_ld (hA.ev rfl) (run_loadP Try.isAgg38 Try.sizeOf38 ((hat212).extB hS'))) ?_; clear hA; intro a hA
        refine d_takegf (i := 18) (L' := #[true, true, true, true, true, true, true, true, true, true, true, true, true, true, true, true, true, true, true, false, false, false, false, false, false, false, false, false, false, false, false, false, false, false, false, false, false, false, false, false, false, false, false, false, false, false, false, false]) rfl (by kernel_rfl) rfl (fun _ _ _ h => h) rfl hA (by decide) (by decide) rfl (fun _ => hS) (fun a w' hA => run_field' Try.underlying24 rfl rfl Try.sizeOf22 (by decide) (hA.ev rfl)) ?_; clear hA; intro a hA
        refine d_takeg (i := 19) (L' := #[true, true, true, true, true, true, true, true, true, true, true, true, true, true, true, true, true, true, true, true, false, false, false, false, false, false, false, false, false, false, false, false, false, false, false, false, false, false, false, false, false, false, false, false, false, false, false, false]) rfl (by kernel_rfl) rfl (fun _ _ _ h => h) rfl hA (by decide) (by decide) rfl rfl hS (fun a w' hA hS' => run_ld (hA.ev rfl) (run_loadS Try.isAgg22 ((At.seg1 (hM.box (.s .z)) 0 rfl).extB hS'))) ?_; clear hA; intro a hA
        obtain ⟨⟨hi213, hj214⟩, H192⟩ := ite_some H192
        obtain ⟨ad215, hq216, hat217⟩ := Row.elem' (p := pNode) (RowOk.row (hM.row (p := pNode) (.s (.s .z)))) (RowOk.len (hM.row (p := pNode) (.s (.s .z)))) Node.z (7 : Int) hi213 hj214
        refine d_takegf (i := 20) (L' := #[true, true, true, true, true, true, true, true, true, true, true, true, true, true, true, true, true, true, true, true, true, false, false, false, false, false, false, false, false, false, false, false, false, false, false, false, false, false, false, false, false, false, false, false, false, false, false, false]) rfl (by kernel_rfl) rfl (fun _ _ _ h => h) rfl hA (by decide) (by decide) rfl (fun _ => hS) (fun a w' hA => run_idx Try.underlying22 Try.sizeOf46 (hA.ev rfl) hq216 (hA.ev rfl) hi213 hj214) ?_; clear hA; intro a hA
        refine d_takegf (i := 21) (L' := #[true, true, true, true, true, true, true, true, true, true, true, true, true, true, true, true, true, true, true, true, true, true, false, false, false, false, false, false, false, false, false, false, false, false, false, false, false, false, false, false, false, false, false, false, false, false, false, false]) rfl (by kernel_rfl) rfl (fun _ _ _ h => h) rfl hA (by decide) (by decide) rfl (fun _ => hS) (fun a w' hA => run_field' Try.underlying46 rfl rfl Try.sizeOf38 (by decide) (hA.ev rfl)) ?_; clear hA; intro a hA
        refine d_takeg (i := 22) (L' := #[true, true, true, true, true, true, true, true, true, true, true, true, true, true, true, true, true, true, true, true, true, true, true, false, false, false, false, false, false, false, false, false, false, false, false, false, false, false, false, false, false, false, false, false, false, false, false, false]) rfl (by kernel_rfl) rfl (fun _ _ _ h => h) rfl hA (by decide) (by decide) rfl rfl hS (fun a w' hA hS' => run_ld (hA.ev rfl) (run_loadP Try.isAgg38 Try.sizeOf38 ((Node.at_Hash (hat217)).extB hS'))) ?_; clear hA; intro a hA
        refine d_takegf (i := 23) (L' := #[true, true, true, true, true, true, true, true, true, true, true, true, true, true, true, true, true, true, true, true, true, true, true, true, false, false, false, false, false, false, false, false, false, false, false, false, false, false, false, false, false, false, false, false, false, false, false, false]) rfl (by kernel_rfl) rfl (fun _ _ _ h => h) rfl hA (by decide) (by decide) rfl (fun _ => hS) (fun a w' hA => run_aggeql eq_Hash rfl (by kernel_rfl) (hA.ev rfl) (hA.ev rfl)) ?_; clear hA; intro a hA
        refine d_takef (i := 24) (L' := #[true, true, true, true, true, true, true, true, true, true, true, true, true, true, true, true, true, true, true, true, true, true, true, true, true, false, false, false, false, false, false, false, false, false, false, false, false, false, false, false, false, false, false, false, false, false, false, false]) rfl (by kernel_rfl) rfl (fun _ _ _ h => h) hA (by decide) (fun _ => hS) (fun a w' hA => run_pick (hA.ev rfl) (fun _ => hA.ev rfl) (fun h => Bool.noConfusion h)) ?_; clear hA; intro a hA
        refine d_takef (i := 25) (L' := #[true, true, true, true, true, true, true, true, true, true, true, true, true, true, true, true, true, true, true, true, true, true, true, true, true, true, false, false, false, false, false, false, false, false, false, false, false, false, false, false, false, false, false, false, false, false, false, false]) rfl (by kernel_rfl) rfl (fun _ _ _ h => h) hA (by decide) (fun _ => hS) (fun a w' hA => run_move (hA.ev rfl)) ?_; clear hA; intro a hA
        refine bsplit (b := ((r137.getD (12 : Int).toNat (Vector.replicate 32 0 : Vector Int 32)) == ((r126.Nodes.getD (7 : Int).toNat Node.z).Hash))) (fun hb218 => ?_) (fun hb218 => ?_)
        · replace H192 := ite_t hb218 H192
          have hA := hA.re (t := 32) rfl (congrArg Value.bool hb218)
          refine d_takegf (i := 26) (L' := #[true, true, true, true, true, true, true, true, true, true, true, true, true, true, true, true, true, true, true, true, true, true, true, true, true, true, true, false, false, false, false, false, false, false, false, false, false, false, false, false, false, false, false, false, false, false, false, false]) rfl (by kernel_rfl) rfl (fun _ _ _ h => h) rfl hA (by decide) (by decide) rfl (fun _ => hS) (fun a w' hA => run_move (hA.ev rfl)) ?_; clear hA; intro a hA
          obtain ⟨⟨hi219, hj220⟩, H192⟩ := ite_some H192
          obtain ⟨ad221, hq222, hat223⟩ := Row.elem' (p := pHash) (RowOk.row (hM.row (p := pHash) .z)) (RowOk.len (hM.row (p := pHash) .z)) (Vector.replicate 32 0 : Vector Int 32) (13 : Int) hi219 hj220
          refine d_takegf (i := 27) (L' := #[true, true, true, true, true, true, true, true, true, true, true, true, true, true, true, true, true, true, true, true, true, true, true, true, true, true, true, true, false, false, false, false, false, false, false, false, false, false, false, false, false, false, false, false, false, false, false, false]) rfl (by kernel_rfl) rfl (fun _ _ _ h => h) rfl hA (by decide) (by decide) rfl (fun _ => hS) (fun a w' hA => run_idx Try.underlying35 Try.sizeOf38 (hA.ev rfl) hq222 (hA.ev rfl) hi219 hj220) ?_; clear hA; intro a hA
          refine d_takeg (i := 28) (L' := #[true, true, true, true, true, true, true, true, true, true, true, true, true, true, true, true, true, true, true, true, true, true, true, true, true, true, true, true, true, false, false, false, false, false, false, false, false, false, false, false, false, false, false, false, false, false, false, false]) rfl (by kernel_rfl) rfl (fun _ _ _ h => h) rfl hA (by decide) (by decide) rfl rfl hS (fun a w' hA hS' => run_ld (hA.ev rfl) (run_loadP Try.isAgg38 Try.sizeOf38 ((hat223).extB hS'))) ?_; clear hA; intro a hA
          refine d_takegf (i := 29) (L' := #[true, true, true, true, true, true, true, true, true, true, true, true, true, true, true, true, true, true, true, true, true, true, true, true, true, true, true, true, true, true, false, false, false, false, false, false, false, false, false, false, false, false, false, false, false, false, false, false]) rfl (by kernel_rfl) rfl (fun _ _ _ h => h) rfl hA (by decide) (by decide) rfl (fun _ => hS) (fun a w' hA => run_field' Try.underlying24 rfl rfl Try.sizeOf22 (by decide) (hA.ev rfl)) ?_; clear hA; intro a hA
          refine d_takeg (i := 30) (L' := #[true, true, true, true, true, true, true, true, true, true, true, true, true, true, true, true, true, true, true, true, true, true, true, true, true, true, true, true, true, true, true, false, false, false, false, false, false, false, false, false, false, false, false, false, false, false, false, false]) rfl (by kernel_rfl) rfl (fun _ _ _ h => h) rfl hA (by decide) (by decide) rfl rfl hS (fun a w' hA hS' => run_ld (hA.ev rfl) (run_loadS Try.isAgg22 ((At.seg1 (hM.box (.s .z)) 0 rfl).extB hS'))) ?_; clear hA; intro a hA
          obtain ⟨⟨hi224, hj225⟩, H192⟩ := ite_some H192
          obtain ⟨ad226, hq227, hat228⟩ := Row.elem' (p := pNode) (RowOk.row (hM.row (p := pNode) (.s (.s .z)))) (RowOk.len (hM.row (p := pNode) (.s (.s .z)))) Node.z (0 : Int) hi224 hj225
          refine d_takegf (i := 31) (L' := #[true, true, true, true, true, true, true, true, true, true, true, true, true, true, true, true, true, true, true, true, true, true, true, true, true, true, true, true, true, true, true, true, false, false, false, false, false, false, false, false, false, false, false, false, false, false, false, false]) rfl (by kernel_rfl) rfl (fun _ _ _ h => h) rfl hA (by decide) (by decide) rfl (fun _ => hS) (fun a w' hA => run_idx Try.underlying22 Try.sizeOf46 (hA.ev rfl) hq227 (hA.ev rfl) hi224 hj225) ?_; clear hA; intro a hA
          refine d_takegf (i := 32) (L' := #[true, true, true, true, true, true, true, true, true, true, true, true, true, true, true, true, true, true, true, true, true, true, true, true, true, true, true, true, true, true, true, true, true, false, false, false, false, false, false, false, false, false, false, false, false, false, false, false]) rfl (by kernel_rfl) rfl (fun _ _ _ h => h) rfl hA (by decide) (by decide) rfl (fun _ => hS) (fun a w' hA => run_field' Try.underlying46 rfl rfl Try.sizeOf38 (by decide) (hA.ev rfl)) ?_; clear hA; intro a hA
          refine d_takeg (i := 33) (L' := #[true, true, true, true, true, true, true, true, true, true, true, true, true, true, true, true, true, true, true, true, true, true, true, true, true, true, true, true, true, true, true, true, true, true, false, false, false, false, false, false, false, false, false, false, false, false, false, false]) rfl (by kernel_rfl) rfl (fun _ _ _ h => h) rfl hA (by decide) (by decide) rfl rfl hS (fun a w' hA hS' => run_ld (hA.ev rfl) (run_loadP Try.isAgg38 Try.sizeOf38 ((Node.at_Hash (hat228)).extB hS'))) ?_; clear hA; intro a hA
          refine d_takegf (i := 34) (L' := #[true, true, true, true, true, true, true, true, true, true, true, true, true, true, true, true, true, true, true, true, true, true, true, true, true, true, true, true, true, true, true, true, true, true, true, false, false, false, false, false, false, false, false, false, false, false, false, false]) rfl (by kernel_rfl) rfl (fun _ _ _ h => h) rfl hA (by decide) (by decide) rfl (fun _ => hS) (fun a w' hA => run_aggeql eq_Hash rfl (by kernel_rfl) (hA.ev rfl) (hA.ev rfl)) ?_; clear hA; intro a hA
          refine d_takef (i := 35) (L' := #[true, true, true, true, true, true, true, true, true, true, true, true, true, true, true, true, true, true, true, true, true, true, true, true, true, true, true, true, true, true, true, true, true, true, true, true, false, false, false, false, false, false, false, false, false, false, false, false]) rfl (by kernel_rfl) rfl (fun _ _ _ h => h) hA (by decide) (fun _ => hS) (fun a w' hA => run_pick (hA.ev rfl) (fun _ => hA.ev rfl) (fun h => Bool.noConfusion h)) ?_; clear hA; intro a hA
          refine d_takef (i := 36) (L' := #[true, true, true, true, true, true, true, true, true, true, true, true, true, true, true, true, true, true, true, true, true, true, true, true, true, true, true, true, true, true, true, true, true, true, true, true, true, false, false, false, false, false, false, false, false, false, false, false]) rfl (by kernel_rfl) rfl (fun _ _ _ h => h) hA (by decide) (fun _ => hS) (fun a w' hA => run_move (hA.ev rfl)) ?_; clear hA; intro a hA
          refine bsplit (b := ((r137.getD (13 : Int).toNat (Vector.replicate 32 0 : Vector Int 32)) == ((r126.Nodes.getD (0 : Int).toNat Node.z).Hash))) (fun hb229 => ?_) (fun hb229 => ?_)
          · replace H192 := ite_t hb229 H192
            have hA := hA.re (t := 43) rfl (congrArg Value.bool hb229)
            refine d_takeg (i := 37) (L' := #[true, true, true, true, true, true, true, true, true, true, true, true, true, true, true, true, true, true, true, true, true, true, true, true, true, true, true, true, true, true, true, true, true, true, true, true, true, true, false, false, false, false, false, false, false, false, false, false]) rfl (by kernel_rfl) rfl (fun _ _ _ h => h) rfl hA (by decide) (by decide) rfl rfl hS (fun a w' hA hS' => run_ld (hA.ev rfl) (run_loadW Try.isAgg24 Try.sizeOf24 (by simp [Pl.len]; try rfl) ((hM.box (.s .z)).extB hS'))) ?_; clear hA; intro a hA
            obtain ⟨r230, H231, H192⟩ := Option.bind_eq_some_iff.1 H192
            refine d_one (i := 38) (L' := #[true, true, true, true, true, true, true, true, true, true, true, true, true, true, true, true, true, true, true, true, true, true, true, true, true, true, true, true, true, true, true, true, true, true, true, true, true, true, true, false, false, false, false, false, false, false, false, false]) (by kernel_rfl) rfl rfl (gate_on rfl rfl hA (by decide) rfl (st_call Try.call16 hA [(.agg #[(.slice A131 r126.Nodes.length c132), (.int .i64 r126.Best)]), (.int .i64 3), (.int .i64 9)] rfl (by decide) (branch_Fork.calls _ _ _ _ _ _ _ _ ((RoV.mk (hM.rowC (p := pNode) (Ms := []) (.s (.s .z))) (RowOk.len (hM.row (p := pNode) (.s (.s .z)))) (RowOk.cap (hM.row (p := pNode) (.s (.s .z)))))) (hM.front (Ms := [])) H231) ?_))
            clear hA; rintro _ w232 ⟨rfl, hMc⟩ a hA
            have hE := hMc.below; have hM := hM.call (Ms := []) hMc
            clear hMc; simp only [List.cons_append, List.nil_append] at hM
            replace hS := hS.trans (hE.mono hS.size)
            refine ⟨fun _ => hS, ?_⟩
            refine d_takegf (i := 39) (L' := #[true, true, true, true, true, true, true, true, true, true, true, true, true, true, true, true, true, true, true, true, true, true, true, true, true, true, true, true, true, true, true, true, true, true, true, true, true, true, true, true, false, false, false, false, false, false, false, false]) rfl (by kernel_rfl) rfl (fun _ _ _ h => h) rfl hA (by decide) (by decide) rfl (fun _ => hS) (fun a w' hA => run_bin (hA.ev rfl) (hA.ev rfl) (bin_eql _ _ _ _)) ?_; clear hA; intro a hA
            refine d_takef (i := 40) (L' := #[true, true, true, true, true, true, true, true, true, true, true, true, true, true, true, true, true, true, true, true, true, true, true, true, true, true, true, true, true, true, true, true, true, true, true, true, true, true, true, true, true, false, false, false, false, false, false, false]) rfl (by kernel_rfl) rfl (fun _ _ _ h => h) hA (by decide) (fun _ => hS) (fun a w' hA => run_pick (hA.ev rfl) (fun _ => hA.ev rfl) (fun h => Bool.noConfusion h)) ?_; clear hA; intro a hA
            refine d_takef (i := 41) (L' := #[true, true, true, true, true, true, true, true, true, true, true, true, true, true, true, true, true, true, true, true, true, true, true, true, true, true, true, true, true, true, true, true, true, true, true, true, true, true, true, true, true, true, false, false, false, false, false, false]) rfl (by kernel_rfl) rfl (fun _ _ _ h => h) hA (by decide) (fun _ => hS) (fun a w' hA => run_move (hA.ev rfl)) ?_; clear hA; intro a hA
            refine bsplit (b := (r230 == 3)) (fun hb233 => ?_) (fun hb233 => ?_)
            · replace H192 := ite_t hb233 H192
              have hA := hA.re (t := 48) rfl (congrArg Value.bool hb233)
              refine rebase hS ?_; clear hS; intro hS
              refine d_takeg (i := 42) (L' := #[true, true, true, true, true, true, true, true, true, true, true, true, true, true, true, true, true, true, true, true, true, true, true, true, true, true, true, true, true, true, true, true, true, true, true, true, true, true, true, true, true, true, true, false, false, false, false, false]) rfl (by kernel_rfl) rfl (fun _ _ _ h => h) rfl hA (by decide) (by decide) rfl rfl hS (fun a w' hA hS' => run_ld (hA.ev rfl) (run_loadW Try.isAgg24 Try.sizeOf24 (by simp [Pl.len]; try rfl) ((hM.box (.s .z)).extB hS'))) ?_; clear hA; intro a hA
              obtain ⟨r234, H235, H192⟩ := Option.bind_eq_some_iff.1 H192
              refine d_one (i := 43) (L' := #[true, true, true, true, true, true, true, true, true, true, true, true, true, true, true, true, true, true, true, true, true, true, true, true, true, true, true, true, true, true, true, true, true, true, true, true, true, true, true, true, true, true, true, true, false, false, false, false]) (by kernel_rfl) rfl rfl (gate_on rfl rfl hA (by decide) rfl (st_call Try.call12 hA [(.agg #[(.slice A131 r126.Nodes.length c132), (.int .i64 r126.Best)])] rfl (by decide) (branch_Main.calls _ _ _ _ _ _ ((RoV.mk (hM.rowC (p := pNode) (Ms := []) (.s (.s .z))) (RowOk.len (hM.row (p := pNode) (.s (.s .z)))) (RowOk.cap (hM.row (p := pNode) (.s (.s .z)))))) (hM.front (Ms := [])) H235) ?_))
              clear hA; rintro _ w236 ⟨v237, rfl, hMc⟩ a hA
              have hE := hMc.below; have hM := hM.call (Ms := []) hMc
              clear hMc; simp only [List.cons_append, List.nil_append] at hM
              obtain ⟨A238, c239, rfl⟩ := RowOk.form (hM.row (p := (Pl.int .i64)) .z)
              replace hS := hS.trans (hE.mono hS.size)
              refine ⟨fun _ => hS, ?_⟩
              refine d_takegf (i := 44) (L' := #[true, true, true, true, true, true, true, true, true, true, true, true, true, true, true, true, true, true, true, true, true, true, true, true, true, true, true, true, true, true, true, true, true, true, true, true, true, true, true, true, true, true, true, true, true, false, false, false]) rfl (by kernel_rfl) rfl (fun _ _ _ h => h) rfl hA (by decide) (by decide) rfl (fun _ => hS) (fun a w' hA => run_len_slice Try.underlying31 (hA.ev rfl)) ?_; clear hA; intro a hA
              refine d_takegf (i := 45) (L' := #[true, true, true, true, true, true, true, true, true, true, true, true, true, true, true, true, true, true, true, true, true, true, true, true, true, true, true, true, true, true, true, true, true, true, true, true, true, true, true, true, true, true, true, true, true, true, false, false]) rfl (by kernel_rfl) rfl (fun _ _ _ h => h) rfl hA (by decide) (by decide) rfl (fun _ => hS) (fun a w' hA => run_bin (hA.ev rfl) (hA.ev rfl) (bin_eql _ _ _ _)) ?_; clear hA; intro a hA
              refine d_takef (i := 46) (L' := #[true, true, true, true, true, true, true, true, true, true, true, true, true, true, true, true, true, true, true, true, true, true, true, true, true, true, true, true, true, true, true, true, true, true, true, true, true, true, true, true, true, true, true, true, true, true, true, false]) rfl (by kernel_rfl) rfl (fun _ _ _ h => h) hA (by decide) (fun _ => hS) (fun a w' hA => run_pick (hA.ev rfl) (fun _ => hA.ev rfl) (fun h => Bool.noConfusion h)) ?_; clear hA; intro a hA
              refine d_takef (i := 47) (L' := #[true, true, true, true, true, true, true, true, true, true, true, true, true, true, true, true, true, true, true, true, true, true, true, true, true, true, true, true, true, true, true, true, true, true, true, true, true, true, true, true, true, true, true, true, true, true, true, true]) rfl (by kernel_rfl) rfl (fun _ _ _ h => h) hA (by decide) (fun _ => hS) (fun a w' hA => run_assign (hA.ev rfl)) ?_; clear hA; intro a hA
              refine d_done (by kernel_rfl) ?_
              exact ⟨(((r234.length : Nat) : Int) == 31), Option.some.inj H192, (hM.sel [] rfl (by decide)), (hA.nil.cons (hA.get 0 _ rfl))⟩
            · replace H192 := ite_f hb233 H192
              have hA := hA.re (t := 48) rfl (congrArg Value.bool hb233)
              refine d_skip (i := 42) (L' := #[true, true, true, true, true, true, true, true, true, true, true, true, true, true, true, true, true, true, true, true, true, true, true, true, true, true, true, true, true, true, true, true, true, true, true, true, true, true, true, true, true, true, true, false, false, false, false, false]) rfl (by kernel_rfl) rfl (fun _ _ _ h => h) rfl hA (by decide) (by decide) rfl rfl (fun _ => hS) ?_; clear hA; intro a hA
              refine d_one (i := 43) (L' := #[true, true, true, true, true, true, true, true, true, true, true, true, true, true, true, true, true, true, true, true, true, true, true, true, true, true, true, true, true, true, true, true, true, true, true, true, true, true, true, true, true, true, true, true, false, false, false, false]) (by kernel_rfl) rfl rfl (gate_off rfl (by decide) rfl hA (by decide) rfl rfl ?_); clear hA; intro a hA
              refine ⟨fun _ => hS, ?_⟩
              refine d_skip (i := 44) (L' := #[true, true, true, true, true, true, true, true, true, true, true, true, true, true, true, true, true, true, true, true, true, true, true, true, true, true, true, true, true, true, true, true, true, true, true, true, true, true, true, true, true, true, true, true, true, false, false, false]) rfl (by kernel_rfl) rfl (fun _ _ _ h => h) rfl hA (by decide) (by decide) rfl rfl (fun _ => hS) ?_; clear hA; intro a hA
              refine d_skip (i := 45) (L' := #[true, true, true, true, true, true, true, true, true, true, true, true, true, true, true, true, true, true, true, true, true, true, true, true, true, true, true, true, true, true, true, true, true, true, true, true, true, true, true, true, true, true, true, true, true, true, false, false]) rfl (by kernel_rfl) rfl (fun _ _ _ h => h) rfl hA (by decide) (by decide) rfl rfl (fun _ => hS) ?_; clear hA; intro a hA
              refine d_takef (i := 46) (L' := #[true, true, true, true, true, true, true, true, true, true, true, true, true, true, true, true, true, true, true, true, true, true, true, true, true, true, true, true, true, true, true, true, true, true, true, true, true, true, true, true, true, true, true, true, true, true, true, false]) rfl (by kernel_rfl) rfl (fun _ _ _ h => h) hA (by decide) (fun _ => hS) (fun a w' hA => run_pick (hA.ev rfl) (fun h => Bool.noConfusion h) (fun _ => hA.ev rfl)) ?_; clear hA; intro a hA
              refine d_takef (i := 47) (L' := #[true, true, true, true, true, true, true, true, true, true, true, true, true, true, true, true, true, true, true, true, true, true, true, true, true, true, true, true, true, true, true, true, true, true, true, true, true, true, true, true, true, true, true, true, true, true, true, true]) rfl (by kernel_rfl) rfl (fun _ _ _ h => h) hA (by decide) (fun _ => hS) (fun a w' hA => run_assign (hA.ev rfl)) ?_; clear hA; intro a hA
              refine d_done (by kernel_rfl) ?_
              exact ⟨false, Option.some.inj H192, (hM.sel [] rfl (by decide)), (hA.nil.cons (hA.get 0 _ rfl))⟩
          · replace H192 := ite_f hb229 H192
            have hA := hA.re (t := 43) rfl (congrArg Value.bool hb229)
            refine d_skip (i := 37) (L' := #[true, true, true, true, true, true, true, true, true, true, true, true, true, true, true, true, true, true, true, true, true, true, true, true, true, true, true, true, true, true, true, true, true, true, true, true, true, true, false, false, false, false, false, false, false, false, false, false]) rfl (by kernel_rfl) rfl (fun _ _ _ h => h) rfl hA (by decide) (by decide) rfl rfl (fun _ => hS) ?_; clear hA; intro a hA
            refine d_one (i := 38) (L' := #[true, true, true, true, true, true, true, true, true, true, true, true, true, true, true, true, true, true, true, true, true, true, true, true, true, true, true, true, true, true, true, true, true, true, true, true, true, true, true, false, false, false, false, false, false, false, false, false]) (by kernel_rfl) rfl rfl (gate_off rfl (by decide) rfl hA (by decide) rfl rfl ?_); clear hA; intro a hA
            refine ⟨fun _ => hS, ?_⟩
            refine d_skip (i := 39) (L' := #[true, true, true, true, true, true, true, true, true, true, true, true, true, true, true, true, true, true, true, true, true, true, true, true, true, true, true, true, true, true, true, true, true, true, true, true, true, true, true, true, false, false, false, false, false, false, false, false]) rfl (by kernel_rfl) rfl (fun _ _ _ h => h) rfl hA (by decide) (by decide) rfl rfl (fun _ => hS) ?_; clear hA; intro a hA
            refine d_takef (i := 40) (L' := #[true, true, true, true, true, true, true, true, true, true, true, true, true, true, true, true, true, true, true, true, true, true, true, true, true, true, true, true, true, true, true, true, true, true, true, true, true, true, true, true, true, false, false, false, false, false, false, false]) rfl (by kernel_rfl) rfl (fun _ _ _ h => h) hA (by decide) (fun _ => hS) (fun a w' hA => run_pick (hA.ev rfl) (fun h => Bool.noConfusion h) (fun _ => hA.ev rfl)) ?_; clear hA; intro a hA
            refine d_takef (i := 41) (L' := #[true, true, true, true, true, true, true, true, true, true, true, true, true, true, true, true, true, true, true, true, true, true, true, true, true, true, true, true, true, true, true, true, true, true, true, true, true, true, true, true, true, true, false, false, false, false, false, false]) rfl (by kernel_rfl) rfl (fun _ _ _ h => h) hA (by decide) (fun _ => hS) (fun a w' hA => run_move (hA.ev rfl)) ?_; clear hA; intro a hA
            refine d_skip (i := 42) (L' := #[true, true, true, true, true, true, true, true, true, true, true, true, true, true, true, true, true, true, true, true, true, true, true, true, true, true, true, true, true, true, true, true, true, true, true, true, true, true, true, true, true, true, true, false, false, false, false, false]) rfl (by kernel_rfl) rfl (fun _ _ _ h => h) rfl hA (by decide) (by decide) rfl rfl (fun _ => hS) ?_; clear hA; intro a hA
            refine d_one (i := 43) (L' := #[true, true, true, true, true, true, true, true, true, true, true, true, true, true, true, true, true, true, true, true, true, true, true, true, true, true, true, true, true, true, true, true, true, true, true, true, true, true, true, true, true, true, true, true, false, false, false, false]) (by kernel_rfl) rfl rfl (gate_off rfl (by decide) rfl hA (by decide) rfl rfl ?_); clear hA; intro a hA
            refine ⟨fun _ => hS, ?_⟩
            refine d_skip (i := 44) (L' := #[true, true, true, true, true, true, true, true, true, true, true, true, true, true, true, true, true, true, true, true, true, true, true, true, true, true, true, true, true, true, true, true, true, true, true, true, true, true, true, true, true, true, true, true, true, false, false, false]) rfl (by kernel_rfl) rfl (fun _ _ _ h => h) rfl hA (by decide) (by decide) rfl rfl (fun _ => hS) ?_; clear hA; intro a hA
            refine d_skip (i := 45) (L' := #[true, true, true, true, true, true, true, true, true, true, true, true, true, true, true, true, true, true, true, true, true, true, true, true, true, true, true, true, true, true, true, true, true, true, true, true, true, true, true, true, true, true, true, true, true, true, false, false]) rfl (by kernel_rfl) rfl (fun _ _ _ h => h) rfl hA (by decide) (by decide) rfl rfl (fun _ => hS) ?_; clear hA; intro a hA
            refine d_takef (i := 46) (L' := #[true, true, true, true, true, true, true, true, true, true, true, true, true, true, true, true, true, true, true, true, true, true, true, true, true, true, true, true, true, true, true, true, true, true, true, true, true, true, true, true, true, true, true, true, true, true, true, false]) rfl (by kernel_rfl) rfl (fun _ _ _ h => h) hA (by decide) (fun _ => hS) (fun a w' hA => run_pick (hA.ev rfl) (fun h => Bool.noConfusion h) (fun _ => hA.ev rfl)) ?_; clear hA; intro a hA
            refine d_takef (i := 47) (L' := #[true, true, true, true, true, true, true, true, true, true, true, true, true, true, true, true, true, true, true, true, true, true, true, true, true, true, true, true, true, true, true, true, true, true, true, true, true, true, true, true, true, true, true, true, true, true, true, true]) rfl (by kernel_rfl) rfl (fun _ _ _ h => h) hA (by decide) (fun _ => hS) (fun a w' hA => run_assign (hA.ev rfl)) ?_; clear hA; intro a hA
            refine d_done (by kernel_rfl) ?_
            exact ⟨false, Option.some.inj H192, (hM.sel [] rfl (by decide)), (hA.nil.cons (hA.get 0 _ rfl))⟩
        · replace H192 := ite_f hb218 H192
          have hA := hA.re (t := 32) rfl (congrArg Value.bool hb218)
          refine d_skip (i := 26) (L' := #[true, true, true, true, true, true, true, true, true, true, true, true, true, true, true, true, true, true, true, true, true, true, true, true, true, true, true, false, false, false, false, false, false, false, false, false, false, false, false, false, false, false, false, false, false, false, false, false]) rfl (by kernel_rfl) rfl (fun _ _ _ h => h) rfl hA (by decide) (by decide) rfl rfl (fun _ => hS) ?_; clear hA; intro a hA
          refine d_skip (i := 27) (L' := #[true, true, true, true, true, true, true, true, true, true, true, true, true, true, true, true, true, true, true, true, true, true, true, true, true, true, true, true, false, false, false, false, false, false, false, false, false, false, false, false, false, false, false, false, false, false, false, false]) rfl (by kernel_rfl) rfl (fun _ _ _ h => h) rfl hA (by decide) (by decide) rfl rfl (fun _ => hS) ?_; clear hA; intro a hA
          refine d_skip (i := 28) (L' := #[true, true, true, true, true, true, true, true, true, true, true, true, true, true, true, true, true, true, true, true, true, true, true, true, true, true, true, true, true, false, false, false, false, false, false, false, false, false, false, false, false, false, false, false, false, false, false, false]) rfl (by kernel_rfl) rfl (fun _ _ _ h => h) rfl hA (by decide) (by decide) rfl rfl (fun _ => hS) ?_; clear hA; intro a hA
          refine d_skip (i := 29) (L' := #[true, true, true, true, true, true, true, true, true, true, true, true, true, true, true, true, true, true, true, true, true, true, true, true, true, true, true, true, true, true, false, false, false, false, false, false, false, false, false, false, false, false, false, false, false, false, false, false]) rfl (by kernel_rfl) rfl (fun _ _ _ h => h) rfl hA (by decide) (by decide) rfl rfl (fun _ => hS) ?_; clear hA; intro a hA
          refine d_skip (i := 30) (L' := #[true, true, true, true, true, true, true, true, true, true, true, true, true, true, true, true, true, true, true, true, true, true, true, true, true, true, true, true, true, true, true, false, false, false, false, false, false, false, false, false, false, false, false, false, false, false, false, false]) rfl (by kernel_rfl) rfl (fun _ _ _ h => h) rfl hA (by decide) (by decide) rfl rfl (fun _ => hS) ?_; clear hA; intro a hA
          refine d_skip (i := 31) (L' := #[true, true, true, true, true, true, true, true, true, true, true, true, true, true, true, true, true, true, true, true, true, true, true, true, true, true, true, true, true, true, true, true, false, false, false, false, false, false, false, false, false, false, false, false, false, false, false, false]) rfl (by kernel_rfl) rfl (fun _ _ _ h => h) rfl hA (by decide) (by decide) rfl rfl (fun _ => hS) ?_; clear hA; intro a hA
          refine d_skip (i := 32) (L' := #[true, true, true, true, true, true, true, true, true, true, true, true, true, true, true, true, true, true, true, true, true, true, true, true, true, true, true, true, true, true, true, true, true, false, false, false, false, false, false, false, false, false, false, false, false, false, false, false]) rfl (by kernel_rfl) rfl (fun _ _ _ h => h) rfl hA (by decide) (by decide) rfl rfl (fun _ => hS) ?_; clear hA; intro a hA
          refine d_skip (i := 33) (L' := #[true, true, true, true, true, true, true, true, true, true, true, true, true, true, true, true, true, true, true, true, true, true, true, true, true, true, true, true, true, true, true, true, true, true, false, false, false, false, false, false, false, false, false, false, false, false, false, false]) rfl (by kernel_rfl) rfl (fun _ _ _ h => h) rfl hA (by decide) (by decide) rfl rfl (fun _ => hS) ?_; clear hA; intro a hA
          refine d_skip (i := 34) (L' := #[true, true, true, true, true, true, true, true, true, true, true, true, true, true, true, true, true, true, true, true, true, true, true, true, true, true, true, true, true, true, true, true, true, true, true, false, false, false, false, false, false, false, false, false, false, false, false, false]) rfl (by kernel_rfl) rfl (fun _ _ _ h => h) rfl hA (by decide) (by decide) rfl rfl (fun _ => hS) ?_; clear hA; intro a hA
          refine d_takef (i := 35) (L' := #[true, true, true, true, true, true, true, true, true, true, true, true, true, true, true, true, true, true, true, true, true, true, true, true, true, true, true, true, true, true, true, true, true, true, true, true, false, false, false, false, false, false, false, false, false, false, false, false]) rfl (by kernel_rfl) rfl (fun _ _ _ h => h) hA (by decide) (fun _ => hS) (fun a w' hA => run_pick (hA.ev rfl) (fun h => Bool.noConfusion h) (fun _ => hA.ev rfl)) ?_; clear hA; intro a hA
          refine d_takef (i := 36) (L' := #[true, true, true, true, true, true, true, true, true, true, true, true, true, true, true, true, true, true, true, true, true, true, true, true, true, true, true, true, true, true, true, true, true, true, true, true, true, false, false, false, false, false, false, false, false, false, false, false]) rfl (by kernel_rfl) rfl (fun _ _ _ h => h) hA (by decide) (fun _ => hS) (fun a w' hA => run_move (hA.ev rfl)) ?_; clear hA; intro a hA
          refine d_skip (i := 37) (L' := #[true, true, true, true, true, true, true, true, true, true, true, true, true, true, true, true, true, true, true, true, true, true, true, true, true, true, true, true, true, true, true, true, true, true, true, true, true, true, false, false, false, false, false, false, false, false, false, false]) rfl (by kernel_rfl) rfl (fun _ _ _ h => h) rfl hA (by decide) (by decide) rfl rfl (fun _ => hS) ?_; clear hA; intro a hA
          refine d_one (i := 38) (L' := #[true, true, true, true, true, true, true, true, true, true, true, true, true, true, true, true, true, true, true, true, true, true, true, true, true, true, true, true, true, true, true, true, true, true, true, true, true, true, true, false, false, false, false, false, false, false, false, false]) (by kernel_rfl) rfl rfl (gate_off rfl (by decide) rfl hA (by decide) rfl rfl ?_); clear hA; intro a hA
          refine ⟨fun _ => hS, ?_⟩
          refine d_skip (i := 39) (L' := #[true, true, true, true, true, true, true, true, true, true, true, true, true, true, true, true, true, true, true, true, true, true, true, true, true, true, true, true, true, true, true, true, true, true, true, true, true, true, true, true, false, false, false, false, false, false, false, false]) rfl (by kernel_rfl) rfl (fun _ _ _ h => h) rfl hA (by decide) (by decide) rfl rfl (fun _ => hS) ?_; clear hA; intro a hA
          refine d_takef (i := 40) (L' := #[true, true, true, true, true, true, true, true, true, true, true, true, true, true, true, true, true, true, true, true, true, true, true, true, true, true, true, true, true, true, true, true, true, true, true, true, true, true, true, true, true, false, false, false, false, false, false, false]) rfl (by kernel_rfl) rfl (fun _ _ _ h => h) hA (by decide) (fun _ => hS) (fun a w' hA => run_pick (hA.ev rfl) (fun h => Bool.noConfusion h) (fun _ => hA.ev rfl)) ?_; clear hA; intro a hA
          refine d_takef (i := 41) (L' := #[true, true, true, true, true, true, true, true, true, true, true, true, true, true, true, true, true, true, true, true, true, true, true, true, true, true, true, true, true, true, true, true, true, true, true, true, true, true, true, true, true, true, false, false, false, false, false, false]) rfl (by kernel_rfl) rfl (fun _ _ _ h => h) hA (by decide) (fun _ => hS) (fun a w' hA => run_move (hA.ev rfl)) ?_; clear hA; intro a hA
          refine d_skip (i := 42) (L' := #[true, true, true, true, true, true, true, true, true, true, true, true, true, true, true, true, true, true, true, true, true, true, true, true, true, true, true, true, true, true, true, true, true, true, true, true, true, true, true, true, true, true, true, false, false, false, false, false]) rfl (by kernel_rfl) rfl (fun _ _ _ h => h) rfl hA (by decide) (by decide) rfl rfl (fun _ => hS) ?_; clear hA; intro a hA
          refine d_one (i := 43) (L' := #[true, true, true, true, true, true, true, true, true, true, true, true, true, true, true, true, true, true, true, true, true, true, true, true, true, true, true, true, true, true, true, true, true, true, true, true, true, true, true, true, true, true, true, true, false, false, false, false]) (by kernel_rfl) rfl rfl (gate_off rfl (by decide) rfl hA (by decide) rfl rfl ?_); clear hA; intro a hA
          refine ⟨fun _ => hS, ?_⟩
          refine d_skip (i := 44) (L' := #[true, true, true, true, true, true, true, true, true, true, true, true, true, true, true, true, true, true, true, true, true, true, true, true, true, true, true, true, true, true, true, true, true, true, true, true, true, true, true, true, true, true, true, true, true, false, false, false]) rfl (by kernel_rfl) rfl (fun _ _ _ h => h) rfl hA (by decide) (by decide) rfl rfl (fun _ => hS) ?_; clear hA; intro a hA
          refine d_skip (i := 45) (L' := #[true, true, true, true, true, true, true, true, true, true, true, true, true, true, true, true, true, true, true, true, true, true, true, true, true, true, true, true, true, true, true, true, true, true, true, true, true, true, true, true, true, true, true, true, true, true, false, false]) rfl (by kernel_rfl) rfl (fun _ _ _ h => h) rfl hA (by decide) (by decide) rfl rfl (fun _ => hS) ?_; clear hA; intro a hA
          refine d_takef (i := 46) (L' := #[true, true, true, true, true, true, true, true, true, true, true, true, true, true, true, true, true, true, true, true, true, true, true, true, true, true, true, true, true, true, true, true, true, true, true, true, true, true, true, true, true, true, true, true, true, true, true, false]) rfl (by kernel_rfl) rfl (fun _ _ _ h => h) hA (by decide) (fun _ => hS) (fun a w' hA => run_pick (hA.ev rfl) (fun h => Bool.noConfusion h) (fun _ => hA.ev rfl)) ?_; clear hA; intro a hA
          refine d_takef (i := 47) (L' := #[true, true, true, true, true, true, true, true, true, true, true, true, true, true, true, true, true, true, true, true, true, true, true, true, true, true, true, true, true, true, true, true, true, true, true, true, true, true, true, true, true, true, true, true, true, true, true, true]) rfl (by kernel_rfl) rfl (fun _ _ _ h => h) hA (by decide) (fun _ => hS) (fun a w' hA => run_assign (hA.ev rfl)) ?_; clear hA; intro a hA
          refine d_done (by kernel_rfl) ?_
          exact ⟨false, Option.some.inj H192, (hM.sel [] rfl (by decide)), (hA.nil.cons (hA.get 0 _ rfl))⟩
      · replace H192 := ite_f hb207 H192
        have hA := hA.re (t := 21) rfl (congrArg Value.bool hb207)
        refine d_skip (i := 15) (L' := #[true, true, true, true, true, true, true, true, true, true, true, true, true, true, true, true, false, false, false, false, false, false, false, false, false, false, false, false, false, false, false, false, false, false, false, false, false, false, false, false, false, false, false, false, false, false, false, false]) rfl (by kernel_rfl) rfl (fun _ _ _ h => h) rfl hA (by decide) (by decide) rfl rfl (fun _ => hS) ?_; clear hA; intro a hA
        refine d_skip (i := 16) (L' := #[true, true, true, true, true, true, true, true, true, true, true, true, true, true, true, true, true, false, false, false, false, false, false, false, false, false, false, false, false, false, false, false, false, false, false, false, false, false, false, false, false, false, false, false, false, false, false, false]) rfl (by kernel_rfl) rfl (fun _ _ _ h => h) rfl hA (by decide) (by decide) rfl rfl (fun _ => hS) ?_; clear hA; intro a hA
        refine d_skip (i := 17) (L' := #[true, true, true, true, true, true, true, true, true, true, true, true, true, true, true, true, true, true, false, false, false, false, false, false, false, false, false, false, false, false, false, false, false, false, false, false, false, false, false, false, false, false, false, false, false, false, false, false]) rfl (by kernel_rfl) rfl (fun _ _ _ h => h) rfl hA (by decide) (by decide) rfl rfl (fun _ => hS) ?_; clear hA; intro a hA
        refine d_skip (i := 18) (L' := #[true, true, true, true, true, true, true, true, true, true, true, true, true, true, true, true, true, true, true, false, false, false, false, false, false, false, false, false, false, false, false, false, false, false, false, false, false, false, false, false, false, false, false, false, false, false, false, false]) rfl (by kernel_rfl) rfl (fun _ _ _ h => h) rfl hA (by decide) (by decide) rfl rfl (fun _ => hS) ?_; clear hA; intro a hA
        refine d_skip (i := 19) (L' := #[true, true, true, true, true, true, true, true, true, true, true, true, true, true, true, true, true, true, true, true, false, false, false, false, false, false, false, false, false, false, false, false, false, false, false, false, false, false, false, false, false, false, false, false, false, false, false, false]) rfl (by kernel_rfl) rfl (fun _ _ _ h => h) rfl hA (by decide) (by decide) rfl rfl (fun _ => hS) ?_; clear hA; intro a hA
        refine d_skip (i := 20) (L' := #[true, true, true, true, true, true, true, true, true, true, true, true, true, true, true, true, true, true, true, true, true, false, false, false, false, false, false, false, false, false, false, false, false, false, false, false, false, false, false, false, false, false, false, false, false, false, false, false]) rfl (by kernel_rfl) rfl (fun _ _ _ h => h) rfl hA (by decide) (by decide) rfl rfl (fun _ => hS) ?_; clear hA; intro a hA
        refine d_skip (i := 21) (L' := #[true, true, true, true, true, true, true, true, true, true, true, true, true, true, true, true, true, true, true, true, true, true, false, false, false, false, false, false, false, false, false, false, false, false, false, false, false, false, false, false, false, false, false, false, false, false, false, false]) rfl (by kernel_rfl) rfl (fun _ _ _ h => h) rfl hA (by decide) (by decide) rfl rfl (fun _ => hS) ?_; clear hA; intro a hA
        refine d_skip (i := 22) (L' := #[true, true, true, true, true, true, true, true, true, true, true, true, true, true, true, true, true, true, true, true, true, true, true, false, false, false, false, false, false, false, false, false, false, false, false, false, false, false, false, false, false, false, false, false, false, false, false, false]) rfl (by kernel_rfl) rfl (fun _ _ _ h => h) rfl hA (by decide) (by decide) rfl rfl (fun _ => hS) ?_; clear hA; intro a hA
        refine d_skip (i := 23) (L' := #[true, true, true, true, true, true, true, true, true, true, true, true, true, true, true, true, true, true, true, true, true, true, true, true, false, false, false, false, false, false, false, false, false, false, false, false, false, false, false, false, false, false, false, false, false, false, false, false]) rfl (by kernel_rfl) rfl (fun _ _ _ h => h) rfl hA (by decide) (by decide) rfl rfl (fun _ => hS) ?_; clear hA; intro a hA
        refine d_takef (i := 24) (L' := #[true, true, true, true, true, true, true, true, true, true, true, true, true, true, true, true, true, true, true, true, true, true, true, true, true, false, false, false, false, false, false, false, false, false, false, false, false, false, false, false, false, false, false, false, false, false, false, false]) rfl (by kernel_rfl) rfl (fun _ _ _ h => h) hA (by decide) (fun _ => hS) (fun a w' hA => run_pick (hA.ev rfl) (fun h => Bool.noConfusion h) (fun _ => hA.ev rfl)) ?_; clear hA; intro a hA
        refine d_takef (i := 25) (L' := #[true, true, true, true, true, true, true, true, true, true, true, true, true, true, true, true, true, true, true, true, true, true, true, true, true, true, false, false, false, false, false, false, false, false, false, false, false, false, false, false, false, false, false, false, false, false, false, false]) rfl (by kernel_rfl) rfl (fun _ _ _ h => h) hA (by decide) (fun _ => hS) (fun a w' hA => run_move (hA.ev rfl)) ?_; clear hA; intro a hA
        refine d_skip (i := 26) (L' := #[true, true, true, true, true, true, true, true, true, true, true, true, true, true, true, true, true, true, true, true, true, true, true, true, true, true, true, false, false, false, false, false, false, false, false, false, false, false, false, false, false, false, false, false, false, false, false, false]) rfl (by kernel_rfl) rfl (fun _ _ _ h => h) rfl hA (by decide) (by decide) rfl rfl (fun _ => hS) ?_; clear hA; intro a hA
        refine d_skip (i := 27) (L' := #[true, true, true, true, true, true, true, true, true, true, true, true, true, true, true, true, true, true, true, true, true, true, true, true, true, true, true, true, false, false, false, false, false, false, false, false, false, false, false, false, false, false, false, false, false, false, false, false]) rfl (by kernel_rfl) rfl (fun _ _ _ h => h) rfl hA (by decide) (by decide) rfl rfl (fun _ => hS) ?_; clear hA; intro a hA
        refine d_skip (i := 28) (L' := #[true, true, true, true, true, true, true, true, true, true, true, true, true, true, true, true, true, true, true, true, true, true, true, true, true, true, true, true, true, false, false, false, false, false, false, false, false, false, false, false, false, false, false, false, false, false, false, false]) rfl (by kernel_rfl) rfl (fun _ _ _ h => h) rfl hA (by decide) (by decide) rfl rfl (fun _ => hS) ?_; clear hA; intro a hA
        refine d_skip (i := 29) (L' := #[true, true, true, true, true, true, true, true, true, true, true, true, true, true, true, true, true, true, true, true, true, true, true, true, true, true, true, true, true, true, false, false, false, false, false, false, false, false, false, false, false, false, false, false, false, false, false, false]) rfl (by kernel_rfl) rfl (fun _ _ _ h => h) rfl hA (by decide) (by decide) rfl rfl (fun _ => hS) ?_; clear hA; intro a hA
        refine d_skip (i := 30) (L' := #[true, true, true, true, true, true, true, true, true, true, true, true, true, true, true, true, true, true, true, true, true, true, true, true, true, true, true, true, true, true, true, false, false, false, false, false, false, false, false, false, false, false, false, false, false, false, false, false]) rfl (by kernel_rfl) rfl (fun _ _ _ h => h) rfl hA (by decide) (by decide) rfl rfl (fun _ => hS) ?_; clear hA; intro a hA
        refine d_skip (i := 31) (L' := #[true, true, true, true, true, true, true, true, true, true, true, true, true, true, true, true, true, true, true, true, true, true, true, true, true, true, true, true, true, true, true, true, false, false, false, false, false, false, false, false, false, false, false, false, false, false, false, false]) rfl (by kernel_rfl) rfl (fun _ _ _ h => h) rfl hA (by decide) (by decide) rfl rfl (fun _ => hS) ?_; clear hA; intro a hA
        refine d_skip (i := 32) (L' := #[true, true, true, true, true, true, true, true, true, true, true, true, true, true, true, true, true, true, true, true, true, true, true, true, true, true, true, true, true, true, true, true, true, false, false, false, false, false, false, false, false, false, false, false, false, false, false, false]) rfl (by kernel_rfl) rfl (fun _ _ _ h => h) rfl hA (by decide) (by decide) rfl rfl (fun _ => hS) ?_; clear hA; intro a hA
        refine d_skip (i := 33) (L' := #[true, true, true, true, true, true, true, true, true, true, true, true, true, true, true, true, true, true, true, true, true, true, true, true, true, true, true, true, true, true, true, true, true, true, false, false, false, false, false, false, false, false, false, false, false, false, false, false]) rfl (by kernel_rfl) rfl (fun _ _ _ h => h) rfl hA (by decide) (by decide) rfl rfl (fun _ => hS) ?_; clear hA; intro a hA
        refine d_skip (i := 34) (L' := #[true, true, true, true, true, true, true, true, true, true, true, true, true, true, true, true, true, true, true, true, true, true, true, true, true, true, true, true, true, true, true, true, true, true, true, false, false, false, false, false, false, false, false, false, false, false, false, false]) rfl (by kernel_rfl) rfl (fun _ _ _ h => h) rfl hA (by decide) (by decide) rfl rfl (fun _ => hS) ?_; clear hA; intro a hA
        refine d_takef (i := 35) (L' := #[true, true, true, true, true, true, true, true, true, true, true, true, true, true, true, true, true, true, true, true, true, true, true, true, true, true, true, true, true, true, true, true, true, true, true, true, false, false, false, false, false, false, false, false, false, false, false, false]) rfl (by kernel_rfl) rfl (fun _ _ _ h => h) hA (by decide) (fun _ => hS) (fun a w' hA => run_pick (hA.ev rfl) (fun h => Bool.noConfusion h) (fun _ => hA.ev rfl)) ?_; clear hA; intro a hA
        refine d_takef (i := 36) (L' := #[true, true, true, true, true, true, true, true, true, true, true, true, true, true, true, true, true, true, true, true, true, true, true, true, true, true, true, true, true, true, true, true, true, true, true, true, true, false, false, false, false, false, false, false, false, false, false, false]) rfl (by kernel_rfl) rfl (fun _ _ _ h => h) hA (by decide) (fun _ => hS) (fun a w' hA => run_move (hA.ev rfl)) ?_; clear hA; intro a hA
        refine d_skip (i := 37) (L' := #[true, true, true, true, true, true, true, true, true, true, true, true, true, true, true, true, true, true, true, true, true, true, true, true, true, true, true, true, true, true, true, true, true, true, true, true, true, true, false, false, false, false, false, false, false, false, false, false]) rfl (by kernel_rfl) rfl (fun _ _ _ h => h) rfl hA (by decide) (by decide) rfl rfl (fun _ => hS) ?_; clear hA; intro a hA
        refine d_one (i := 38) (L' := #[true, true, true, true, true, true, true, true, true, true, true, true, true, true, true, true, true, true, true, true, true, true, true, true, true, true, true, true, true, true, true, true, true, true, true, true, true, true, true, false, false, false, false, false, false, false, false, false]) (by kernel_rfl) rfl rfl (gate_off rfl (by decide) rfl hA (by decide) rfl rfl ?_); clear hA; intro a hA
        refine ⟨fun _ => hS, ?_⟩
        refine d_skip (i := 39) (L' := #[true, true, true, true, true, true, true, true, true, true, true, true, true, true, true, true, true, true, true, true, true, true, true, true, true, true, true, true, true, true, true, true, true, true, true, true, true, true, true, true, false, false, false, false, false, false, false, false]) rfl (by kernel_rfl) rfl (fun _ _ _ h => h) rfl hA (by decide) (by decide) rfl rfl (fun _ => hS) ?_; clear hA; intro a hA
        refine d_takef (i := 40) (L' := #[true, true, true, true, true, true, true, true, true, true, true, true, true, true, true, true, true, true, true, true, true, true, true, true, true, true, true, true, true, true, true, true, true, true, true, true, true, true, true, true, true, false, false, false, false, false, false, false]) rfl (by kernel_rfl) rfl (fun _ _ _ h => h) hA (by decide) (fun _ => hS) (fun a w' hA => run_pick (hA.ev rfl) (fun h => Bool.noConfusion h) (fun _ => hA.ev rfl)) ?_; clear hA; intro a hA
        refine d_takef (i := 41) (L' := #[true, true, true, true, true, true, true, true, true, true, true, true, true, true, true, true, true, true, true, true, true, true, true, true, true, true, true, true, true, true, true, true, true, true, true, true, true, true, true, true, true, true, false, false, false, false, false, false]) rfl (by kernel_rfl) rfl (fun _ _ _ h => h) hA (by decide) (fun _ => hS) (fun a w' hA => run_move (hA.ev rfl)) ?_; clear hA; intro a hA
        refine d_skip (i := 42) (L' := #[true, true, true, true, true, true, true, true, true, true, true, true, true, true, true, true, true, true, true, true, true, true, true, true, true, true, true, true, true, true, true, true, true, true, true, true, true, true, true, true, true, true, true, false, false, false, false, false]) rfl (by kernel_rfl) rfl (fun _ _ _ h => h) rfl hA (by decide) (by decide) rfl rfl (fun _ => hS) ?_; clear hA; intro a hA
        refine d_one (i := 43) (L' := #[true, true, true, true, true, true, true, true, true, true, true, true, true, true, true, true, true, true, true, true, true, true, true, true, true, true, true, true, true, true, true, true, true, true, true, true, true, true, true, true, true, true, true, true, false, false, false, false]) (by kernel_rfl) rfl rfl (gate_off rfl (by decide) rfl hA (by decide) rfl rfl ?_); clear hA; intro a hA
        refine ⟨fun _ => hS, ?_⟩
        refine d_skip (i := 44) (L' := #[true, true, true, true, true, true, true, true, true, true, true, true, true, true, true, true, true, true, true, true, true, true, true, true, true, true, true, true, true, true, true, true, true, true, true, true, true, true, true, true, true, true, true, true, true, false, false, false]) rfl (by kernel_rfl) rfl (fun _ _ _ h => h) rfl hA (by decide) (by decide) rfl rfl (fun _ => hS) ?_; clear hA; intro a hA
        refine d_skip (i := 45) (L' := #[true, true, true, true, true, true, true, true, true, true, true, true, true, true, true, true, true, true, true, true, true, true, true, true, true, true, true, true, true, true, true, true, true, true, true, true, true, true, true, true, true, true, true, true, true, true, false, false]) rfl (by kernel_rfl) rfl (fun _ _ _ h => h) rfl hA (by decide) (by decide) rfl rfl (fun _ => hS) ?_; clear hA; intro a hA
        refine d_takef (i := 46) (L' := #[true, true, true, true, true, true, true, true, true, true, true, true, true, true, true, true, true, true, true, true, true, true, true, true, true, true, true, true, true, true, true, true, true, true, true, true, true, true, true, true, true, true, true, true, true, true, true, false]) rfl (by kernel_rfl) rfl (fun _ _ _ h => h) hA (by decide) (fun _ => hS) (fun a w' hA => run_pick (hA.ev rfl) (fun h => Bool.noConfusion h) (fun _ => hA.ev rfl)) ?_; clear hA; intro a hA
        refine d_takef (i := 47) (L' := #[true, true, true, true, true, true, true, true, true, true, true, true, true, true, true, true, true, true, true, true, true, true, true, true, true, true, true, true, true, true, true, true, true, true, true, true, true, true, true, true, true, true, true, true, true, true, true, true]) rfl (by kernel_rfl) rfl (fun _ _ _ h => h) hA (by decide) (fun _ => hS) (fun a w' hA => run_assign (hA.ev rfl)) ?_; clear hA; intro a hA
        refine d_done (by kernel_rfl) ?_
        exact ⟨false, Option.some.inj H192, (hM.sel [] rfl (by decide)), (hA.nil.cons (hA.get 0 _ rfl))⟩
    · replace H192 := ite_f hb196 H192
      have hA := hA.re (t := 10) rfl (congrArg Value.bool hb196)
      refine d_skip (i := 4) (L' := #[true, true, true, true, true, false, false, false, false, false, false, false, false, false, false, false, false, false, false, false, false, false, false, false, false, false, false, false, false, false, false, false, false, false, false, false, false, false, false, false, false, false, false, false, false, false, false, false]) rfl (by kernel_rfl) rfl (fun _ _ _ h => h) rfl hA (by decide) (by decide) rfl rfl (fun _ => hS) ?_; clear hA; intro a hA
      refine d_skip (i := 5) (L' := #[true, true, true, true, true, true, false, false, false, false, false, false, false, false, false, false, false, false, false, false, false, false, false, false, false, false, false, false, false, false, false, false, false, false, false, false, false, false, false, false, false, false, false, false, false, false, false, false]) rfl (by kernel_rfl) rfl (fun _ _ _ h => h) rfl hA (by decide) (by decide) rfl rfl (fun _ => hS) ?_; clear hA; intro a hA
      refine d_skip (i := 6) (L' := #[true, true, true, true, true, true, true, false, false, false, false, false, false, false, false, false, false, false, false, false, false, false, false, false, false, false, false, false, false, false, false, false, false, false, false, false, false, false, false, false, false, false, false, false, false, false, false, false]) rfl (by kernel_rfl) rfl (fun _ _ _ h => h) rfl hA (by decide) (by decide) rfl rfl (fun _ => hS) ?_; clear hA; intro a hA
      refine d_skip (i := 7) (L' := #[true, true, true, true, true, true, true, true, false, false, false, false, false, false, false, false, false, false, false, false, false, false, false, false, false, false, false, false, false, false, false, false, false, false, false, false, false, false, false, false, false, false, false, false, false, false, false, false]) rfl (by kernel_rfl) rfl (fun _ _ _ h => h) rfl hA (by decide) (by decide) rfl rfl (fun _ => hS) ?_; clear hA; intro a hA
      refine d_skip (i := 8) (L' := #[true, true, true, true, true, true, true, true, true, false, false, false, false, false, false, false, false, false, false, false, false, false, false, false, false, false, false, false, false, false, false, false, false, false, false, false, false, false, false, false, false, false, false, false, false, false, false, false]) rfl (by kernel_rfl) rfl (fun _ _ _ h => h) rfl hA (by decide) (by decide) rfl rfl (fun _ => hS) ?_; clear hA; intro a hA
      refine d_skip (i := 9) (L' := #[true, true, true, true, true, true, true, true, true, true, false, false, false, false, false, false, false, false, false, false, false, false, false, false, false, false, false, false, false, false, false, false, false, false, false, false, false, false, false, false, false, false, false, false, false, false, false, false]) rfl (by kernel_rfl) rfl (fun _ _ _ h => h) rfl hA (by decide) (by decide) rfl rfl (fun _ => hS) ?_; clear hA; intro a hA
      refine d_skip (i := 10) (L' := #[true, true, true, true, true, true, true, true, true, true, true, false, false, false, false, false, false, false, false, false, false, false, false, false, false, false, false, false, false, false, false, false, false, false, false, false, false, false, false, false, false, false, false, false, false, false, false, false]) rfl (by kernel_rfl) rfl (fun _ _ _ h => h) rfl hA (by decide) (by decide) rfl rfl (fun _ => hS) ?_; clear hA; intro a hA
      refine d_skip (i := 11) (L' := #[true, true, true, true, true, true, true, true, true, true, true, true, false, false, false, false, false, false, false, false, false, false, false, false, false, false, false, false, false, false, false, false, false, false, false, false, false, false, false, false, false, false, false, false, false, false, false, false]) rfl (by kernel_rfl) rfl (fun _ _ _ h => h) rfl hA (by decide) (by decide) rfl rfl (fun _ => hS) ?_; clear hA; intro a hA
      refine d_skip (i := 12) (L' := #[true, true, true, true, true, true, true, true, true, true, true, true, true, false, false, false, false, false, false, false, false, false, false, false, false, false, false, false, false, false, false, false, false, false, false, false, false, false, false, false, false, false, false, false, false, false, false, false]) rfl (by kernel_rfl) rfl (fun _ _ _ h => h) rfl hA (by decide) (by decide) rfl rfl (fun _ => hS) ?_; clear hA; intro a hA
      refine d_takef (i := 13) (L' := #[true, true, true, true, true, true, true, true, true, true, true, true, true, true, false, false, false, false, false, false, false, false, false, false, false, false, false, false, false, false, false, false, false, false, false, false, false, false, false, false, false, false, false, false, false, false, false, false]) rfl (by kernel_rfl) rfl (fun _ _ _ h => h) hA (by decide) (fun _ => hS) (fun a w' hA => run_pick (hA.ev rfl) (fun h => Bool.noConfusion h) (fun _ => hA.ev rfl)) ?_; clear hA; intro a hA
      refine d_takef (i := 14) (L' := #[true, true, true, true, true, true, true, true, true, true, true, true, true, true, true, false, false, false, false, false, false, false, false, false, false, false, false, false, false, false, false, false, false, false, false, false, false, false, false, false, false, false, false, false, false, false, false, false]) rfl (by kernel_rfl) rfl (fun _ _ _ h => h) hA (by decide) (fun _ => hS) (fun a w' hA => run_move (hA.ev rfl)) ?_; clear hA; intro a hA
      refine d_skip (i := 15) (L' := #[true, true, true, true, true, true, true, true, true, true, true, true, true, true, true, true, false, false, false, false, false, false, false, false, false, false, false, false, false, false, false, false, false, false, false, false, false, false, false, false, false, false, false, false, false, false, false, false]) rfl (by kernel_rfl) rfl (fun _ _ _ h => h) rfl hA (by decide) (by decide) rfl rfl (fun _ => hS) ?_; clear hA; intro a hA
      refine d_skip (i := 16) (L' := #[true, true, true, true, true, true, true, true, true, true, true, true, true, true, true, true, true, false, false, false, false, false, false, false, false, false, false, false, false, false, false, false, false, false, false, false, false, false, false, false, false, false, false, false, false, false, false, false]) rfl (by kernel_rfl) rfl (fun _ _ _ h => h) rfl hA (by decide) (by decide) rfl rfl (fun _ => hS) ?_; clear hA; intro a hA
      refine d_skip (i := 17) (L' := #[true, true, true, true, true, true, true, true, true, true, true, true, true, true, true, true, true, true, false, false, false, false, false, false, false, false, false, false, false, false, false, false, false, false, false, false, false, false, false, false, false, false, false, false, false, false, false, false]) rfl (by kernel_rfl) rfl (fun _ _ _ h => h) rfl hA (by decide) (by decide) rfl rfl (fun _ => hS) ?_; clear hA; intro a hA
      refine d_skip (i := 18) (L' := #[true, true, true, true, true, true, true, true, true, true, true, true, true, true, true, true, true, true, true, false, false, false, false, false, false, false, false, false, false, false, false, false, false, false, false, false, false, false, false, false, false, false, false, false, false, false, false, false]) rfl (by kernel_rfl) rfl (fun _ _ _ h => h) rfl hA (by decide) (by decide) rfl rfl (fun _ => hS) ?_; clear hA; intro a hA
      refine d_skip (i := 19) (L' := #[true, true, true, true, true, true, true, true, true, true, true, true, true, true, true, true, true, true, true, true, false, false, false, false, false, false, false, false, false, false, false, false, false, false, false, false, false, false, false, false, false, false, false, false, false, false, false, false]) rfl (by kernel_rfl) rfl (fun _ _ _ h => h) rfl hA (by decide) (by decide) rfl rfl (fun _ => hS) ?_; clear hA; intro a hA
      refine d_skip (i := 20) (L' := #[true, true, true, true, true, true, true, true, true, true, true, true, true, true, true, true, true, true, true, true, true, false, false, false, false, false, false, false, false, false, false, false, false, false, false, false, false, false, false, false, false, false, false, false, false, false, false, false]) rfl (by kernel_rfl) rfl (fun _ _ _ h => h) rfl hA (by decide) (by decide) rfl rfl (fun _ => hS) ?_; clear hA; intro a hA
      refine d_skip (i := 21) (L' := #[true, true, true, true, true, true, true, true, true, true, true, true, true, true, true, true, true, true, true, true, true, true, false, false, false, false, false, false, false, false, false, false, false, false, false, false, false, false, false, false, false, false, false, false, false, false, false, false]) rfl (by kernel_rfl) rfl (fun _ _ _ h => h) rfl hA (by decide) (by decide) rfl rfl (fun _ => hS) ?_; clear hA; intro a hA
      refine d_skip (i := 22) (L' := #[true, true, true, true, true, true, true, true, true, true, true, true, true, true, true, true, true, true, true, true, true, true, true, false, false, false, false, false, false, false, false, false, false, false, false, false, false, false, false, false, false, false, false, false, false, false, false, false]) rfl (by kernel_rfl) rfl (fun _ _ _ h => h) rfl hA (by decide) (by decide) rfl rfl (fun _ => hS) ?_; clear hA; intro a hA
      refine d_skip (i := 23) (L' := #[true, true, true, true, true, true, true, true, true, true, true, true, true, true, true, true, true, true, true, true, true, true, true, true, false, false, false, false, false, false, false, false, false, false, false, false, false, false, false, false, false, false, false, false, false, false, false, false]) rfl (by kernel_rfl) rfl (fun _ _ _ h => h) rfl hA (by decide) (by decide) rfl rfl (fun _ => hS) ?_; clear hA; intro a hA
      refine d_takef (i := 24) (L' := #[true, true, true, true, true, true, true, true, true, true, true, true, true, true, true, true, true, true, true, true, true, true, true, true, true, false, false, false, false, false, false, false, false, false, false, false, false, false, false, false, false, false, false, false, false, false, false, false]) rfl (by kernel_rfl) rfl (fun _ _ _ h => h) hA (by decide) (fun _ => hS) (fun a w' hA => run_pick (hA.ev rfl) (fun h => Bool.noConfusion h) (fun _ => hA.ev rfl)) ?_; clear hA; intro a hA
      refine d_takef (i := 25) (L' := #[true, true, true, true, true, true, true, true, true, true, true, true, true, true, true, true, true, true, true, true, true, true, true, true, true, true, false, false, false, false, false, false, false, false, false, false, false, false, false, false, false, false, false, false, false, false, false, false]) rfl (by kernel_rfl) rfl (fun _ _ _ h => h) hA (by decide) (fun _ => hS) (fun a w' hA => run_move (hA.ev rfl)) ?_; clear hA; intro a hA
      refine d_skip (i := 26) (L' := #[true, true, true, true, true, true, true, true, true, true, true, true, true, true, true, true, true, true, true, true, true, true, true, true, true, true, true, false, false, false, false, false, false, false, false, false, false, false, false, false, false, false, false, false, false, false, false, false]) rfl (by kernel_rfl) rfl (fun _ _ _ h => h) rfl hA (by decide) (by decide) rfl rfl (fun _ => hS) ?_; clear hA; intro a hA
      refine d_skip (i := 27) (L' := #[true, true, true, true, true, true, true, true, true, true, true, true, true, true, true, true, true, true, true, true, true, true, true, true, true, true, true, true, false, false, false, false, false, false, false, false, false, false, false, false, false, false, false, false, false, false, false, false]) rfl (by kernel_rfl) rfl (fun _ _ _ h => h) rfl hA (by decide) (by decide) rfl rfl (fun _ => hS) ?_; clear hA; intro a hA
      refine d_skip (i := 28) (L' := #[true, true, true, true, true, true, true, true, true, true, true, true, true, true, true, true, true, true, true, true, true, true, true, true, true, true, true, true, true, false, false, false, false, false, false, false, false, false, false, false, false, false, false, false, false, false, false, false]) rfl (by kernel_rfl) rfl (fun _ _ _ h => h) rfl hA (by decide) (by decide) rfl rfl (fun _ => hS) ?_; clear hA; intro a hA
      refine d_skip (i := 29) (L' := #[true, true, true, true, true, true, true, true, true, true, true, true, true, true, true, true, true, true, true, true, true, true, true, true, true, true, true, true, true, true, false, false, false, false, false, false, false, false, false, false, false, false, false, false, false, false, false, false]) rfl (by kernel_rfl) rfl (fun _ _ _ h => h) rfl hA (by decide) (by decide) rfl rfl (fun _ => hS) ?_; clear hA; intro a hA
      refine d_skip (i := 30) (L' := #[true, true, true, true, true, true, true, true, true, true, true, true, true, true, true, true, true, true, true, true, true, true, true, true, true, true, true, true, true, true, true, false, false, false, false, false, false, false, false, false, false, false, false, false, false, false, false, false]) rfl (by kernel_rfl) rfl (fun _ _ _ h => h) rfl hA (by decide) (by decide) rfl rfl (fun _ => hS) ?_; clear hA; intro a hA
      refine d_skip (i := 31) (L' := #[true, true, true, true, true, true, true, true, true, true, true, true, true, true, true, true, true, true, true, true, true, true, true, true, true, true, true, true, true, true, true, true, false, false, false, false, false, false, false, false, false, false, false, false, false, false, false, false]) rfl (by kernel_rfl) rfl (fun _ _ _ h => h) rfl hA (by decide) (by decide) rfl rfl (fun _ => hS) ?_; clear hA; intro a hA
      refine d_skip (i := 32) (L' := #[true, true, true, true, true, true, true, true, true, true, true, true, true, true, true, true, true, true, true, true, true, true, true, true, true, true, true, true, true, true, true, true, true, false, false, false, false, false, false, false, false, false, false, false, false, false, false, false]) rfl (by kernel_rfl) rfl (fun _ _ _ h => h) rfl hA (by decide) (by decide) rfl rfl (fun _ => hS) ?_; clear hA; intro a hA
      refine d_skip (i := 33) (L' := #[true, true, true, true, true, true, true, true, true, true, true, true, true, true, true, true, true, true, true, true, true, true, true, true, true, true, true, true, true, true, true, true, true, true, false, false, false, false, false, false, false, false, false, false, false, false, false, false]) rfl (by kernel_rfl) rfl (fun _ _ _ h => h) rfl hA (by decide) (by decide) rfl rfl (fun _ => hS) ?_; clear hA; intro a hA
      refine d_skip (i := 34) (L' := #[true, true, true, true, true, true, true, true, true, true, true, true, true, true, true, true, true, true, true, true, true, true, true, true, true, true, true, true, true, true, true, true, true, true, true, false, false, false, false, false, false, false, false, false, false, false, false, false]) rfl (by kernel_rfl) rfl (fun _ _ _ h => h) rfl hA (by decide) (by decide) rfl rfl (fun _ => hS) ?_; clear hA; intro a hA
      refine d_takef (i := 35) (L' := #[true, true, true, true, true, true, true, true, true, true, true, true, true, true, true, true, true, true, true, true, true, true, true, true, true, true, true, true, true, true, true, true, true, true, true, true, false, false, false, false, false, false, false, false, false, false, false, false]) rfl (by kernel_rfl) rfl (fun _ _ _ h => h) hA (by decide) (fun _ => hS) (fun a w' hA => run_pick (hA.ev rfl) (fun h => Bool.noConfusion h) (fun _ => hA.ev rfl)) ?_; clear hA; intro a hA
      refine d_takef (i := 36) (L' := #[true, true, true, true, true, true, true, true, true, true, true, true, true, true, true, true, true, true, true, true, true, true, true, true, true, true, true, true, true, true, true, true, true, true, true, true, true, false, false, false, false, false, false, false, false, false, false, false]) rfl (by kernel_rfl) rfl (fun _ _ _ h => h) hA (by decide) (fun _ => hS) (fun a w' hA => run_move (hA.ev rfl)) ?_; clear hA; intro a hA
      refine d_skip (i := 37) (L' := #[true, true, true, true, true, true, true, true, true, true, true, true, true, true, true, true, true, true, true, true, true, true, true, true, true, true, true, true, true, true, true, true, true, true, true, true, true, true, false, false, false, false, false, false, false, false, false, false]) rfl (by kernel_rfl) rfl (fun _ _ _ h => h) rfl hA (by decide) (by decide) rfl rfl (fun _ => hS) ?_; clear hA; intro a hA
      refine d_one (i := 38) (L' := #[true, true, true, true, true, true, true, true, true, true, true, true, true, true, true, true, true, true, true, true, true, true, true, true, true, true, true, true, true, true, true, true, true, true, true, true, true, true, true, false, false, false, false, false, false, false, false, false]) (by kernel_rfl) rfl rfl (gate_off rfl (by decide) rfl hA (by decide) rfl rfl ?_); clear hA; intro a hA
      refine ⟨fun _ => hS, ?_⟩
      refine d_skip (i := 39) (L' := #[true, true, true, true, true, true, true, true, true, true, true, true, true, true, true, true, true, true, true, true, true, true, true, true, true, true, true, true, true, true, true, true, true, true, true, true, true, true, true, true, false, false, false, false, false, false, false, false]) rfl (by kernel_rfl) rfl (fun _ _ _ h => h) rfl hA (by decide) (by decide) rfl rfl (fun _ => hS) ?_; clear hA; intro a hA
      refine d_takef (i := 40) (L' := #[true, true, true, true, true, true, true, true, true, true, true, true, true, true, true, true, true, true, true, true, true, true, true, true, true, true, true, true, true, true, true, true, true, true, true, true, true, true, true, true, true, false, false, false, false, false, false, false]) rfl (by kernel_rfl) rfl (fun _ _ _ h => h) hA (by decide) (fun _ => hS) (fun a w' hA => run_pick (hA.ev rfl) (fun h => Bool.noConfusion h) (fun _ => hA.ev rfl)) ?_; clear hA; intro a hA
      refine d_takef (i := 41) (L' := #[true, true, true, true, true, true, true, true, true, true, true, true, true, true, true, true, true, true, true, true, true, true, true, true, true, true, true, true, true, true, true, true, true, true, true, true, true, true, true, true, true, true, false, false, false, false, false, false]) rfl (by kernel_rfl) rfl (fun _ _ _ h => h) hA (by decide) (fun _ => hS) (fun a w' hA => run_move (hA.ev rfl)) ?_; clear hA; intro a hA
      refine d_skip (i := 42) (L' := #[true, true, true, true, true, true, true, true, true, true, true, true, true, true, true, true, true, true, true, true, true, true, true, true, true, true, true, true, true, true, true, true, true, true, true, true, true, true, true, true, true, true, true, false, false, false, false, false]) rfl (by kernel_rfl) rfl (fun _ _ _ h => h) rfl hA (by decide) (by decide) rfl rfl (fun _ => hS) ?_; clear hA; intro a hA
      refine d_one (i := 43) (L' := #[true, true, true, true, true, true, true, true, true, true, true, true, true, true, true, true, true, true, true, true, true, true, true, true, true, true, true, true, true, true, true, true, true, true, true, true, true, true, true, true, true, true, true, true, false, false, false, false]) (by kernel_rfl) rfl rfl (gate_off rfl (by decide) rfl hA (by decide) rfl rfl ?_); clear hA; intro a hA
      refine ⟨fun _ => hS, ?_⟩
      refine d_skip (i := 44) (L' := #[true, true, true, true, true, true, true, true, true, true, true, true, true, true, true, true, true, true, true, true, true, true, true, true, true, true, true, true, true, true, true, true, true, true, true, true, true, true, true, true, true, true, true, true, true, false, false, false]) rfl (by kernel_rfl) rfl (fun _ _ _ h => h) rfl hA (by decide) (by decide) rfl rfl (fun _ => hS) ?_; clear hA; intro a hA
      refine d_skip (i := 45) (L' := #[true, true, true, true, true, true, true, true, true, true, true, true, true, true, true, true, true, true, true, true, true, true, true, true, true, true, true, true, true, true, true, true, true, true, true, true, true, true, true, true, true, true, true, true, true, true, false, false]) rfl (by kernel_rfl) rfl (fun _ _ _ h => h) rfl hA (by decide) (by decide) rfl rfl (fun _ => hS) ?_; clear hA; intro a hA
      refine d_takef (i := 46) (L' := #[true, true, true, true, true, true, true, true, true, true, true, true, true, true, true, true, true, true, true, true, true, true, true, true, true, true, true, true, true, true, true, true, true, true, true, true, true, true, true, true, true, true, true, true, true, true, true, false]) rfl (by kernel_rfl) rfl (fun _ _ _ h => h) hA (by decide) (fun _ => hS) (fun a w' hA => run_pick (hA.ev rfl) (fun h => Bool.noConfusion h) (fun _ => hA.ev rfl)) ?_; clear hA; intro a hA
      refine d_takef (i := 47) (L' := #[true, true, true, true, true, true, true, true, true, true, true, true, true, true, true, true, true, true, true, true, true, true, true, true, true, true, true, true, true, true, true, true, true, true, true, true, true, true, true, true, true, true, true, true, true, true, true, true]) rfl (by kernel_rfl) rfl (fun _ _ _ h => h) hA (by decide) (fun _ => hS) (fun a w' hA => run_assign (hA.ev rfl)) ?_; clear hA; intro a hA
      refine d_done (by kernel_rfl) ?_
      exact ⟨false, Option.some.inj H192, (hM.sel [] rfl (by decide)), (hA.nil.cons (hA.get 0 _ rfl))⟩
  clear hM hA
  rintro a w240 ⟨t191, rfl, hM, hA⟩
  try dsimp only at H
  refine TN ?_
  refine wp_ret ?_
  obtain rfl := Option.some.inj H
  exact ret_post1 (fn := Try.f8) hA rfl rfl ⟨_, rfl, rfl, hM⟩

def branch_Ancestor.f (k : Nat) (t_0 : Tree) (n_1 : Int) (height_2 : Int) : Option Int := (Option.bind (α := Bool) ((branch_has.f k (Tree.mk t_0.Nodes t_0.Best) [n_1]).bind fun r77 => (if (!r77) = true then (some true) else (if (decide (height_2 < 0)) = true then (some true) else (if 0 ≤ n_1 ∧ n_1 < ((t_0.Nodes.length : Nat) : Int) then (some (decide (height_2 > ((t_0.Nodes.getD n_1.toNat Node.z).Height)))) else none)))) (fun t71 => (if t71 = true then (some (-1)) else ((branch_chain.f k (Tree.mk t_0.Nodes t_0.Best) n_1).bind fun r89 => (if 0 ≤ height_2 ∧ height_2 < ((r89.length : Nat) : Int) then (some (r89.getD height_2.toNat (0 : Int))) else none)))))
set_option maxRecDepth 100000 in
theorem branch_Ancestor.calls (k : Nat) (t_0 : Tree) (n_1 : Int) (height_2 : Int) (F : List (Option Nat)) (v0_0 : Value) (r : Int) (w0 : World) (h0_0 : RoV F pNode w0 v0_0 t_0.Nodes) (hM : Mem F w0 w0 []) (H : branch_Ancestor.f k t_0 n_1 height_2 = some r) :
    Calls Try.prog 14 #[(.agg #[v0_0, (.int .i64 t_0.Best)]), (.int .i64 n_1), (.int .i64 height_2)] w0 fun e w' => ∃ v, e = .returned v ∧ v = (.int .i64 r) ∧ Mem F w0 w' [] := by
  unfold branch_Ancestor.f at H
  obtain ⟨A0_0, c0_0, rfl, hr0_0, hc0_0⟩ := h0_0
  refine enterL (n := 32) [(.agg #[(.slice A0_0 t_0.Nodes.length c0_0), (.int .i64 t_0.Best)]), (.int .i64 n_1), (.int .i64 height_2)] Try.func14 rfl rfl rfl ?_
  intro a hA
  refine wp_seq ?_
  refine wp_region_lit ?_
  refine L1 (e_box (cs := [(.slice A0_0 t_0.Nodes.length c0_0), (.int .i64 t_0.Best)]) hM hA rfl rfl (by decide) ?_)
  clear hM hA; intro w52 g51 hM hE a hA
  refine L1 (stv hA (by decide) (run_assign (hA.ev rfl)) ?_)
  clear hA; intro a hA
  refine LQ ?_
  refine TN ?_
  refine wp_seq ?_
  refine wp_seq ?_
  obtain ⟨o73, H72, H⟩ := Option.bind_eq_some_iff.1 H
  refine cutC (fun a w => ∃ (t71 : Bool), t71 = o73 ∧ Mem F w0 w [.box g51 24 [(.slice A0_0 t_0.Nodes.length c0_0), (.int .i64 t_0.Best)]] ∧ Has 32 [(1, (.int .i64 n_1)), (2, (.int .i64 height_2)), (3, (.pointer (some (⟨g51, 0, none⟩)))), (25, (.bool t71))] a) ?_ ?_
  · refine wp_region_lit ?_
    refine L1 (stv hA (by decide) (run_ld (hA.ev rfl) (run_loadW Try.isAgg24 Try.sizeOf24 (by simp [Pl.len]; try rfl) (hM.box .z))) ?_)
    clear hA; intro a hA
    refine L1 (stv hA (by decide) (run_move (hA.ev rfl)) ?_)
    clear hA; intro a hA
    refine L1 (e_litN [n_1] [(.int .i64 n_1)] elt31 hM rfl (by decide) hA rfl rfl (List.cons_ne_nil _ _) (by decide) ?_)
    clear hM hA; intro w75 g74 hM hE a hA
    obtain ⟨r77, H78, H72⟩ := Option.bind_eq_some_iff.1 H72
    refine L1 (st_call Try.call27 hA [(.agg #[(.slice A0_0 t_0.Nodes.length c0_0), (.int .i64 t_0.Best)]), (.slice (some ⟨g74, 0, none⟩) 1 1)] rfl (by decide) (branch_has.calls _ _ _ _ _ _ _ _ ((RoV.mk (hM.roC (Ms := []) hr0_0) (Eq.refl t_0.Nodes.length) hc0_0)) ((RoV.mk (hM.rowC (p := (Pl.int .i64)) (Ms := []) .z) (RowOk.len (hM.row (p := (Pl.int .i64)) .z)) (RowOk.cap (hM.row (p := (Pl.int .i64)) .z)))) (hM.front (Ms := [])) H78) ?_)
    clear hA; rintro _ w79 ⟨rfl, hMc⟩ a hA
    have hE := hMc.below; have hM := hM.call (Ms := []) hMc
    clear hMc; simp only [List.cons_append, List.nil_append] at hM
    refine L1 (stv hA (by decide) (run_not (hA.ev rfl)) ?_)
    clear hA; intro a hA
    refine L1 (stv hA (by decide) (run_move (hA.ev rfl)) ?_)
    clear hA; intro a hA
    refine bsplit (b := (!r77)) (fun hb80 => ?_) (fun hb80 => ?_)
    · replace H72 := ite_t hb80 H72
      have hA := hA.re (t := 12) rfl (congrArg Value.bool hb80)
      refine L1 (gate_off rfl (by decide) rfl hA (by decide) rfl rfl ?_); clear hA; intro a hA
      refine L1 (gate_off rfl (by decide) rfl hA (by decide) rfl rfl ?_); clear hA; intro a hA
      refine L1 (stv hA (by decide) (run_pick (hA.ev rfl) (fun _ => hA.ev rfl) (fun h => Bool.noConfusion h)) ?_)
      clear hA; intro a hA
      refine L1 (stv hA (by decide) (run_move (hA.ev rfl)) ?_)
      clear hA; intro a hA
      refine L1 (gate_off rfl (by decide) rfl hA (by decide) rfl rfl ?_); clear hA; intro a hA
      refine L1 (gate_off rfl (by decide) rfl hA (by decide) rfl rfl ?_); clear hA; intro a hA
      refine L1 (gate_off rfl (by decide) rfl hA (by decide) rfl rfl ?_); clear hA; intro a hA
      refine L1 (gate_off rfl (by decide) rfl hA (by decide) rfl rfl ?_); clear hA; intro a hA
      refine L1 (gate_off rfl (by decide) rfl hA (by decide) rfl rfl ?_); clear hA; intro a hA
      refine L1 (gate_off rfl (by decide) rfl hA (by decide) rfl rfl ?_); clear hA; intro a hA
      refine L1 (gate_off rfl (by decide) rfl hA (by decide) rfl rfl ?_); clear hA; intro a hA
      refine L1 (gate_off rfl (by decide) rfl hA (by decide) rfl rfl ?_); clear hA; intro a hA
      refine L1 (stv hA (by decide) (run_pick (hA.ev rfl) (fun _ => hA.ev rfl) (fun h => Bool.noConfusion h)) ?_)
      clear hA; intro a hA
      refine LQ ?_
      exact ⟨true, Option.some.inj H72, (hM.sel [1] rfl (by decide)), ((((hA.nil.cons (hA.get 25 _ rfl)).cons (hA.get 3 _ rfl)).cons (hA.get 2 _ rfl)).cons (hA.get 1 _ rfl))⟩
    · replace H72 := ite_f hb80 H72
      have hA := hA.re (t := 12) rfl (congrArg Value.bool hb80)
      refine L1 (gate_on rfl rfl hA (by decide) rfl (stv hA (by decide) (run_move (hA.ev rfl)) ?_))
      clear hA; intro a hA
      refine L1 (gate_on rfl rfl hA (by decide) rfl (stv hA (by decide) (run_bin (hA.ev rfl) (hA.ev rfl) (bin_lss _ _ _ _)) ?_))
      clear hA; intro a hA
      refine L1 (stv hA (by decide) (run_pick (hA.ev rfl) (fun h => Bool.noConfusion h) (fun _ => hA.ev rfl)) ?_)
      clear hA; intro a hA
      refine L1 (stv hA (by decide) (run_move (hA.ev rfl)) ?_)
      clear hA; intro a hA
      refine bsplit (b := (decide (height_2 < 0))) (fun hb81 => ?_) (fun hb81 => ?_)
      · replace H72 := ite_t hb81 H72
        have hA := hA.re (t := 16) rfl (congrArg Value.bool hb81)
        refine L1 (gate_off rfl (by decide) rfl hA (by decide) rfl rfl ?_); clear hA; intro a hA
        refine L1 (gate_off rfl (by decide) rfl hA (by decide) rfl rfl ?_); clear hA; intro a hA
        refine L1 (gate_off rfl (by decide) rfl hA (by decide) rfl rfl ?_); clear hA; intro a hA
        refine L1 (gate_off rfl (by decide) rfl hA (by decide) rfl rfl ?_); clear hA; intro a hA
        refine L1 (gate_off rfl (by decide) rfl hA (by decide) rfl rfl ?_); clear hA; intro a hA
        refine L1 (gate_off rfl (by decide) rfl hA (by decide) rfl rfl ?_); clear hA; intro a hA
        refine L1 (gate_off rfl (by decide) rfl hA (by decide) rfl rfl ?_); clear hA; intro a hA
        refine L1 (gate_off rfl (by decide) rfl hA (by decide) rfl rfl ?_); clear hA; intro a hA
        refine L1 (stv hA (by decide) (run_pick (hA.ev rfl) (fun _ => hA.ev rfl) (fun h => Bool.noConfusion h)) ?_)
        clear hA; intro a hA
        refine LQ ?_
        exact ⟨true, Option.some.inj H72, (hM.sel [1] rfl (by decide)), ((((hA.nil.cons (hA.get 25 _ rfl)).cons (hA.get 3 _ rfl)).cons (hA.get 2 _ rfl)).cons (hA.get 1 _ rfl))⟩
      · replace H72 := ite_f hb81 H72
        have hA := hA.re (t := 16) rfl (congrArg Value.bool hb81)
        refine L1 (gate_on rfl rfl hA (by decide) rfl (stv hA (by decide) (run_move (hA.ev rfl)) ?_))
        clear hA; intro a hA
        refine L1 (gate_on rfl rfl hA (by decide) rfl (stv hA (by decide) (run_field' Try.underlying24 rfl rfl Try.sizeOf22 (by decide) (hA.ev rfl)) ?_))
        clear hA; intro a hA
        refine L1 (gate_on rfl rfl hA (by decide) rfl (stv hA (by decide) (run_ld (hA.ev rfl) (run_loadS Try.isAgg22 (At.seg1 (hM.box (.s .z)) 0 rfl))) ?_))
        clear hA; intro a hA
        refine L1 (gate_on rfl rfl hA (by decide) rfl (stv hA (by decide) (run_move (hA.ev rfl)) ?_))
        clear hA; intro a hA
        obtain ⟨⟨hi82, hj83⟩, H72⟩ := ite_some H72
        obtain ⟨ad84, hq85, hat86⟩ := Row.elem' (p := pNode) (hM.ro hr0_0) (Eq.refl t_0.Nodes.length) Node.z n_1 hi82 hj83
        refine L1 (gate_on rfl rfl hA (by decide) rfl (stv hA (by decide) (run_idx Try.underlying22 Try.sizeOf46 (hA.ev rfl) hq85 (hA.ev rfl) hi82 hj83) ?_))
        clear hA; intro a hA
        refine L1 (gate_on rfl rfl hA (by decide) rfl (stv hA (by decide) (run_field' Try.underlying46 rfl rfl Try.sizeOf3 (by decide) (hA.ev rfl)) ?_))
        clear hA; intro a hA
        refine L1 (gate_on rfl rfl hA (by decide) rfl (stv hA (by decide) (run_ld (hA.ev rfl) (run_loadS Try.isAgg3 (Node.at_Height (hat86)))) ?_))
        clear hA; intro a hA
        refine L1 (gate_on rfl rfl hA (by decide) rfl (stv hA (by decide) (run_bin (hA.ev rfl) (hA.ev rfl) (bin_gtr _ _ _ _)) ?_))
        clear hA; intro a hA
        refine L1 (stv hA (by decide) (run_pick (hA.ev rfl) (fun h => Bool.noConfusion h) (fun _ => hA.ev rfl)) ?_)
        clear hA; intro a hA
        refine LQ ?_
        exact ⟨(decide (height_2 > ((t_0.Nodes.getD n_1.toNat Node.z).Height))), Option.some.inj H72, (hM.sel [1] rfl (by decide)), ((((hA.nil.cons (hA.get 25 _ rfl)).cons (hA.get 3 _ rfl)).cons (hA.get 2 _ rfl)).cons (hA.get 1 _ rfl))⟩
  clear hM hA
  rintro a w87 ⟨t71, rfl, hM, hA⟩
  try dsimp only at H
  refine TN ?_
  refine tcond (b := t71) hA rfl (fun hb88 => ?_) (fun hb88 => ?_)
  · replace H := ite_t hb88 H
    refine wp_seq ?_
    refine wp_region_lit ?_
    refine L1 (stv hA (by decide) (run_assign (hA.ev rfl)) ?_)
    clear hA; intro a hA
    refine LQ ?_
    refine TN ?_
    refine wp_ret ?_
    obtain rfl := Option.some.inj H
    refine TR ?_
    exact ret_post1 (fn := Try.f14) hA rfl rfl ⟨_, rfl, rfl, (hM.sel [] rfl (by decide))⟩
  · replace H := ite_f hb88 H
    refine wp_skip ?_
    refine TN ?_
    refine wp_seq ?_
    refine wp_region_lit ?_
    refine L1 (stv hA (by decide) (run_ld (hA.ev rfl) (run_loadW Try.isAgg24 Try.sizeOf24 (by simp [Pl.len]; try rfl) (hM.box .z))) ?_)
    clear hA; intro a hA
    refine L1 (stv hA (by decide) (run_move (hA.ev rfl)) ?_)
    clear hA; intro a hA
    obtain ⟨r89, H90, H⟩ := Option.bind_eq_some_iff.1 H
    refine L1 (st_call Try.call24 hA [(.agg #[(.slice A0_0 t_0.Nodes.length c0_0), (.int .i64 t_0.Best)]), (.int .i64 n_1)] rfl (by decide) (branch_chain.calls _ _ _ _ _ _ _ ((RoV.mk (hM.roC (Ms := []) hr0_0) (Eq.refl t_0.Nodes.length) hc0_0)) (hM.front (Ms := [])) H90) ?_)
    clear hA; rintro _ w91 ⟨v92, rfl, hMc⟩ a hA
    have hE := hMc.below; have hM := hM.call (Ms := []) hMc
    clear hMc; simp only [List.cons_append, List.nil_append] at hM
    obtain ⟨A94, c95, rfl⟩ := RowOk.form (hM.row (p := (Pl.int .i64)) .z)
    refine L1 (stv hA (by decide) (run_move (hA.ev rfl)) ?_)
    clear hA; intro a hA
    obtain ⟨⟨hi96, hj97⟩, H⟩ := ite_some H
    obtain ⟨ad98, hq99, hat100⟩ := Row.elem' (p := (Pl.int .i64)) (RowOk.row (hM.row (p := (Pl.int .i64)) .z)) (RowOk.len (hM.row (p := (Pl.int .i64)) .z)) (0 : Int) height_2 hi96 hj97
    refine L1 (stv hA (by decide) (run_idx Try.underlying31 Try.sizeOf3 (hA.ev rfl) hq99 (hA.ev rfl) hi96 hj97) ?_)
    clear hA; intro a hA
    refine L1 (stv hA (by decide) (run_ld (hA.ev rfl) (run_loadS Try.isAgg3 hat100)) ?_)
    clear hA; intro a hA
    refine L1 (stv hA (by decide) (run_assign (hA.ev rfl)) ?_)
    clear hA; intro a hA
    refine LQ ?_
    refine TN ?_
    refine wp_ret ?_
    obtain rfl := Option.some.inj H
    exact ret_post1 (fn := Try.f14) hA rfl rfl ⟨_, rfl, rfl, (hM.sel [] rfl (by decide))⟩

def slices_Reverse_int.l0 (s_0 : (List Int)) : Nat → (List Int) → Int → Int → Option ((List Int))
  | 0, _, _, _ => none
  | k + 1, xs219, i221, j223 => (if (decide (i221 < j223)) = true then (if 0 ≤ j223 ∧ j223 < ((s_0.length : Nat) : Int) then (if 0 ≤ i221 ∧ i221 < ((s_0.length : Nat) : Int) then (if 0 ≤ i221 ∧ i221 < ((s_0.length : Nat) : Int) then (if 0 ≤ j223 ∧ j223 < ((s_0.length : Nat) : Int) then (slices_Reverse_int.l0 s_0 k ((xs219.set i221.toNat (xs219.getD j223.toNat (0 : Int))).set j223.toNat (xs219.getD i221.toNat (0 : Int))) (IntKind.i64.wrap (i221 + 1)) (IntKind.i64.wrap (j223 - 1))) else none) else none) else none) else none) else (some xs219))
def slices_Reverse_int.f (k : Nat) (s_0 : (List Int)) : Option (List Int) := (Option.bind (α := (List Int)) (slices_Reverse_int.l0 s_0 k s_0 0 (IntKind.i64.wrap (((s_0.length : Nat) : Int) - 1))) (fun xs224 => (some xs224)))
set_option maxRecDepth 100000 in
theorem slices_Reverse_int.calls (k : Nat) (s_0 : (List Int)) (F : List (Option Nat)) (v0 : Value) (r : (List Int)) (w0 : World) (hM : Mem F w0 w0 [.row 3 (Pl.int .i64).sz v0 ((Pl.int .i64).flat s_0)]) (H : slices_Reverse_int.f k s_0 = some r) :
    Calls Try.prog 30 #[v0] w0 fun e w' => ∃ v, e = .returned v ∧ v = (.tuple #[]) ∧ Mem F w0 w' [.row 3 (Pl.int .i64).sz v0 ((Pl.int .i64).flat r)] := by
  unfold slices_Reverse_int.f at H
  obtain ⟨A0, c0, rfl⟩ := RowOk.form (hM.row (p := (Pl.int .i64)) .z)
  refine enterL (n := 28) [(.slice A0 s_0.length c0)] Try.func30 rfl rfl rfl ?_
  intro a hA
  refine wp_seq ?_
  refine wp_region_lit ?_
  refine L1 (stv hA (by decide) (run_move (hA.ev rfl)) ?_)
  clear hA; intro a hA
  refine L1 (stv hA (by decide) (run_len_slice Try.underlying31 (hA.ev rfl)) ?_)
  clear hA; intro a hA
  refine L1 (stv hA (by decide) (run_bin (hA.ev rfl) (hA.ev rfl) (bin_sub _ _ _ _)) ?_)
  clear hA; intro a hA
  refine L1 (stv hA (by decide) (run_assign (hA.ev rfl)) ?_)
  clear hA; intro a hA
  refine L1 (stv hA (by decide) (run_assign (hA.ev rfl)) ?_)
  clear hA; intro a hA
  refine LQ ?_
  refine TN ?_
  obtain ⟨o226, H225, H⟩ := Option.bind_eq_some_iff.1 H
  refine cutC (fun a w => ∃ (xs224 : (List Int)), xs224 = o226 ∧ Mem F w0 w [.row 3 (Pl.int .i64).sz (.slice A0 s_0.length c0) ((Pl.int .i64).flat xs224)] ∧ Has 28 [] a) ?_ ?_
  · refine wp_block ?_
    refine wp_loop_ghost (fun m a w => ∃ (xs219 : (List Int)) (i221 : Int) (j223 : Int), slices_Reverse_int.l0 s_0 m xs219 i221 j223 = some o226 ∧ Mem F w0 w [.row 3 (Pl.int .i64).sz (.slice A0 s_0.length c0) ((Pl.int .i64).flat xs219)] ∧ Has 28 [(0, (.slice A0 s_0.length c0)), (2, (.int .i64 i221)), (3, (.int .i64 j223))] a) k ⟨s_0, 0, IntKind.i64.wrap (((s_0.length : Nat) : Int) - 1), H225, hM, (((hA.nil.cons (hA.get 3 _ rfl)).cons (hA.get 2 _ rfl)).cons (hA.get 0 _ rfl))⟩ ?_
    clear hM hA; rintro m227 a w228 ⟨xs219, i221, j223, H225, hM, hA⟩
    cases m227 with
    | zero => exact absurd H225 (by simp [slices_Reverse_int.l0])
    | succ m227 =>
    rw [slices_Reverse_int.l0] at H225
    refine wp_seq ?_
    refine wp_seq ?_
    refine wp_region_lit ?_
    refine L1 (stv hA (by decide) (run_move (hA.ev rfl)) ?_)
    clear hA; intro a hA
    refine L1 (stv hA (by decide) (run_move (hA.ev rfl)) ?_)
    clear hA; intro a hA
    refine L1 (stv hA (by decide) (run_bin (hA.ev rfl) (hA.ev rfl) (bin_lss _ _ _ _)) ?_)
    clear hA; intro a hA
    refine LQ ?_
    refine TN ?_
    refine tcond (b := (decide (i221 < j223))) hA rfl (fun hb229 => ?_) (fun hb229 => ?_)
    · replace H225 := ite_t hb229 H225
      refine wp_skip ?_
      refine TN ?_
      refine wp_seq ?_
      refine wp_block ?_
      refine draw (fun w' => Below w228.heap.size w228 w') [13, 15] rfl ?_
      intro w230 hw hS; replace hM := hM.ext hS; clear hw
      refine d_takef (i := 0) (L' := #[true, false, false, false, false, false, false, false, false, false, false, false, false, false, false, false]) rfl (by kernel_rfl) rfl (fun _ _ _ h => h) hA (by decide) (fun _ => hS) (fun a w' hA => run_move (hA.ev rfl)) ?_; clear hA; intro a hA
      refine d_takef (i := 1) (L' := #[true, true, false, false, false, false, false, false, false, false, false, false, false, false, false, false]) rfl (by kernel_rfl) rfl (fun _ _ _ h => h) hA (by decide) (fun _ => hS) (fun a w' hA => run_move (hA.ev rfl)) ?_; clear hA; intro a hA
      refine d_takef (i := 2) (L' := #[true, true, true, false, false, false, false, false, false, false, false, false, false, false, false, false]) rfl (by kernel_rfl) rfl (fun _ _ _ h => h) hA (by decide) (fun _ => hS) (fun a w' hA => run_move (hA.ev rfl)) ?_; clear hA; intro a hA
      refine d_takef (i := 3) (L' := #[true, true, true, true, false, false, false, false, false, false, false, false, false, false, false, false]) rfl (by kernel_rfl) rfl (fun _ _ _ h => h) hA (by decide) (fun _ => hS) (fun a w' hA => run_move (hA.ev rfl)) ?_; clear hA; intro a hA
      refine d_takef (i := 4) (L' := #[true, true, true, true, true, false, false, false, false, false, false, false, false, false, false, false]) rfl (by kernel_rfl) rfl (fun _ _ _ h => h) hA (by decide) (fun _ => hS) (fun a w' hA => run_move (hA.ev rfl)) ?_; clear hA; intro a hA
      refine d_takef (i := 5) (L' := #[true, true, true, true, true, true, false, false, false, false, false, false, false, false, false, false]) rfl (by kernel_rfl) rfl (fun _ _ _ h => h) hA (by decide) (fun _ => hS) (fun a w' hA => run_move (hA.ev rfl)) ?_; clear hA; intro a hA
      obtain ⟨⟨hi232, hj233⟩, H225⟩ := ite_some H225
      obtain ⟨ad234, hq235, hat236⟩ := Row.elem' (p := (Pl.int .i64)) (RowOk.row (hM.row (p := (Pl.int .i64)) .z)) (RowOk.len (hM.row (p := (Pl.int .i64)) .z)) (0 : Int) j223 hi232 hj233
      refine d_takef (i := 6) (L' := #[true, true, true, true, true, true, true, false, false, false, false, false, false, false, false, false]) rfl (by kernel_rfl) rfl (fun _ _ _ h => h) hA (by decide) (fun _ => hS) (fun a w' hA => run_idx Try.underlying31 Try.sizeOf3 (hA.ev rfl) hq235 (hA.ev rfl) hi232 hj233) ?_; clear hA; intro a hA
      refine rebase hS ?_; clear hS; intro hS
      refine d_take (i := 7) (L' := #[true, true, true, true, true, true, true, true, false, false, false, false, false, false, false, false]) rfl (by kernel_rfl) rfl (fun _ _ _ h => h) hA (by decide) rfl hS (fun a w' hA hS' => run_ld (hA.ev rfl) (run_loadS Try.isAgg3 ((hat236).extB hS'))) ?_; clear hA; intro a hA
      refine d_takef (i := 8) (L' := #[true, true, true, true, true, true, true, true, true, false, false, false, false, false, false, false]) rfl (by kernel_rfl) rfl (fun _ _ _ h => h) hA (by decide) (fun _ => hS) (fun a w' hA => run_move (hA.ev rfl)) ?_; clear hA; intro a hA
      refine d_takef (i := 9) (L' := #[true, true, true, true, true, true, true, true, true, true, false, false, false, false, false, false]) rfl (by kernel_rfl) rfl (fun _ _ _ h => h) hA (by decide) (fun _ => hS) (fun a w' hA => run_move (hA.ev rfl)) ?_; clear hA; intro a hA
      obtain ⟨⟨hi237, hj238⟩, H225⟩ := ite_some H225
      obtain ⟨ad239, hq240, hat241⟩ := Row.elem' (p := (Pl.int .i64)) (RowOk.row (hM.row (p := (Pl.int .i64)) .z)) (RowOk.len (hM.row (p := (Pl.int .i64)) .z)) (0 : Int) i221 hi237 hj238
      refine d_takef (i := 10) (L' := #[true, true, true, true, true, true, true, true, true, true, true, false, false, false, false, false]) rfl (by kernel_rfl) rfl (fun _ _ _ h => h) hA (by decide) (fun _ => hS) (fun a w' hA => run_idx Try.underlying31 Try.sizeOf3 (hA.ev rfl) hq240 (hA.ev rfl) hi237 hj238) ?_; clear hA; intro a hA
      refine d_take (i := 11) (L' := #[true, true, true, true, true, true, true, true, true, true, true, true, false, false, false, false]) rfl (by kernel_rfl) rfl (fun _ _ _ h => h) hA (by decide) rfl hS (fun a w' hA hS' => run_ld (hA.ev rfl) (run_loadS Try.isAgg3 ((hat241).extB hS'))) ?_; clear hA; intro a hA
      obtain ⟨⟨hi242, hj243⟩, H225⟩ := ite_some H225
      obtain ⟨ad244, hq245, hat246⟩ := Row.elem' (p := (Pl.int .i64)) (RowOk.row (hM.row (p := (Pl.int .i64)) .z)) (RowOk.len (hM.row (p := (Pl.int .i64)) .z)) (0 : Int) i221 hi242 hj243
      refine d_takef (i := 12) (L' := #[true, true, true, true, true, true, true, true, true, true, true, true, true, false, false, false]) rfl (by kernel_rfl) rfl (fun _ _ _ h => h) hA (by decide) (fun _ => hS) (fun a w' hA => run_idx Try.underlying31 Try.sizeOf3 (hA.ev rfl) hq245 (hA.ev rfl) hi242 hj243) ?_; clear hA; intro a hA
      refine d_one (i := 13) (L' := #[true, true, true, true, true, true, true, true, true, true, true, true, true, true, false, false]) (by kernel_rfl) rfl rfl (e_setrow (x1 := (xs219.getD i221.toNat (0 : Int))) (y1 := (xs219.getD j223.toNat (0 : Int))) (off := 0) hM .z Try.sizeOf3 hA rfl rfl hq245 rfl (by first | rfl | simp [Value.cells, Pl.len]) (one_val rfl) hi242 hj243 (getD_getD _ _ _) (by decide) (spl_all (by first | rfl | simp [Value.cells, Pl.len] | (simp only [Value.cells, Pl.len, List.length_cons, List.length_nil]; done))) ?_)
      clear hM hA; intro w247 hM hE a hA
      refine ⟨fun h => absurd h (by decide), ?_⟩
      obtain ⟨⟨hi248, hj249⟩, H225⟩ := ite_some H225
      obtain ⟨ad250, hq251, hat252⟩ := Row.elem' (p := (Pl.int .i64)) (RowOk.row (hM.row (p := (Pl.int .i64)) .z)) (RowOk.len (hM.row (p := (Pl.int .i64)) .z)) (0 : Int) j223 hi248 hj249
      refine d_takef (i := 14) (L' := #[true, true, true, true, true, true, true, true, true, true, true, true, true, true, true, false]) rfl (by kernel_rfl) rfl (fun _ _ _ h => h) hA (by decide) (fun h => absurd h (by decide)) (fun a w' hA => run_idx Try.underlying31 Try.sizeOf3 (hA.ev rfl) hq251 (hA.ev rfl) hi248 hj249) ?_; clear hA; intro a hA
      refine d_one (i := 15) (L' := #[true, true, true, true, true, true, true, true, true, true, true, true, true, true, true, true]) (by kernel_rfl) rfl rfl (e_setrow (x1 := ((xs219.set i221.toNat (xs219.getD j223.toNat (0 : Int))).getD j223.toNat (0 : Int))) (y1 := (xs219.getD i221.toNat (0 : Int))) (off := 0) hM .z Try.sizeOf3 hA rfl rfl hq251 rfl (by first | rfl | simp [Value.cells, Pl.len]) (one_val rfl) hi248 hj249 (getD_getD _ _ _) (by decide) (spl_all (by first | rfl | simp [Value.cells, Pl.len] | (simp only [Value.cells, Pl.len, List.length_cons, List.length_nil]; done))) ?_)
      clear hM hA; intro w253 hM hE a hA
      refine ⟨fun h => absurd h (by decide), ?_⟩
      refine d_done (by kernel_rfl) ?_
      refine BN ?_
      refine TN ?_
      refine wp_region_lit ?_
      refine L1 (stv hA (by decide) (run_move (hA.ev rfl)) ?_)
      clear hA; intro a hA
      refine L1 (stv hA (by decide) (run_bin (hA.ev rfl) (hA.ev rfl) (bin_add _ _ _ _)) ?_)
      clear hA; intro a hA
      refine L1 (stv hA (by decide) (run_move (hA.ev rfl)) ?_)
      clear hA; intro a hA
      refine L1 (stv hA (by decide) (run_bin (hA.ev rfl) (hA.ev rfl) (bin_sub _ _ _ _)) ?_)
      clear hA; intro a hA
      refine L1 (stv hA (by decide) (run_assign (hA.ev rfl)) ?_)
      clear hA; intro a hA
      refine L1 (stv hA (by decide) (run_assign (hA.ev rfl)) ?_)
      clear hA; intro a hA
      refine LQ ?_
      exact ⟨_, Nat.lt_succ_self m227, ((xs219.set i221.toNat (xs219.getD j223.toNat (0 : Int))).set j223.toNat (xs219.getD i221.toNat (0 : Int))), IntKind.i64.wrap (i221 + 1), IntKind.i64.wrap (j223 - 1), H225, hM, (((hA.nil.cons (hA.get 3 _ rfl)).cons (hA.get 2 _ rfl)).cons (hA.get 0 _ rfl))⟩
    · replace H225 := ite_f hb229 H225
      refine wp_exit ?_
      refine TX ?_
      refine TX ?_
      refine BX ?_
      exact ⟨xs219, Option.some.inj H225, hM, hA.nil⟩
  clear hM hA
  rintro a w254 ⟨xs224, rfl, hM, hA⟩
  try dsimp only at H
  refine nret ?_
  obtain rfl := Option.some.inj H
  exact ret_post0 (fn := Try.f30) hA rfl  ⟨_, rfl, rfl, hM⟩

def branch_Meet.l0 (t_0 : Tree) (r185 : (List Int)) (r192 : (List Int)) : Nat → (List ((Vector Int 32) × Int)) → Int → Option ((List ((Vector Int 32) × Int)))
  | 0, _, _ => none
  | k + 1, mp256, t260 => (if (decide (t260 < ((r185.length : Nat) : Int))) = true then (if 0 ≤ t260 ∧ t260 < ((r185.length : Nat) : Int) then (if 0 ≤ (r192.getD t260.toNat (0 : Int)) ∧ (r192.getD t260.toNat (0 : Int)) < ((t_0.Nodes.length : Nat) : Int) then (branch_Meet.l0 t_0 r185 r192 k (mput mp256 ((t_0.Nodes.getD (r192.getD t260.toNat (0 : Int)).toNat Node.z).Hash) (r192.getD t260.toNat (0 : Int))) (IntKind.i64.wrap (t260 + 1))) else none) else none) else (some mp256))
def branch_Meet.l1 (l_1 : (List (Vector Int 32))) (mp263 : (List ((Vector Int 32) × Int))) : Nat → Int → Option (Out Int (Unit))
  | 0, _ => none
  | k + 1, t332 => (if (decide (t332 < ((l_1.length : Nat) : Int))) = true then (if 0 ≤ t332 ∧ t332 < ((l_1.length : Nat) : Int) then (if ((mget mp263 (l_1.getD t332.toNat (Vector.replicate 32 0 : Vector Int 32))).isSome) = true then (some (.ret ((mget mp263 (l_1.getD t332.toNat (Vector.replicate 32 0 : Vector Int 32))).getD (0 : Int)))) else (branch_Meet.l1 l_1 mp263 k (IntKind.i64.wrap (t332 + 1)))) else none) else (some (.go ())))
def branch_Meet.f (k : Nat) (t_0 : Tree) (l_1 : (List (Vector Int 32))) : Option Int := ((branch_sound.f k (Tree.mk t_0.Nodes t_0.Best)).bind fun r178 => (if (!r178) = true then (some (-1)) else ((branch_chain.f k (Tree.mk t_0.Nodes t_0.Best) t_0.Best).bind fun r185 => ((slices_Reverse_int.f k r185).bind fun r192 => (Option.bind (α := (List ((Vector Int 32) × Int))) (branch_Meet.l0 t_0 r185 r192 k ([] : List ((Vector Int 32) × Int)) 0) (fun mp263 => (Option.bind (α := Out Int (Unit)) (branch_Meet.l1 l_1 mp263 k 0) (fun o => match o with | .ret r => some r | .go _ => (some 0)))))))))
set_option maxRecDepth 100000 in
theorem branch_Meet.calls (k : Nat) (t_0 : Tree) (l_1 : (List (Vector Int 32))) (F : List (Option Nat)) (v0_0 : Value) (v1 : Value) (r : Int) (w0 : World) (h0_0 : RoV F pNode w0 v0_0 t_0.Nodes) (h1 : RoV F pHash w0 v1 l_1) (hM : Mem F w0 w0 []) (H : branch_Meet.f k t_0 l_1 = some r) :
    Calls Try.prog 21 #[(.agg #[v0_0, (.int .i64 t_0.Best)]), v1] w0 fun e w' => ∃ v, e = .returned v ∧ v = (.int .i64 r) ∧ Mem F w0 w' [] := by
  unfold branch_Meet.f at H
  obtain ⟨A0_0, c0_0, rfl, hr0_0, hc0_0⟩ := h0_0
  obtain ⟨A1, c1, rfl, hr1, hc1⟩ := h1
  refine enterL (n := 53) [(.agg #[(.slice A0_0 t_0.Nodes.length c0_0), (.int .i64 t_0.Best)]), (.slice A1 l_1.length c1)] Try.func21 rfl rfl rfl ?_
  intro a hA
  refine wp_seq ?_
  refine wp_region_lit ?_
  refine L1 (e_box (cs := [(.slice A0_0 t_0.Nodes.length c0_0), (.int .i64 t_0.Best)]) hM hA rfl rfl (by decide) ?_)
  clear hM hA; intro w176 g175 hM hE a hA
  refine L1 (stv hA (by decide) (run_assign (hA.ev rfl)) ?_)
  clear hA; intro a hA
  refine LQ ?_
  refine TN ?_
  refine wp_seq ?_
  refine wp_seq ?_
  refine wp_region_lit ?_
  refine L1 (stv hA (by decide) (run_ld (hA.ev rfl) (run_loadW Try.isAgg24 Try.sizeOf24 (by simp [Pl.len]; try rfl) (hM.box .z))) ?_)
  clear hA; intro a hA
  obtain ⟨r178, H179, H⟩ := Option.bind_eq_some_iff.1 H
  refine L1 (st_call Try.call23 hA [(.agg #[(.slice A0_0 t_0.Nodes.length c0_0), (.int .i64 t_0.Best)])] rfl (by decide) (branch_sound.calls _ _ _ _ _ _ ((RoV.mk (hM.roC (Ms := []) hr0_0) (Eq.refl t_0.Nodes.length) hc0_0)) (hM.front (Ms := [])) H179) ?_)
  clear hA; rintro _ w180 ⟨rfl, hMc⟩ a hA
  have hE := hMc.below; have hM := hM.call (Ms := []) hMc
  clear hMc; simp only [List.cons_append, List.nil_append] at hM
  refine L1 (stv hA (by decide) (run_not (hA.ev rfl)) ?_)
  clear hA; intro a hA
  refine LQ ?_
  refine TN ?_
  refine tcond (b := (!r178)) hA rfl (fun hb181 => ?_) (fun hb181 => ?_)
  · replace H := ite_t hb181 H
    refine wp_seq ?_
    refine wp_region_lit ?_
    refine L1 (stv hA (by decide) (run_assign (hA.ev rfl)) ?_)
    clear hA; intro a hA
    refine LQ ?_
    refine TN ?_
    refine wp_ret ?_
    obtain rfl := Option.some.inj H
    refine TR ?_
    exact ret_post1 (fn := Try.f21) hA rfl rfl ⟨_, rfl, rfl, (hM.sel [] rfl (by decide))⟩
  · replace H := ite_f hb181 H
    refine wp_skip ?_
    refine TN ?_
    refine wp_seq ?_
    refine wp_region_lit ?_
    refine L1 (e_makeMap (m := ([] : List ((Vector Int 32) × Int))) (ek := (fun x => (.agg (pHash.enc x).toArray))) (ev' := (fun x => (.int .i64 x))) rfl hM hA (by decide) ?_)
    clear hM hA; intro w183 g182 hM hE a hA
    refine L1 (stv hA (by decide) (run_assign (hA.ev rfl)) ?_)
    clear hA; intro a hA
    refine LQ ?_
    refine TN ?_
    refine wp_seq ?_
    refine wp_region_lit ?_
    refine L1 (stv hA (by decide) (run_ld (hA.ev rfl) (run_loadW Try.isAgg24 Try.sizeOf24 (by simp [Pl.len]; try rfl) (hM.box (.s .z)))) ?_)
    clear hA; intro a hA
    refine L1 (stv hA (by decide) (run_field' Try.underlying24 rfl rfl Try.sizeOf3 (by decide) (hA.ev rfl)) ?_)
    clear hA; intro a hA
    refine L1 (stv hA (by decide) (run_ld (hA.ev rfl) (run_loadS Try.isAgg3 (At.seg1 (hM.box (.s .z)) 1 rfl))) ?_)
    clear hA; intro a hA
    obtain ⟨r185, H186, H⟩ := Option.bind_eq_some_iff.1 H
    refine L1 (st_call Try.call24 hA [(.agg #[(.slice A0_0 t_0.Nodes.length c0_0), (.int .i64 t_0.Best)]), (.int .i64 t_0.Best)] rfl (by decide) (branch_chain.calls _ _ _ _ _ _ _ ((RoV.mk (hM.roC (Ms := []) hr0_0) (Eq.refl t_0.Nodes.length) hc0_0)) (hM.front (Ms := [])) H186) ?_)
    clear hA; rintro _ w187 ⟨v188, rfl, hMc⟩ a hA
    have hE := hMc.below; have hM := hM.call (Ms := []) hMc
    clear hMc; simp only [List.cons_append, List.nil_append] at hM
    obtain ⟨A190, c191, rfl⟩ := RowOk.form (hM.row (p := (Pl.int .i64)) .z)
    refine L1 (stv hA (by decide) (run_assign (hA.ev rfl)) ?_)
    clear hA; intro a hA
    refine LQ ?_
    refine TN ?_
    refine wp_seq ?_
    refine wp_region_lit ?_
    refine L1 (stv hA (by decide) (run_move (hA.ev rfl)) ?_)
    clear hA; intro a hA
    obtain ⟨r192, H193, H⟩ := Option.bind_eq_some_iff.1 H
    refine L1 (st_call Try.call30 hA [(.slice A190 r185.length c191)] rfl (by decide) (slices_Reverse_int.calls _ _ _ _ _ _ (hM.front (Ms := [_])) H193) ?_)
    clear hA; rintro _ w194 ⟨rfl, hMc⟩ a hA
    have hM := hM.call (Ms := [_]) hMc
    clear hMc; simp only [List.cons_append, List.nil_append] at hM
    refine LQ ?_
    refine TN ?_
    refine wp_seq ?_
    refine wp_seq ?_
    refine wp_region_lit ?_
    refine L1 (stv hA (by decide) (run_move (hA.ev rfl)) ?_)
    clear hA; intro a hA
    refine L1 (stv hA (by decide) (run_len_slice Try.underlying31 (hA.ev rfl)) ?_)
    clear hA; intro a hA
    refine L1 (stv hA (by decide) (run_move (hA.ev rfl)) ?_)
    clear hA; intro a hA
    refine LQ ?_
    refine TN ?_
    obtain ⟨o265, H264, H⟩ := Option.bind_eq_some_iff.1 H
    refine cutC (fun a w => ∃ (mp263 : (List ((Vector Int 32) × Int))), mp263 = o265 ∧ Mem F w0 w [.map g182 (mapE (fun x => (.agg (pHash.enc x).toArray)) (fun x => (.int .i64 x)) mp263)] ∧ Has 53 [(1, (.slice A1 l_1.length c1)), (5, (.map (some g182)))] a) ?_ ?_
    · refine wp_block ?_
      refine wp_loop_ghost (fun m a w => ∃ (mp256 : (List ((Vector Int 32) × Int))) (t260 : Int), branch_Meet.l0 t_0 r185 r192 m mp256 t260 = some o265 ∧ Mem F w0 w [.box g175 24 [(.slice A0_0 t_0.Nodes.length c0_0), (.int .i64 t_0.Best)], .map g182 (mapE (fun x => (.agg (pHash.enc x).toArray)) (fun x => (.int .i64 x)) mp256), .row 3 (Pl.int .i64).sz (.slice A190 r185.length c191) ((Pl.int .i64).flat r192)] ∧ Has 53 [(1, (.slice A1 l_1.length c1)), (2, (.pointer (some (⟨g175, 0, none⟩)))), (5, (.map (some g182))), (23, (.slice A190 r185.length c191)), (24, (.int .i64 ((r185.length : Nat) : Int))), (25, (.int .i64 t260))] a) k ⟨([] : List ((Vector Int 32) × Int)), 0, H264, (hM.sel [2, 1, 0] rfl (by decide)), ((((((hA.nil.cons (hA.get 25 _ rfl)).cons (hA.get 24 _ rfl)).cons (hA.get 23 _ rfl)).cons (hA.get 5 _ rfl)).cons (hA.get 2 _ rfl)).cons (hA.get 1 _ rfl))⟩ ?_
      clear hM hA; rintro m266 a w267 ⟨mp256, t260, H264, hM, hA⟩
      cases m266 with
      | zero => exact absurd H264 (by simp [branch_Meet.l0])
      | succ m266 =>
      rw [branch_Meet.l0] at H264
      refine wp_seq ?_
      refine wp_region_lit ?_
      refine L1 (stv hA (by decide) (run_bin (hA.ev rfl) (hA.ev rfl) (bin_lss _ _ _ _)) ?_)
      clear hA; intro a hA
      refine LQ ?_
      refine TN ?_
      refine wp_seq ?_
      refine tcond (b := (decide (t260 < ((r185.length : Nat) : Int)))) hA rfl (fun hb268 => ?_) (fun hb268 => ?_)
      · replace H264 := ite_t hb268 H264
        refine wp_skip ?_
        refine TN ?_
        refine wp_seq ?_
        refine wp_block ?_
        refine wp_seq ?_
        refine wp_region_lit ?_
        obtain ⟨⟨hi269, hj270⟩, H264⟩ := ite_some H264
        obtain ⟨ad271, hq272, hat273⟩ := Row.elem' (p := (Pl.int .i64)) (RowOk.row (hM.row (p := (Pl.int .i64)) (.s (.s .z)))) (RowOk.len (hM.row (p := (Pl.int .i64)) (.s (.s .z)))) (0 : Int) t260 hi269 hj270
        refine L1 (stv hA (by decide) (run_idx Try.underlying31 Try.sizeOf3 (hA.ev rfl) hq272 (hA.ev rfl) hi269 hj270) ?_)
        clear hA; intro a hA
        refine L1 (stv hA (by decide) (run_ld (hA.ev rfl) (run_loadS Try.isAgg3 hat273)) ?_)
        clear hA; intro a hA
        refine L1 (stv hA (by decide) (run_assign (hA.ev rfl)) ?_)
        clear hA; intro a hA
        refine LQ ?_
        refine TN ?_
        refine wp_region_lit ?_
        refine L1 (stv hA (by decide) (run_move (hA.ev rfl)) ?_)
        clear hA; intro a hA
        refine L1 (stv hA (by decide) (run_field' Try.underlying24 rfl rfl Try.sizeOf22 (by decide) (hA.ev rfl)) ?_)
        clear hA; intro a hA
        refine L1 (stv hA (by decide) (run_ld (hA.ev rfl) (run_loadS Try.isAgg22 (At.seg1 (hM.box .z) 0 rfl))) ?_)
        clear hA; intro a hA
        refine L1 (stv hA (by decide) (run_move (hA.ev rfl)) ?_)
        clear hA; intro a hA
        obtain ⟨⟨hi274, hj275⟩, H264⟩ := ite_some H264
        obtain ⟨ad276, hq277, hat278⟩ := Row.elem' (p := pNode) (hM.ro hr0_0) (Eq.refl t_0.Nodes.length) Node.z (r192.getD t260.toNat (0 : Int)) hi274 hj275
        refine L1 (stv hA (by decide) (run_idx Try.underlying22 Try.sizeOf46 (hA.ev rfl) hq277 (hA.ev rfl) hi274 hj275) ?_)
        clear hA; intro a hA
        refine L1 (stv hA (by decide) (run_field' Try.underlying46 rfl rfl Try.sizeOf38 (by decide) (hA.ev rfl)) ?_)
        clear hA; intro a hA
        refine L1 (stv hA (by decide) (run_ld (hA.ev rfl) (run_loadP Try.isAgg38 Try.sizeOf38 (Node.at_Hash (hat278)))) ?_)
        clear hA; intro a hA
        refine L1 (stv hA (by decide) (run_move (hA.ev rfl)) ?_)
        clear hA; intro a hA
        refine L1 (e_mapput (m := mp256) (k := (t_0.Nodes.getD (r192.getD t260.toNat (0 : Int)).toNat Node.z).Hash) (v := (r192.getD t260.toNat (0 : Int))) (ev' := (fun x => (.int .i64 x))) (key38) Try.underlying59 hM (.s .z) hA rfl rfl rfl ?_)
        clear hM hA; intro w279 hM hE a hA
        refine LQ ?_
        refine BN ?_
        refine TN ?_
        refine wp_region_lit ?_
        refine L1 (stv hA (by decide) (run_bin (hA.ev rfl) (hA.ev rfl) (bin_add _ _ _ _)) ?_)
        clear hA; intro a hA
        refine L1 (stv hA (by decide) (run_move (hA.ev rfl)) ?_)
        clear hA; intro a hA
        refine LQ ?_
        exact ⟨_, Nat.lt_succ_self m266, (mput mp256 ((t_0.Nodes.getD (r192.getD t260.toNat (0 : Int)).toNat Node.z).Hash) (r192.getD t260.toNat (0 : Int))), IntKind.i64.wrap (t260 + 1), H264, hM, ((((((hA.nil.cons (hA.get 25 _ rfl)).cons (hA.get 24 _ rfl)).cons (hA.get 23 _ rfl)).cons (hA.get 5 _ rfl)).cons (hA.get 2 _ rfl)).cons (hA.get 1 _ rfl))⟩
      · replace H264 := ite_f hb268 H264
        refine wp_exit ?_
        refine TX ?_
        refine TX ?_
        refine BX ?_
        exact ⟨mp256, Option.some.inj H264, (hM.sel [1] rfl (by decide)), ((hA.nil.cons (hA.get 5 _ rfl)).cons (hA.get 1 _ rfl))⟩
    clear hM hA
    rintro a w280 ⟨mp263, rfl, hM, hA⟩
    try dsimp only at H
    refine TN ?_
    refine wp_seq ?_
    refine wp_seq ?_
    refine wp_region_lit ?_
    refine L1 (stv hA (by decide) (run_move (hA.ev rfl)) ?_)
    clear hA; intro a hA
    refine L1 (stv hA (by decide) (run_len_slice Try.underlying35 (hA.ev rfl)) ?_)
    clear hA; intro a hA
    refine L1 (stv hA (by decide) (run_move (hA.ev rfl)) ?_)
    clear hA; intro a hA
    refine LQ ?_
    refine TN ?_
    obtain ⟨o334, H333, H⟩ := Option.bind_eq_some_iff.1 H
    refine cutC (fun a w => (.go ()) = o334 ∧ Mem F w0 w [] ∧ Has 53 [] a) ?_ ?_
    · refine wp_block ?_
      refine wp_loop_ghost (fun m a w => ∃ (t332 : Int), branch_Meet.l1 l_1 mp263 m t332 = some o334 ∧ Mem F w0 w [.map g182 (mapE (fun x => (.agg (pHash.enc x).toArray)) (fun x => (.int .i64 x)) mp263)] ∧ Has 53 [(5, (.map (some g182))), (38, (.slice A1 l_1.length c1)), (39, (.int .i64 ((l_1.length : Nat) : Int))), (40, (.int .i64 t332))] a) k ⟨0, H333, hM, ((((hA.nil.cons (hA.get 40 _ rfl)).cons (hA.get 39 _ rfl)).cons (hA.get 38 _ rfl)).cons (hA.get 5 _ rfl))⟩ ?_
      clear hM hA; rintro m335 a w336 ⟨t332, H333, hM, hA⟩
      cases m335 with
      | zero => exact absurd H333 (by simp [branch_Meet.l1])
      | succ m335 =>
      rw [branch_Meet.l1] at H333
      refine wp_seq ?_
      refine wp_region_lit ?_
      refine L1 (stv hA (by decide) (run_bin (hA.ev rfl) (hA.ev rfl) (bin_lss _ _ _ _)) ?_)
      clear hA; intro a hA
      refine LQ ?_
      refine TN ?_
      refine wp_seq ?_
      refine tcond (b := (decide (t332 < ((l_1.length : Nat) : Int)))) hA rfl (fun hb337 => ?_) (fun hb337 => ?_)
      · replace H333 := ite_t hb337 H333
        refine wp_skip ?_
        refine TN ?_
        refine wp_seq ?_
        refine wp_block ?_
        refine wp_seq ?_
        refine wp_region_lit ?_
        obtain ⟨⟨hi338, hj339⟩, H333⟩ := ite_some H333
        obtain ⟨ad340, hq341, hat342⟩ := Row.elem' (p := pHash) (hM.ro hr1) (Eq.refl l_1.length) (Vector.replicate 32 0 : Vector Int 32) t332 hi338 hj339
        refine L1 (stv hA (by decide) (run_idx Try.underlying35 Try.sizeOf38 (hA.ev rfl) hq341 (hA.ev rfl) hi338 hj339) ?_)
        clear hA; intro a hA
        refine L1 (stv hA (by decide) (run_ld (hA.ev rfl) (run_loadP Try.isAgg38 Try.sizeOf38 hat342)) ?_)
        clear hA; intro a hA
        refine L1 (e_alloc (cs := (pHash.enc (Vector.replicate 32 0 : Vector Int 32))) hM zero38 rfl hA (by decide) ?_)
        clear hM hA; intro w344 g343 hM hE a hA
        refine L1 (e_store (g := g343) (off := 0) (cur := (pHash.enc (Vector.replicate 32 0 : Vector Int 32))) (cs' := (pHash.enc (l_1.getD t332.toNat (Vector.replicate 32 0 : Vector Int 32)))) hM .z Try.sizeOf38 hA rfl (by simp [add_mk]) rfl (agg_size _ _) (agg_one _ _) (Nat.le_of_ble_eq_true (enc_fitL _ _ rfl)) (spl_all (by first | rfl | simp [Value.cells, Pl.len])) ?_)
        clear hM hA; intro w346 hM hE a hA
        refine LQ ?_
        refine TN ?_
        refine wp_seq ?_
        refine wp_region_lit ?_
        refine L1 (stv hA (by decide) (run_move (hA.ev rfl)) ?_)
        clear hA; intro a hA
        refine L1 (stv hA (by decide) (run_ld (hA.ev rfl) (run_loadP Try.isAgg38 Try.sizeOf38 (hM.box .z))) ?_)
        clear hA; intro a hA
        refine L1 (stv hA (by decide) (run_look2 (m := mp263) (k := (l_1.getD t332.toNat (Vector.replicate 32 0 : Vector Int 32))) (z := (0 : Int)) (ev' := (fun x => (.int .i64 x))) (key38) Try.underlying59 zero3 rfl (hA.ev rfl) (hA.ev rfl) (hM.map (.s .z))) ?_)
        clear hA; intro a hA
        refine L1 (stv hA (by decide) (run_move (hA.ev rfl)) ?_)
        clear hA; intro a hA
        refine L1 (stv hA (by decide) (run_ext (hA.ev rfl) rfl) ?_)
        clear hA; intro a hA
        refine L1 (stv hA (by decide) (run_ext (hA.ev rfl) rfl) ?_)
        clear hA; intro a hA
        refine L1 (stv hA (by decide) (run_assign (hA.ev rfl)) ?_)
        clear hA; intro a hA
        refine L1 (stv hA (by decide) (run_assign (hA.ev rfl)) ?_)
        clear hA; intro a hA
        refine LQ ?_
        refine TN ?_
        refine wp_seq ?_
        refine wp_region_lit ?_
        refine L1 (stv hA (by decide) (run_move (hA.ev rfl)) ?_)
        clear hA; intro a hA
        refine LQ ?_
        refine TN ?_
        refine tcond (b := ((mget mp263 (l_1.getD t332.toNat (Vector.replicate 32 0 : Vector Int 32))).isSome)) hA rfl (fun hb347 => ?_) (fun hb347 => ?_)
        · replace H333 := ite_t hb347 H333
          refine wp_seq ?_
          refine wp_region_lit ?_
          refine L1 (stv hA (by decide) (run_move (hA.ev rfl)) ?_)
          clear hA; intro a hA
          refine L1 (stv hA (by decide) (run_assign (hA.ev rfl)) ?_)
          clear hA; intro a hA
          refine LQ ?_
          refine TN ?_
          refine wp_ret ?_
          obtain rfl := Option.some.inj H333
          dsimp only at H
          obtain rfl := Option.some.inj H
          refine BR ?_
          refine TR ?_
          refine TR ?_
          refine BR ?_
          refine TR ?_
          refine TR ?_
          exact ret_post1 (fn := Try.f21) hA rfl rfl ⟨_, rfl, rfl, (hM.sel [] rfl (by decide))⟩
        · replace H333 := ite_f hb347 H333
          refine wp_skip ?_
          refine BN ?_
          refine TN ?_
          refine wp_region_lit ?_
          refine L1 (stv hA (by decide) (run_bin (hA.ev rfl) (hA.ev rfl) (bin_add _ _ _ _)) ?_)
          clear hA; intro a hA
          refine L1 (stv hA (by decide) (run_move (hA.ev rfl)) ?_)
          clear hA; intro a hA
          refine LQ ?_
          exact ⟨_, Nat.lt_succ_self m335, IntKind.i64.wrap (t332 + 1), H333, (hM.sel [1] rfl (by decide)), ((((hA.nil.cons (hA.get 40 _ rfl)).cons (hA.get 39 _ rfl)).cons (hA.get 38 _ rfl)).cons (hA.get 5 _ rfl))⟩
      · replace H333 := ite_f hb337 H333
        refine wp_exit ?_
        refine TX ?_
        refine TX ?_
        refine BX ?_
        exact ⟨Option.some.inj H333, (hM.sel [] rfl (by decide)), hA.nil⟩
    clear hM hA
    rintro a w348 ⟨rfl, hM, hA⟩
    try dsimp only at H
    refine TN ?_
    refine wp_seq ?_
    refine wp_region_lit ?_
    refine L1 (stv hA (by decide) (run_assign (hA.ev rfl)) ?_)
    clear hA; intro a hA
    refine LQ ?_
    refine TN ?_
    refine wp_ret ?_
    obtain rfl := Option.some.inj H
    exact ret_post1 (fn := Try.f21) hA rfl rfl ⟨_, rfl, rfl, hM⟩

def law16_BranchMeetsNear.f (k : Nat) (l_0 : (List Int)) (n_1 : Int) : Option Bool := ((law16_sane.f k ).bind fun r82 => (if (!r82) = true then (some false) else ((law16_line.f k l_0).bind fun r86 => (if ¬ ((r86.Nodes.length : Nat) : Int) = 0 then ((branch_Fork.f k (Tree.mk r86.Nodes r86.Best) ((IntKind.i64.wrap n_1).tmod ((r86.Nodes.length : Nat) : Int)) r86.Best).bind fun r100 => (if 0 ≤ r100 ∧ r100 < ((r86.Nodes.length : Nat) : Int) then ((branch_Locator.f k (Tree.mk r86.Nodes r86.Best) ((IntKind.i64.wrap n_1).tmod ((r86.Nodes.length : Nat) : Int))).bind fun r110 => ((branch_Meet.f k (Tree.mk r86.Nodes r86.Best) r110).bind fun r116 => (Option.bind (α := Bool) (if (decide (r116 < 0)) = true then (some true) else (some (decide (r116 ≥ ((r86.Nodes.length : Nat) : Int))))) (fun t125 => (if t125 = true then (some false) else (if 0 ≤ r116 ∧ r116 < ((r86.Nodes.length : Nat) : Int) then (Option.bind (α := Bool) ((branch_Ancestor.f k (Tree.mk r86.Nodes r86.Best) ((IntKind.i64.wrap n_1).tmod ((r86.Nodes.length : Nat) : Int)) ((r86.Nodes.getD r116.toNat Node.z).Height)).bind fun r151 => (if (r151 == r116) = true then (if (decide (((r86.Nodes.getD r116.toNat Node.z).Height) ≤ ((r86.Nodes.getD r100.toNat Node.z).Height))) = true then (if (((r86.Nodes.getD r116.toNat Node.z).Height) == 0) = true then (some true) else (if 0 ≤ ((IntKind.i64.wrap n_1).tmod ((r86.Nodes.length : Nat) : Int)) ∧ ((IntKind.i64.wrap n_1).tmod ((r86.Nodes.length : Nat) : Int)) < ((r86.Nodes.length : Nat) : Int) then (some (decide (((r86.Nodes.getD r116.toNat Node.z).Height) ≥ (IntKind.i64.wrap (((r86.Nodes.getD r100.toNat Node.z).Height) - (IntKind.i64.wrap (((r86.Nodes.getD ((IntKind.i64.wrap n_1).tmod ((r86.Nodes.length : Nat) : Int)).toNat Node.z).Height) - ((r86.Nodes.getD r100.toNat Node.z).Height)))))))) else none)) else (some false)) else (some false))) (fun t148 => (some t148))) else none)))))) else none)) else none))))
set_option maxRecDepth 100000 in
theorem law16_BranchMeetsNear.calls (k : Nat) (l_0 : (List Int)) (n_1 : Int) (F : List (Option Nat)) (v0 : Value) (r : Bool) (w0 : World) (h0 : RoV F (Pl.int .u8) w0 v0 l_0) (hM : Mem F w0 w0 []) (H : law16_BranchMeetsNear.f k l_0 n_1 = some r) :
    Calls Try.prog 7 #[v0, (.int .u8 n_1)] w0 fun e w' => ∃ v, e = .returned v ∧ v = (.bool r) ∧ Mem F w0 w' [] := by
  unfold law16_BranchMeetsNear.f at H
  obtain ⟨A0, c0, rfl, hr0, hc0⟩ := h0
  refine enterL (n := 79) [(.slice A0 l_0.length c0), (.int .u8 n_1)] Try.func7 rfl rfl rfl ?_
  intro a hA
  refine wp_seq ?_
  refine wp_region_lit ?_
  refine L1 (stv hA (by decide) (run_assign (hA.ev rfl)) ?_)
  clear hA; intro a hA
  refine LQ ?_
  refine TN ?_
  refine wp_seq ?_
  refine wp_seq ?_
  refine wp_region_lit ?_
  obtain ⟨r82, H83, H⟩ := Option.bind_eq_some_iff.1 H
  refine L1 (st_call Try.call8 hA [] rfl (by decide) (law16_sane.calls _ _ _ _ (hM.front (Ms := [])) H83) ?_)
  clear hA; rintro _ w84 ⟨rfl, hMc⟩ a hA
  have hE := hMc.below; have hM := hM.call (Ms := []) hMc
  clear hMc; simp only [List.cons_append, List.nil_append] at hM
  refine L1 (stv hA (by decide) (run_not (hA.ev rfl)) ?_)
  clear hA; intro a hA
  refine LQ ?_
  refine TN ?_
  refine tcond (b := (!r82)) hA rfl (fun hb85 => ?_) (fun hb85 => ?_)
  · replace H := ite_t hb85 H
    refine wp_seq ?_
    refine wp_region_lit ?_
    refine L1 (stv hA (by decide) (run_assign (hA.ev rfl)) ?_)
    clear hA; intro a hA
    refine LQ ?_
    refine TN ?_
    refine wp_ret ?_
    obtain rfl := Option.some.inj H
    refine TR ?_
    exact ret_post1 (fn := Try.f7) hA rfl rfl ⟨_, rfl, rfl, hM⟩
  · replace H := ite_f hb85 H
    refine wp_skip ?_
    refine TN ?_
    refine wp_seq ?_
    refine wp_region_lit ?_
    refine L1 (stv hA (by decide) (run_move (hA.ev rfl)) ?_)
    clear hA; intro a hA
    obtain ⟨r86, H87, H⟩ := Option.bind_eq_some_iff.1 H
    refine L1 (st_call Try.call10 hA [(.slice A0 l_0.length c0)] rfl (by decide) (law16_line.calls _ _ _ _ _ _ ((RoV.mk (hM.roC (Ms := []) hr0) (Eq.refl l_0.length) hc0)) (hM.front (Ms := [])) H87) ?_)
    clear hA; rintro _ w88 ⟨v89, rfl, hMc⟩ a hA
    have hE := hMc.below; have hM := hM.call (Ms := []) hMc
    clear hMc; simp only [List.cons_append, List.nil_append] at hM
    obtain ⟨A91, c92, rfl⟩ := RowOk.form (hM.row (p := pNode) .z)
    refine L1 (e_alloc (cs := [(.slice none 0 0), (.int .i64 0)]) hM zero24 rfl hA (by decide) ?_)
    clear hM hA; intro w94 g93 hM hE a hA
    refine L1 (e_store (g := g93) (off := 0) (cur := [(.slice none 0 0), (.int .i64 0)]) (cs' := [(.slice A91 r86.Nodes.length c92), (.int .i64 r86.Best)]) hM .z Try.sizeOf24 hA rfl (by simp [add_mk]) rfl (by first | rfl | simp [Value.cells, Pl.len]) (by simp [Value.cells, Value.oneCell']) (by first | exact Nat.le_of_ble_eq_true rfl | (simp [Pl.len]; done)) (spl_all (by first | rfl | simp [Value.cells, Pl.len])) ?_)
    clear hM hA; intro w96 hM hE a hA
    refine LQ ?_
    refine TN ?_
    refine wp_seq ?_
    refine wp_region_lit ?_
    refine L1 (stv hA (by decide) (run_move (hA.ev rfl)) ?_)
    clear hA; intro a hA
    refine L1 (stv hA (by decide) (run_conv Try.underlying5 Try.underlying3 (hA.ev rfl)) ?_)
    clear hA; intro a hA
    refine L1 (stv hA (by decide) (run_field' Try.underlying24 rfl rfl Try.sizeOf22 (by decide) (hA.ev rfl)) ?_)
    clear hA; intro a hA
    refine L1 (stv hA (by decide) (run_ld (hA.ev rfl) (run_loadS Try.isAgg22 (At.seg1 (hM.box .z) 0 rfl))) ?_)
    clear hA; intro a hA
    refine L1 (stv hA (by decide) (run_len_slice Try.underlying22 (hA.ev rfl)) ?_)
    clear hA; intro a hA
    obtain ⟨hd97, H⟩ := ite_some H
    refine L1 (stv hA (by decide) (run_bin (hA.ev rfl) (hA.ev rfl) (bin_rem _ _ _ _ hd97)) ?_)
    clear hA; intro a hA
    refine L1 (stv hA (by decide) (run_assign (hA.ev rfl)) ?_)
    clear hA; intro a hA
    refine LQ ?_
    refine TN ?_
    refine wp_seq ?_
    refine draw (fun w' => Below w96.heap.size w96 w') [] rfl ?_
    intro w98 hw hS; replace hM := hM.ext hS; clear hw
    refine d_takef (i := 0) (L' := #[true, false, false, false, false, false, false, false, false, false, false]) rfl (by kernel_rfl) rfl (fun _ _ _ h => h) hA (by decide) (fun _ => hS) (fun a w' hA => run_field' Try.underlying24 rfl rfl Try.sizeOf22 (by decide) (hA.ev rfl)) ?_; clear hA; intro a hA
    refine rebase hS ?_; clear hS; intro hS
    refine d_take (i := 1) (L' := #[true, true, false, false, false, false, false, false, false, false, false]) rfl (by kernel_rfl) rfl (fun _ _ _ h => h) hA (by decide) rfl hS (fun a w' hA hS' => run_ld (hA.ev rfl) (run_loadS Try.isAgg22 ((At.seg1 (hM.box .z) 0 rfl).extB hS'))) ?_; clear hA; intro a hA
    refine d_take (i := 2) (L' := #[true, true, true, false, false, false, false, false, false, false, false]) rfl (by kernel_rfl) rfl (fun _ _ _ h => h) hA (by decide) rfl hS (fun a w' hA hS' => run_ld (hA.ev rfl) (run_loadW Try.isAgg24 Try.sizeOf24 (by simp [Pl.len]; try rfl) ((hM.box .z).extB hS'))) ?_; clear hA; intro a hA
    refine d_takef (i := 3) (L' := #[true, true, true, true, false, false, false, false, false, false, false]) rfl (by kernel_rfl) rfl (fun _ _ _ h => h) hA (by decide) (fun _ => hS) (fun a w' hA => run_move (hA.ev rfl)) ?_; clear hA; intro a hA
    refine d_takef (i := 4) (L' := #[true, true, true, true, true, false, false, false, false, false, false]) rfl (by kernel_rfl) rfl (fun _ _ _ h => h) hA (by decide) (fun _ => hS) (fun a w' hA => run_field' Try.underlying24 rfl rfl Try.sizeOf3 (by decide) (hA.ev rfl)) ?_; clear hA; intro a hA
    refine d_take (i := 5) (L' := #[true, true, true, true, true, true, false, false, false, false, false]) rfl (by kernel_rfl) rfl (fun _ _ _ h => h) hA (by decide) rfl hS (fun a w' hA hS' => run_ld (hA.ev rfl) (run_loadS Try.isAgg3 ((At.seg1 (hM.box .z) 1 rfl).extB hS'))) ?_; clear hA; intro a hA
    obtain ⟨r100, H101, H⟩ := Option.bind_eq_some_iff.1 H
    refine d_one (i := 6) (L' := #[true, true, true, true, true, true, true, false, false, false, false]) (by kernel_rfl) rfl rfl (st_call Try.call16 hA [(.agg #[(.slice A91 r86.Nodes.length c92), (.int .i64 r86.Best)]), (.int .i64 ((IntKind.i64.wrap n_1).tmod ((r86.Nodes.length : Nat) : Int))), (.int .i64 r86.Best)] rfl (by decide) (branch_Fork.calls _ _ _ _ _ _ _ _ ((RoV.mk (hM.rowC (p := pNode) (Ms := []) (.s .z)) (RowOk.len (hM.row (p := pNode) (.s .z))) (RowOk.cap (hM.row (p := pNode) (.s .z))))) (hM.front (Ms := [])) H101) ?_)
    clear hA; rintro _ w102 ⟨rfl, hMc⟩ a hA
    have hE := hMc.below; have hM := hM.call (Ms := []) hMc
    clear hMc; simp only [List.cons_append, List.nil_append] at hM
    replace hS := hS.trans (hE.mono hS.size)
    refine ⟨fun _ => hS, ?_⟩
    obtain ⟨⟨hi103, hj104⟩, H⟩ := ite_some H
    obtain ⟨ad105, hq106, hat107⟩ := Row.elem' (p := pNode) (RowOk.row (hM.row (p := pNode) (.s .z))) (RowOk.len (hM.row (p := pNode) (.s .z))) Node.z r100 hi103 hj104
    refine d_takef (i := 7) (L' := #[true, true, true, true, true, true, true, true, false, false, false]) rfl (by kernel_rfl) rfl (fun _ _ _ h => h) hA (by decide) (fun _ => hS) (fun a w' hA => run_idx Try.underlying22 Try.sizeOf46 (hA.ev rfl) hq106 (hA.ev rfl) hi103 hj104) ?_; clear hA; intro a hA
    refine d_takef (i := 8) (L' := #[true, true, true, true, true, true, true, true, true, false, false]) rfl (by kernel_rfl) rfl (fun _ _ _ h => h) hA (by decide) (fun _ => hS) (fun a w' hA => run_field' Try.underlying46 rfl rfl Try.sizeOf3 (by decide) (hA.ev rfl)) ?_; clear hA; intro a hA
    refine rebase hS ?_; clear hS; intro hS
    refine d_take (i := 9) (L' := #[true, true, true, true, true, true, true, true, true, true, false]) rfl (by kernel_rfl) rfl (fun _ _ _ h => h) hA (by decide) rfl hS (fun a w' hA hS' => run_ld (hA.ev rfl) (run_loadS Try.isAgg3 ((Node.at_Height (hat107)).extB hS'))) ?_; clear hA; intro a hA
    refine d_takef (i := 10) (L' := #[true, true, true, true, true, true, true, true, true, true, true]) rfl (by kernel_rfl) rfl (fun _ _ _ h => h) hA (by decide) (fun _ => hS) (fun a w' hA => run_assign (hA.ev rfl)) ?_; clear hA; intro a hA
    refine d_done (by kernel_rfl) ?_
    refine TN ?_
    refine wp_seq ?_
    refine draw (fun w' => Below w102.heap.size w102 w') [] rfl ?_
    intro w108 hw hS; replace hM := hM.ext hS; clear hw
    refine rebase hS ?_; clear hS; intro hS
    refine d_take (i := 0) (L' := #[true, false, false, false, false, false]) rfl (by kernel_rfl) rfl (fun _ _ _ h => h) hA (by decide) rfl hS (fun a w' hA hS' => run_ld (hA.ev rfl) (run_loadW Try.isAgg24 Try.sizeOf24 (by simp [Pl.len]; try rfl) ((hM.box .z).extB hS'))) ?_; clear hA; intro a hA
    refine d_take (i := 1) (L' := #[true, true, false, false, false, false]) rfl (by kernel_rfl) rfl (fun _ _ _ h => h) hA (by decide) rfl hS (fun a w' hA hS' => run_ld (hA.ev rfl) (run_loadW Try.isAgg24 Try.sizeOf24 (by simp [Pl.len]; try rfl) ((hM.box .z).extB hS'))) ?_; clear hA; intro a hA
    refine d_takef (i := 2) (L' := #[true, true, true, false, false, false]) rfl (by kernel_rfl) rfl (fun _ _ _ h => h) hA (by decide) (fun _ => hS) (fun a w' hA => run_move (hA.ev rfl)) ?_; clear hA; intro a hA
    obtain ⟨r110, H111, H⟩ := Option.bind_eq_some_iff.1 H
    refine d_one (i := 3) (L' := #[true, true, true, true, false, false]) (by kernel_rfl) rfl rfl (st_call Try.call18 hA [(.agg #[(.slice A91 r86.Nodes.length c92), (.int .i64 r86.Best)]), (.int .i64 ((IntKind.i64.wrap n_1).tmod ((r86.Nodes.length : Nat) : Int)))] rfl (by decide) (branch_Locator.calls _ _ _ _ _ _ _ ((RoV.mk (hM.rowC (p := pNode) (Ms := []) (.s .z)) (RowOk.len (hM.row (p := pNode) (.s .z))) (RowOk.cap (hM.row (p := pNode) (.s .z))))) (hM.front (Ms := [])) H111) ?_)
    clear hA; rintro _ w112 ⟨v113, rfl, hMc⟩ a hA
    have hE := hMc.below; have hM := hM.call (Ms := []) hMc
    clear hMc; simp only [List.cons_append, List.nil_append] at hM
    obtain ⟨A114, c115, rfl⟩ := RowOk.form (hM.row (p := pHash) .z)
    replace hS := hS.trans (hE.mono hS.size)
    refine ⟨fun _ => hS, ?_⟩
    obtain ⟨r116, H117, H⟩ := Option.bind_eq_some_iff.1 H
    refine d_one (i := 4) (L' := #[true, true, true, true, true, false]) (by kernel_rfl) rfl rfl (st_call Try.call21 hA [(.agg #[(.slice A91 r86.Nodes.length c92), (.int .i64 r86.Best)]), (.slice A114 r110.length c115)] rfl (by decide) (branch_Meet.calls _ _ _ _ _ _ _ _ ((RoV.mk (hM.rowC (p := pNode) (Ms := []) (.s (.s .z))) (RowOk.len (hM.row (p := pNode) (.s (.s .z)))) (RowOk.cap (hM.row (p := pNode) (.s (.s .z)))))) ((RoV.mk (hM.rowC (p := pHash) (Ms := []) .z) (RowOk.len (hM.row (p := pHash) .z)) (RowOk.cap (hM.row (p := pHash) .z)))) (hM.front (Ms := [])) H117) ?_)
    clear hA; rintro _ w118 ⟨rfl, hMc⟩ a hA
    have hE := hMc.below; have hM := hM.call (Ms := []) hMc
    clear hMc; simp only [List.cons_append, List.nil_append] at hM
    replace hS := hS.trans (hE.mono hS.size)
    refine ⟨fun _ => hS, ?_⟩
    refine d_takef (i := 5) (L' := #[true, true, true, true, true, true]) rfl (by kernel_rfl) rfl (fun _ _ _ h => h) hA (by decide) (fun _ => hS) (fun a w' hA => run_assign (hA.ev rfl)) ?_; clear hA; intro a hA
    refine d_done (by kernel_rfl) ?_
    refine TN ?_
    refine wp_seq ?_
    refine wp_seq ?_
    obtain ⟨o127, H126, H⟩ := Option.bind_eq_some_iff.1 H
    refine cutC (fun a w => ∃ (t125 : Bool), t125 = o127 ∧ Mem F w0 w [.box g93 24 [(.slice A91 r86.Nodes.length c92), (.int .i64 r86.Best)], .row 46 pNode.sz (.slice A91 r86.Nodes.length c92) (pNode.flat r86.Nodes)] ∧ Has 79 [(5, (.pointer (some (⟨g93, 0, none⟩)))), (6, (.int .i64 ((IntKind.i64.wrap n_1).tmod ((r86.Nodes.length : Nat) : Int)))), (7, (.int .i64 ((r86.Nodes.getD r100.toNat Node.z).Height))), (8, (.int .i64 r116)), (43, (.bool t125))] a) ?_ ?_
    · refine wp_region_lit ?_
      refine L1 (stv hA (by decide) (run_move (hA.ev rfl)) ?_)
      clear hA; intro a hA
      refine L1 (stv hA (by decide) (run_bin (hA.ev rfl) (hA.ev rfl) (bin_lss _ _ _ _)) ?_)
      clear hA; intro a hA
      refine L1 (stv hA (by decide) (run_move (hA.ev rfl)) ?_)
      clear hA; intro a hA
      refine bsplit (b := (decide (r116 < 0))) (fun hb128 => ?_) (fun hb128 => ?_)
      · replace H126 := ite_t hb128 H126
        have hA := hA.re (t := 37) rfl (congrArg Value.bool hb128)
        refine L1 (gate_off rfl (by decide) rfl hA (by decide) rfl rfl ?_); clear hA; intro a hA
        refine L1 (gate_off rfl (by decide) rfl hA (by decide) rfl rfl ?_); clear hA; intro a hA
        refine L1 (gate_off rfl (by decide) rfl hA (by decide) rfl rfl ?_); clear hA; intro a hA
        refine L1 (gate_off rfl (by decide) rfl hA (by decide) rfl rfl ?_); clear hA; intro a hA
        refine L1 (gate_off rfl (by decide) rfl hA (by decide) rfl rfl ?_); clear hA; intro a hA
        refine L1 (stv hA (by decide) (run_pick (hA.ev rfl) (fun _ => hA.ev rfl) (fun h => Bool.noConfusion h)) ?_)
        clear hA; intro a hA
        refine LQ ?_
        exact ⟨true, Option.some.inj H126, (hM.sel [1, 2] rfl (by decide)), (((((hA.nil.cons (hA.get 43 _ rfl)).cons (hA.get 8 _ rfl)).cons (hA.get 7 _ rfl)).cons (hA.get 6 _ rfl)).cons (hA.get 5 _ rfl))⟩
      · replace H126 := ite_f hb128 H126
        have hA := hA.re (t := 37) rfl (congrArg Value.bool hb128)
        refine L1 (gate_on rfl rfl hA (by decide) rfl (stv hA (by decide) (run_move (hA.ev rfl)) ?_))
        clear hA; intro a hA
        refine L1 (gate_on rfl rfl hA (by decide) rfl (stv hA (by decide) (run_field' Try.underlying24 rfl rfl Try.sizeOf22 (by decide) (hA.ev rfl)) ?_))
        clear hA; intro a hA
        refine L1 (gate_on rfl rfl hA (by decide) rfl (stv hA (by decide) (run_ld (hA.ev rfl) (run_loadS Try.isAgg22 (At.seg1 (hM.box (.s .z)) 0 rfl))) ?_))
        clear hA; intro a hA
        refine L1 (gate_on rfl rfl hA (by decide) rfl (stv hA (by decide) (run_len_slice Try.underlying22 (hA.ev rfl)) ?_))
        clear hA; intro a hA
        refine L1 (gate_on rfl rfl hA (by decide) rfl (stv hA (by decide) (run_bin (hA.ev rfl) (hA.ev rfl) (bin_geq _ _ _ _)) ?_))
        clear hA; intro a hA
        refine L1 (stv hA (by decide) (run_pick (hA.ev rfl) (fun h => Bool.noConfusion h) (fun _ => hA.ev rfl)) ?_)
        clear hA; intro a hA
        refine LQ ?_
        exact ⟨(decide (r116 ≥ ((r86.Nodes.length : Nat) : Int))), Option.some.inj H126, (hM.sel [1, 2] rfl (by decide)), (((((hA.nil.cons (hA.get 43 _ rfl)).cons (hA.get 8 _ rfl)).cons (hA.get 7 _ rfl)).cons (hA.get 6 _ rfl)).cons (hA.get 5 _ rfl))⟩
    clear hM hA
    rintro a w129 ⟨t125, rfl, hM, hA⟩
    try dsimp only at H
    refine TN ?_
    refine tcond (b := t125) hA rfl (fun hb130 => ?_) (fun hb130 => ?_)
    · replace H := ite_t hb130 H
      refine wp_seq ?_
      refine wp_region_lit ?_
      refine L1 (stv hA (by decide) (run_assign (hA.ev rfl)) ?_)
      clear hA; intro a hA
      refine LQ ?_
      refine TN ?_
      refine wp_ret ?_
      obtain rfl := Option.some.inj H
      refine TR ?_
      exact ret_post1 (fn := Try.f7) hA rfl rfl ⟨_, rfl, rfl, (hM.sel [] rfl (by decide))⟩
    · replace H := ite_f hb130 H
      refine wp_skip ?_
      refine TN ?_
      refine wp_seq ?_
      refine wp_region_lit ?_
      refine L1 (stv hA (by decide) (run_field' Try.underlying24 rfl rfl Try.sizeOf22 (by decide) (hA.ev rfl)) ?_)
      clear hA; intro a hA
      refine L1 (stv hA (by decide) (run_ld (hA.ev rfl) (run_loadS Try.isAgg22 (At.seg1 (hM.box .z) 0 rfl))) ?_)
      clear hA; intro a hA
      refine L1 (stv hA (by decide) (run_move (hA.ev rfl)) ?_)
      clear hA; intro a hA
      obtain ⟨⟨hi131, hj132⟩, H⟩ := ite_some H
      obtain ⟨ad133, hq134, hat135⟩ := Row.elem' (p := pNode) (RowOk.row (hM.row (p := pNode) (.s .z))) (RowOk.len (hM.row (p := pNode) (.s .z))) Node.z r116 hi131 hj132
      refine L1 (stv hA (by decide) (run_idx Try.underlying22 Try.sizeOf46 (hA.ev rfl) hq134 (hA.ev rfl) hi131 hj132) ?_)
      clear hA; intro a hA
      refine L1 (stv hA (by decide) (run_field' Try.underlying46 rfl rfl Try.sizeOf3 (by decide) (hA.ev rfl)) ?_)
      clear hA; intro a hA
      refine L1 (stv hA (by decide) (run_ld (hA.ev rfl) (run_loadS Try.isAgg3 (Node.at_Height (hat135)))) ?_)
      clear hA; intro a hA
      refine L1 (stv hA (by decide) (run_assign (hA.ev rfl)) ?_)
      clear hA; intro a hA
      refine LQ ?_
      refine TN ?_
      refine wp_seq ?_
      obtain ⟨o150, H149, H⟩ := Option.bind_eq_some_iff.1 H
      refine cutC (fun a w => ∃ (t148 : Bool), t148 = o150 ∧ Mem F w0 w [] ∧ Has 79 [(4, (.bool t148))] a) ?_ ?_
      · refine wp_region_lit ?_
        refine L1 (stv hA (by decide) (run_ld (hA.ev rfl) (run_loadW Try.isAgg24 Try.sizeOf24 (by simp [Pl.len]; try rfl) (hM.box .z))) ?_)
        clear hA; intro a hA
        refine L1 (stv hA (by decide) (run_move (hA.ev rfl)) ?_)
        clear hA; intro a hA
        refine L1 (stv hA (by decide) (run_move (hA.ev rfl)) ?_)
        clear hA; intro a hA
        obtain ⟨r151, H152, H149⟩ := Option.bind_eq_some_iff.1 H149
        refine L1 (st_call Try.call14 hA [(.agg #[(.slice A91 r86.Nodes.length c92), (.int .i64 r86.Best)]), (.int .i64 ((IntKind.i64.wrap n_1).tmod ((r86.Nodes.length : Nat) : Int))), (.int .i64 ((r86.Nodes.getD r116.toNat Node.z).Height))] rfl (by decide) (branch_Ancestor.calls _ _ _ _ _ _ _ _ ((RoV.mk (hM.rowC (p := pNode) (Ms := []) (.s .z)) (RowOk.len (hM.row (p := pNode) (.s .z))) (RowOk.cap (hM.row (p := pNode) (.s .z))))) (hM.front (Ms := [])) H152) ?_)
        clear hA; rintro _ w153 ⟨rfl, hMc⟩ a hA
        have hE := hMc.below; have hM := hM.call (Ms := []) hMc
        clear hMc; simp only [List.cons_append, List.nil_append] at hM
        refine L1 (stv hA (by decide) (run_move (hA.ev rfl)) ?_)
        clear hA; intro a hA
        refine L1 (stv hA (by decide) (run_bin (hA.ev rfl) (hA.ev rfl) (bin_eql _ _ _ _)) ?_)
        clear hA; intro a hA
        refine L1 (stv hA (by decide) (run_move (hA.ev rfl)) ?_)
        clear hA; intro a hA
        refine bsplit (b := (r151 == r116)) (fun hb154 => ?_) (fun hb154 => ?_)
        · replace H149 := ite_t hb154 H149
          have hA := hA.re (t := 56) rfl (congrArg Value.bool hb154)
          refine L1 (gate_on rfl rfl hA (by decide) rfl (stv hA (by decide) (run_move (hA.ev rfl)) ?_))
          clear hA; intro a hA
          refine L1 (gate_on rfl rfl hA (by decide) rfl (stv hA (by decide) (run_move (hA.ev rfl)) ?_))
          clear hA; intro a hA
          refine L1 (gate_on rfl rfl hA (by decide) rfl (stv hA (by decide) (run_bin (hA.ev rfl) (hA.ev rfl) (bin_leq _ _ _ _)) ?_))
          clear hA; intro a hA
          refine L1 (stv hA (by decide) (run_pick (hA.ev rfl) (fun _ => hA.ev rfl) (fun h => Bool.noConfusion h)) ?_)
          clear hA; intro a hA
          refine L1 (stv hA (by decide) (run_move (hA.ev rfl)) ?_)
          clear hA; intro a hA
          refine bsplit (b := (decide (((r86.Nodes.getD r116.toNat Node.z).Height) ≤ ((r86.Nodes.getD r100.toNat Node.z).Height)))) (fun hb155 => ?_) (fun hb155 => ?_)
          · replace H149 := ite_t hb155 H149
            have hA := hA.re (t := 61) rfl (congrArg Value.bool hb155)
            refine L1 (gate_on rfl rfl hA (by decide) rfl (stv hA (by decide) (run_move (hA.ev rfl)) ?_))
            clear hA; intro a hA
            refine L1 (gate_on rfl rfl hA (by decide) rfl (stv hA (by decide) (run_bin (hA.ev rfl) (hA.ev rfl) (bin_eql _ _ _ _)) ?_))
            clear hA; intro a hA
            refine L1 (gate_on rfl rfl hA (by decide) rfl (stv hA (by decide) (run_move (hA.ev rfl)) ?_))
            clear hA; intro a hA
            refine bsplit (b := (((r86.Nodes.getD r116.toNat Node.z).Height) == 0)) (fun hb156 => ?_) (fun hb156 => ?_)
            · replace H149 := ite_t hb156 H149
              have hA := hA.re (t := 64) rfl (congrArg Value.bool hb156)
              refine L1 (gate_off rfl (by decide) rfl hA (by decide) rfl rfl ?_); clear hA; intro a hA
              refine L1 (gate_off rfl (by decide) rfl hA (by decide) rfl rfl ?_); clear hA; intro a hA
              refine L1 (gate_off rfl (by decide) rfl hA (by decide) rfl rfl ?_); clear hA; intro a hA
              refine L1 (gate_off rfl (by decide) rfl hA (by decide) rfl rfl ?_); clear hA; intro a hA
              refine L1 (gate_off rfl (by decide) rfl hA (by decide) rfl rfl ?_); clear hA; intro a hA
              refine L1 (gate_off rfl (by decide) rfl hA (by decide) rfl rfl ?_); clear hA; intro a hA
              refine L1 (gate_off rfl (by decide) rfl hA (by decide) rfl rfl ?_); clear hA; intro a hA
              refine L1 (gate_off rfl (by decide) rfl hA (by decide) rfl rfl ?_); clear hA; intro a hA
              refine L1 (gate_off rfl (by decide) rfl hA (by decide) rfl rfl ?_); clear hA; intro a hA
              refine L1 (gate_off rfl (by decide) rfl hA (by decide) rfl rfl ?_); clear hA; intro a hA
              refine L1 (gate_off rfl (by decide) rfl hA (by decide) rfl rfl ?_); clear hA; intro a hA
              refine L1 (gate_off rfl (by decide) rfl hA (by decide) rfl rfl ?_); clear hA; intro a hA
              refine L1 (gate_on rfl rfl hA (by decide) rfl (stv hA (by decide) (run_pick (hA.ev rfl) (fun _ => hA.ev rfl) (fun h => Bool.noConfusion h)) ?_))
              clear hA; intro a hA
              refine L1 (stv hA (by decide) (run_pick (hA.ev rfl) (fun _ => hA.ev rfl) (fun h => Bool.noConfusion h)) ?_)
              clear hA; intro a hA
              refine L1 (stv hA (by decide) (run_assign (hA.ev rfl)) ?_)
              clear hA; intro a hA
              refine LQ ?_
              exact ⟨true, Option.some.inj H149, (hM.sel [] rfl (by decide)), (hA.nil.cons (hA.get 4 _ rfl))⟩
            · replace H149 := ite_f hb156 H149
              have hA := hA.re (t := 64) rfl (congrArg Value.bool hb156)
              refine L1 (gate_on rfl rfl hA (by decide) rfl (stv hA (by decide) (run_move (hA.ev rfl)) ?_))
              clear hA; intro a hA
              refine L1 (gate_on rfl rfl hA (by decide) rfl (stv hA (by decide) (run_move (hA.ev rfl)) ?_))
              clear hA; intro a hA
              refine L1 (gate_on rfl rfl hA (by decide) rfl (stv hA (by decide) (run_field' Try.underlying24 rfl rfl Try.sizeOf22 (by decide) (hA.ev rfl)) ?_))
              clear hA; intro a hA
              refine L1 (gate_on rfl rfl hA (by decide) rfl (stv hA (by decide) (run_ld (hA.ev rfl) (run_loadS Try.isAgg22 (At.seg1 (hM.box .z) 0 rfl))) ?_))
              clear hA; intro a hA
              refine L1 (gate_on rfl rfl hA (by decide) rfl (stv hA (by decide) (run_move (hA.ev rfl)) ?_))
              clear hA; intro a hA
              obtain ⟨⟨hi157, hj158⟩, H149⟩ := ite_some H149
              obtain ⟨ad159, hq160, hat161⟩ := Row.elem' (p := pNode) (RowOk.row (hM.row (p := pNode) (.s .z))) (RowOk.len (hM.row (p := pNode) (.s .z))) Node.z ((IntKind.i64.wrap n_1).tmod ((r86.Nodes.length : Nat) : Int)) hi157 hj158
              refine L1 (gate_on rfl rfl hA (by decide) rfl (stv hA (by decide) (run_idx Try.underlying22 Try.sizeOf46 (hA.ev rfl) hq160 (hA.ev rfl) hi157 hj158) ?_))
              clear hA; intro a hA
              refine L1 (gate_on rfl rfl hA (by decide) rfl (stv hA (by decide) (run_field' Try.underlying46 rfl rfl Try.sizeOf3 (by decide) (hA.ev rfl)) ?_))
              clear hA; intro a hA
              refine L1 (gate_on rfl rfl hA (by decide) rfl (stv hA (by decide) (run_ld (hA.ev rfl) (run_loadS Try.isAgg3 (Node.at_Height (hat161)))) ?_))
              clear hA; intro a hA
              refine L1 (gate_on rfl rfl hA (by decide) rfl (stv hA (by decide) (run_move (hA.ev rfl)) ?_))
              clear hA; intro a hA
              refine L1 (gate_on rfl rfl hA (by decide) rfl (stv hA (by decide) (run_bin (hA.ev rfl) (hA.ev rfl) (bin_sub _ _ _ _)) ?_))
              clear hA; intro a hA
              refine L1 (gate_on rfl rfl hA (by decide) rfl (stv hA (by decide) (run_bin (hA.ev rfl) (hA.ev rfl) (bin_sub _ _ _ _)) ?_))
              clear hA; intro a hA
              refine L1 (gate_on rfl rfl hA (by decide) rfl (stv hA (by decide) (run_bin (hA.ev rfl) (hA.ev rfl) (bin_geq _ _ _ _)) ?_))
              clear hA; intro a hA
              refine L1 (gate_on rfl rfl hA (by decide) rfl (stv hA (by decide) (run_pick (hA.ev rfl) (fun h => Bool.noConfusion h) (fun _ => hA.ev rfl)) ?_))
              clear hA; intro a hA
              refine L1 (stv hA (by decide) (run_pick (hA.ev rfl) (fun _ => hA.ev rfl) (fun h => Bool.noConfusion h)) ?_)
              clear hA; intro a hA
              refine L1 (stv hA (by decide) (run_assign (hA.ev rfl)) ?_)
              clear hA; intro a hA
              refine LQ ?_
              exact ⟨(decide (((r86.Nodes.getD r116.toNat Node.z).Height) ≥ (IntKind.i64.wrap (((r86.Nodes.getD r100.toNat Node.z).Height) - (IntKind.i64.wrap (((r86.Nodes.getD ((IntKind.i64.wrap n_1).tmod ((r86.Nodes.length : Nat) : Int)).toNat Node.z).Height) - ((r86.Nodes.getD r100.toNat Node.z).Height))))))), Option.some.inj H149, (hM.sel [] rfl (by decide)), (hA.nil.cons (hA.get 4 _ rfl))⟩
          · replace H149 := ite_f hb155 H149
            have hA := hA.re (t := 61) rfl (congrArg Value.bool hb155)
            refine L1 (gate_off rfl (by decide) rfl hA (by decide) rfl rfl ?_); clear hA; intro a hA
            refine L1 (gate_off rfl (by decide) rfl hA (by decide) rfl rfl ?_); clear hA; intro a hA
            refine L1 (gate_off rfl (by decide) rfl hA (by decide) rfl rfl ?_); clear hA; intro a hA
            refine L1 (gate_undef rfl (by decide) rfl hA (by decide) rfl ?_); clear hA; intro a hA
            refine L1 (gate_undef rfl (by decide) rfl hA (by decide) rfl ?_); clear hA; intro a hA
            refine L1 (gate_undef rfl (by decide) rfl hA (by decide) rfl ?_); clear hA; intro a hA
            refine L1 (gate_undef rfl (by decide) rfl hA (by decide) rfl ?_); clear hA; intro a hA
            refine L1 (gate_undef rfl (by decide) rfl hA (by decide) rfl ?_); clear hA; intro a hA
            refine L1 (gate_undef rfl (by decide) rfl hA (by decide) rfl ?_); clear hA; intro a hA
            refine L1 (gate_undef rfl (by decide) rfl hA (by decide) rfl ?_); clear hA; intro a hA
            refine L1 (gate_undef rfl (by decide) rfl hA (by decide) rfl ?_); clear hA; intro a hA
            refine L1 (gate_undef rfl (by decide) rfl hA (by decide) rfl ?_); clear hA; intro a hA
            refine L1 (gate_undef rfl (by decide) rfl hA (by decide) rfl ?_); clear hA; intro a hA
            refine L1 (gate_undef rfl (by decide) rfl hA (by decide) rfl ?_); clear hA; intro a hA
            refine L1 (gate_undef rfl (by decide) rfl hA (by decide) rfl ?_); clear hA; intro a hA
            refine L1 (gate_off rfl (by decide) rfl hA (by decide) rfl rfl ?_); clear hA; intro a hA
            refine L1 (stv hA (by decide) (run_pick (hA.ev rfl) (fun h => Bool.noConfusion h) (fun _ => hA.ev rfl)) ?_)
            clear hA; intro a hA
            refine L1 (stv hA (by decide) (run_assign (hA.ev rfl)) ?_)
            clear hA; intro a hA
            refine LQ ?_
            exact ⟨false, Option.some.inj H149, (hM.sel [] rfl (by decide)), (hA.nil.cons (hA.get 4 _ rfl))⟩
        · replace H149 := ite_f hb154 H149
          have hA := hA.re (t := 56) rfl (congrArg Value.bool hb154)
          refine L1 (gate_off rfl (by decide) rfl hA (by decide) rfl rfl ?_); clear hA; intro a hA
          refine L1 (gate_off rfl (by decide) rfl hA (by decide) rfl rfl ?_); clear hA; intro a hA
          refine L1 (gate_off rfl (by decide) rfl hA (by decide) rfl rfl ?_); clear hA; intro a hA
          refine L1 (stv hA (by decide) (run_pick (hA.ev rfl) (fun h => Bool.noConfusion h) (fun _ => hA.ev rfl)) ?_)
          clear hA; intro a hA
          refine L1 (stv hA (by decide) (run_move (hA.ev rfl)) ?_)
          clear hA; intro a hA
          refine L1 (gate_off rfl (by decide) rfl hA (by decide) rfl rfl ?_); clear hA; intro a hA
          refine L1 (gate_off rfl (by decide) rfl hA (by decide) rfl rfl ?_); clear hA; intro a hA
          refine L1 (gate_off rfl (by decide) rfl hA (by decide) rfl rfl ?_); clear hA; intro a hA
          refine L1 (gate_undef rfl (by decide) rfl hA (by decide) rfl ?_); clear hA; intro a hA
          refine L1 (gate_undef rfl (by decide) rfl hA (by decide) rfl ?_); clear hA; intro a hA
          refine L1 (gate_undef rfl (by decide) rfl hA (by decide) rfl ?_); clear hA; intro a hA
          refine L1 (gate_undef rfl (by decide) rfl hA (by decide) rfl ?_); clear hA; intro a hA
          refine L1 (gate_undef rfl (by decide) rfl hA (by decide) rfl ?_); clear hA; intro a hA
          refine L1 (gate_undef rfl (by decide) rfl hA (by decide) rfl ?_); clear hA; intro a hA
          refine L1 (gate_undef rfl (by decide) rfl hA (by decide) rfl ?_); clear hA; intro a hA
          refine L1 (gate_undef rfl (by decide) rfl hA (by decide) rfl ?_); clear hA; intro a hA
          refine L1 (gate_undef rfl (by decide) rfl hA (by decide) rfl ?_); clear hA; intro a hA
          refine L1 (gate_undef rfl (by decide) rfl hA (by decide) rfl ?_); clear hA; intro a hA
          refine L1 (gate_undef rfl (by decide) rfl hA (by decide) rfl ?_); clear hA; intro a hA
          refine L1 (gate_undef rfl (by decide) rfl hA (by decide) rfl ?_); clear hA; intro a hA
          refine L1 (gate_off rfl (by decide) rfl hA (by decide) rfl rfl ?_); clear hA; intro a hA
          refine L1 (stv hA (by decide) (run_pick (hA.ev rfl) (fun h => Bool.noConfusion h) (fun _ => hA.ev rfl)) ?_)
          clear hA; intro a hA
          refine L1 (stv hA (by decide) (run_assign (hA.ev rfl)) ?_)
          clear hA; intro a hA
          refine LQ ?_
          exact ⟨false, Option.some.inj H149, (hM.sel [] rfl (by decide)), (hA.nil.cons (hA.get 4 _ rfl))⟩
      clear hM hA
      rintro a w162 ⟨t148, rfl, hM, hA⟩
      try dsimp only at H
      refine TN ?_
      refine wp_ret ?_
      obtain rfl := Option.some.inj H
      exact ret_post1 (fn := Try.f7) hA rfl rfl ⟨_, rfl, rfl, hM⟩

end Go.Proofs.Ytjjahfpamjmacaa.G
