/- The functions that a law of this seat reaches: what each comes to, as a plain function, and that its code comes to it. Conditions: the plain function gives a value (enough fuel, no panic). -/
import Derived.Test.YtjjahfpamjmacaaFBranchWalksx0
set_option linter.unusedVariables false
set_option linter.unusedSimpArgs false
namespace Go.Proofs.Ytjjahfpamjmacaa.G
open Go Go.RowKit Go.Proofs
def law16_sane.f (k : Nat)  : Option Bool := (if 0 ≤ (30 : Int) ∧ (30 : Int) * 1 ≤ 140737488355328 then ((law16_line.f k (List.replicate ((30 : Int).toNat) (0 : Int))).bind fun r126 => ((branch_Locator.f k (Tree.mk r126.Nodes r126.Best) 30).bind fun r137 => (Option.bind (α := Bool) (if (((r137.length : Nat) : Int) == 14) = true then (if 0 ≤ (10 : Int) ∧ (10 : Int) < ((r137.length : Nat) : Int) then (if 0 ≤ (19 : Int) ∧ (19 : Int) < ((r126.Nodes.length : Nat) : Int) then (if ((r137.getD (10 : Int).toNat (Vector.replicate 32 0 : Vector Int 32)) == ((r126.Nodes.getD (19 : Int).toNat Node.z).Hash)) = true then (if 0 ≤ (12 : Int) ∧ (12 : Int) < ((r137.length : Nat) : Int) then (if 0 ≤ (7 : Int) ∧ (7 : Int) < ((r126.Nodes.length : Nat) : Int) then (if ((r137.getD (12 : Int).toNat (Vector.replicate 32 0 : Vector Int 32)) == ((r126.Nodes.getD (7 : Int).toNat Node.z).Hash)) = true then (if 0 ≤ (13 : Int) ∧ (13 : Int) < ((r137.length : Nat) : Int) then (if 0 ≤ (0 : Int) ∧ (0 : Int) < ((r126.Nodes.length : Nat) : Int) then (if ((r137.getD (13 : Int).toNat (Vector.replicate 32 0 : Vector Int 32)) == ((r126.Nodes.getD (0 : Int).toNat Node.z).Hash)) = true then ((branch_Fork.f k (Tree.mk r126.Nodes r126.Best) 3 9).bind fun r230 => (if (r230 == 3) = true then ((branch_Main.f k (Tree.mk r126.Nodes r126.Best)).bind fun r234 => (some (((r234.length : Nat) : Int) == 31))) else (some false))) else (some false)) else none) else none) else (some false)) else none) else none) else (some false)) else none) else none) else (some false)) (fun t191 => (some t191))))) else none)
set_option maxRecDepth 100000 in
theorem law16_sane.calls (k : Nat)  (F : List (Option Nat)) (r : Bool) (w0 : World) (hM : Mem F w0 w0 []) (H : law16_sane.f k  = some r) :
    Calls Try.prog 8 #[] w0 fun e w' => ∃ v, e = .returned v ∧ v = (.bool r) ∧ Mem F w0 w' [] := by
  unfold law16_sane.f at H
  refine enterL (n := 54) [] Try.func8 rfl rfl rfl ?_
  intro a hA
  refine wp_seq ?_
  refine wp_region_lit ?_
  refine L1 (stv hA (by decide) (run_assign (hA.ev rfl)) ?_)
  clear hA; intro a hA
  refine LQ ?_
  refine TN ?_
  refine wp_seq ?_
  refine wp_region_lit ?_
  obtain ⟨⟨hi122, hj123⟩, H⟩ := ite_some H
  refine L1 (e_make elt25 rfl hM hA rfl rfl hi122 hj123 (by decide) ?_)
  clear hM hA; intro w124 g121 hM hE a hA
  obtain ⟨r126, H127, H⟩ := Option.bind_eq_some_iff.1 H
  refine L1 (st_call Try.call10 hA [(.slice (some ⟨g121, 0, none⟩) ((30 : Int).toNat) ((30 : Int).toNat))] rfl (by decide) (law16_line.calls _ _ _ _ _ _ ((RoV.mk (hM.rowC (p := (Pl.int .u8)) (Ms := []) .z) (RowOk.len (hM.row (p := (Pl.int .u8)) .z)) (RowOk.cap (hM.row (p := (Pl.int .u8)) .z)))) (hM.front (Ms := [])) H127) ?_)
  clear hA; rintro _ w128 ⟨v129, rfl, hMc⟩ a hA
  have hE := hMc.below; have hM := hM.call (Ms := []) hMc
  clear hMc; simp only [List.cons_append, List.nil_append] at hM
  obtain ⟨A131, c132, rfl⟩ := RowOk.form (hM.row (p := pNode) .z)
  refine L1 (e_alloc (cs := [(.slice none 0 0), (.int .i64 0)]) hM zero24 rfl hA (by decide) ?_)
  clear hM hA; intro w134 g133 hM hE a hA
  refine L1 (e_store (g := g133) (off := 0) (cur := [(.slice none 0 0), (.int .i64 0)]) (cs' := [(.slice A131 r126.Nodes.length c132), (.int .i64 r126.Best)]) hM .z Try.sizeOf24 hA rfl (by simp [add_mk]) rfl (by first | rfl | simp [Value.cells, Pl.len]) (by simp [Value.cells, Value.oneCell']) (by first | exact Nat.le_of_ble_eq_true rfl | (simp [Pl.len]; done)) (spl_all (by first | rfl | simp [Value.cells, Pl.len])) ?_)
  clear hM hA; intro w136 hM hE a hA
  refine LQ ?_
  refine TN ?_
  refine wp_seq ?_
  refine wp_region_lit ?_
  refine L1 (stv hA (by decide) (run_ld (hA.ev rfl) (run_loadW Try.isAgg24 Try.sizeOf24 (by simp [Pl.len]; try rfl) (hM.box .z))) ?_)
  clear hA; intro a hA
  obtain ⟨r137, H138, H⟩ := Option.bind_eq_some_iff.1 H
  refine L1 (st_call Try.call18 hA [(.agg #[(.slice A131 r126.Nodes.length c132), (.int .i64 r126.Best)]), (.int .i64 30)] rfl (by decide) (branch_Locator.calls _ _ _ _ _ _ _ ((RoV.mk (hM.rowC (p := pNode) (Ms := []) (.s .z)) (RowOk.len (hM.row (p := pNode) (.s .z))) (RowOk.cap (hM.row (p := pNode) (.s .z))))) (hM.front (Ms := [])) H138) ?_)
  clear hA; rintro _ w139 ⟨v140, rfl, hMc⟩ a hA
  have hE := hMc.below; have hM := hM.call (Ms := []) hMc
  clear hMc; simp only [List.cons_append, List.nil_append] at hM
  obtain ⟨A142, c143, rfl⟩ := RowOk.form (hM.row (p := pHash) .z)
  refine L1 (stv hA (by decide) (run_assign (hA.ev rfl)) ?_)
  clear hA; intro a hA
  refine LQ ?_
  refine TN ?_
  refine wp_seq ?_
  obtain ⟨o193, H192, H⟩ := Option.bind_eq_some_iff.1 H
  refine cutC (fun a w => ∃ (t191 : Bool), t191 = o193 ∧ Mem F w0 w [] ∧ Has 54 [(0, (.bool t191))] a) ?_ ?_
  · refine draw (fun w' => Below w139.heap.size w139 w') [] rfl ?_
    intro w194 hw hS; replace hM := hM.ext hS; clear hw
    refine d_takef (i := 0) (L' := #[true, false, false, false, false, false, false, false, false, false, false, false, false, false, false, false, false, false, false, false, false, false, false, false, false, false, false, false, false, false, false, false, false, false, false, false, false, false, false, false, false, false, false, false, false, false, false, false]) rfl (by kernel_rfl) rfl (fun _ _ _ h => h) hA (by decide) (fun _ => hS) (fun a w' hA => run_move (hA.ev rfl)) ?_; clear hA; intro a hA
    refine d_takef (i := 1) (L' := #[true, true, false, false, false, false, false, false, false, false, false, false, false, false, false, false, false, false, false, false, false, false, false, false, false, false, false, false, false, false, false, false, false, false, false, false, false, false, false, false, false, false, false, false, false, false, false, false]) rfl (by kernel_rfl) rfl (fun _ _ _ h => h) hA (by decide) (fun _ => hS) (fun a w' hA => run_len_slice Try.underlying35 (hA.ev rfl)) ?_; clear hA; intro a hA
    refine d_takef (i := 2) (L' := #[true, true, true, false, false, false, false, false, false, false, false, false, false, false, false, false, false, false, false, false, false, false, false, false, false, false, false, false, false, false, false, false, false, false, false, false, false, false, false, false, false, false, false, false, false, false, false, false]) rfl (by kernel_rfl) rfl (fun _ _ _ h => h) hA (by decide) (fun _ => hS) (fun a w' hA => run_bin (hA.ev rfl) (hA.ev rfl) (bin_eql _ _ _ _)) ?_; clear hA; intro a hA
    refine d_takef (i := 3) (L' := #[true, true, true, true, false, false, false, false, false, false, false, false, false, false, false, false, false, false, false, false, false, false, false, false, false, false, false, false, false, false, false, false, false, false, false, false, false, false, false, false, false, false, false, false, false, false, false, false]) rfl (by kernel_rfl) rfl (fun _ _ _ h => h) hA (by decide) (fun _ => hS) (fun a w' hA => run_move (hA.ev rfl)) ?_; clear hA; intro a hA
    refine bsplit (b := (((r137.length : Nat) : Int) == 14)) (fun hb196 => ?_) (fun hb196 => ?_)
    · replace H192 := ite_t hb196 H192
      have hA := hA.re (t := 10) rfl (congrArg Value.bool hb196)
      refine d_takegf (i := 4) (L' := #[true, true, true, true, true, false, false, false, false, false, false, false, false, false, false, false, false, false, false, false, false, false, false, false, false, false, false, false, false, false, false, false, false, false, false, false, false, false, false, false, false, false, false, false, false, false, false, false]) rfl (by kernel_rfl) rfl (fun _ _ _ h => h) rfl hA (by decide) (by decide) rfl (fun _ => hS) (fun a w' hA => run_move (hA.ev rfl)) ?_; clear hA; intro a hA
      obtain ⟨⟨hi197, hj198⟩, H192⟩ := ite_some H192
      obtain ⟨ad199, hq200, hat201⟩ := Row.elem' (p := pHash) (RowOk.row (hM.row (p := pHash) .z)) (RowOk.len (hM.row (p := pHash) .z)) (Vector.replicate 32 0 : Vector Int 32) (10 : Int) hi197 hj198
      refine d_takegf (i := 5) (L' := #[true, true, true, true, true, true, false, false, false, false, false, false, false, false, false, false, false, false, false, false, false, false, false, false, false, false, false, false, false, false, false, false, false, false, false, false, false, false, false, false, false, false, false, false, false, false, false, false]) rfl (by kernel_rfl) rfl (fun _ _ _ h => h) rfl hA (by decide) (by decide) rfl (fun _ => hS) (fun a w' hA => run_idx Try.underlying35 Try.sizeOf38 (hA.ev rfl) hq200 (hA.ev rfl) hi197 hj198) ?_; clear hA; intro a hA
      refine rebase hS ?_; clear hS; intro hS
      refine d_takeg (i := 6) (L' := #[true, true, true, true, true, true, true, false, false, false, false, false, false, false, false, false, false, false, false, false, false, false, false, false, false, false, false, false, false, false, false, false, false, false, false, false, false, false, false, false, false, false, false, false, false, false, false, false]) rfl (by kernel_rfl) rfl (fun _ _ _ h => h) rfl hA (by decide) (by decide) rfl rfl hS (fun a w' hA hS' => run_ld (hA.ev rfl) (run_loadP Try.isAgg38 Try.sizeOf38 ((hat201).extB hS'))) ?_; clear hA; intro a hA
      refine d_takegf (i := 7) (L' := #[true, true, true, true, true, true, true, true, false, false, false, false, false, false, false, false, false, false, false, false, false, false, false, false, false, false, false, false, false, false, false, false, false, false, false, false, false, false, false, false, false, false, false, false, false, false, false, false]) rfl (by kernel_rfl) rfl (fun _ _ _ h => h) rfl hA (by decide) (by decide) rfl (fun _ => hS) (fun a w' hA => run_field' Try.underlying24 rfl rfl Try.sizeOf22 (by decide) (hA.ev rfl)) ?_; clear hA; intro a hA
      refine d_takeg (i := 8) (L' := #[true, true, true, true, true, true, true, true, true, false, false, false, false, false, false, false, false, false, false, false, false, false, false, false, false, false, false, false, false, false, false, false, false, false, false, false, false, false, false, false, false, false, false, false, false, false, false, false]) rfl (by kernel_rfl) rfl (fun _ _ _ h => h) rfl hA (by decide) (by decide) rfl rfl hS (fun a w' hA hS' => run_ld (hA.ev rfl) (run_loadS Try.isAgg22 ((At.seg1 (hM.box (.s .z)) 0 rfl).extB hS'))) ?_; clear hA; intro a hA
      obtain ⟨⟨hi202, hj203⟩, H192⟩ := ite_some H192
      obtain ⟨ad204, hq205, hat206⟩ := Row.elem' (p := pNode) (RowOk.row (hM.row (p := pNode) (.s (.s .z)))) (RowOk.len (hM.row (p := pNode) (.s (.s .z)))) Node.z (19 : Int) hi202 hj203
      refine d_takegf (i := 9) (L' := #[true, true, true, true, true, true, true, true, true, true, false, false, false, false, false, false, false, false, false, false, false, false, false, false, false, false, false, false, false, false, false, false, false, false, false, false, false, false, false, false, false, false, false, false, false, false, false, false]) rfl (by kernel_rfl) rfl (fun _ _ _ h => h) rfl hA (by decide) (by decide) rfl (fun _ => hS) (fun a w' hA => run_idx Try.underlying22 Try.sizeOf46 (hA.ev rfl) hq205 (hA.ev rfl) hi202 hj203) ?_; clear hA; intro a hA
      refine d_takegf (i := 10) (L' := #[true, true, true, true, true, true, true, true, true, true, true, false, false, false, false, false, false, false, false, false, false, false, false, false, false, false, false, false, false, false, false, false, false, false, false, false, false, false, false, false, false, false, false, false, false, false, false, false]) rfl (by kernel_rfl) rfl (fun _ _ _ h => h) rfl hA (by decide) (by decide) rfl (fun _ => hS) (fun a w' hA => run_field' Try.underlying46 rfl rfl Try.sizeOf38 (by decide) (hA.ev rfl)) ?_; clear hA; intro a hA
      refine d_takeg (i := 11) (L' := #[true, true, true, true, true, true, true, true, true, true, true, true, false, false, false, false, false, false, false, false, false, false, false, false, false, false, false, false, false, false, false, false, false, false, false, false, false, false, false, false, false, false, false, false, false, false, false, false]) rfl (by kernel_rfl) rfl (fun _ _ _ h => h) rfl hA (by decide) (by decide) rfl rfl hS (fun a w' hA hS' => run_ld (hA.ev rfl) (run_loadP Try.isAgg38 Try.sizeOf38 ((Node.at_Hash (hat206)).extB hS'))) ?_; clear hA; intro a hA
      refine d_takegf (i := 12) (L' := #[true, true, true, true, true, true, true, true, true, true, true, true, true, false, false, false, false, false, false, false, false, false, false, false, false, false, false, false, false, false, false, false, false, false, false, false, false, false, false, false, false, false, false, false, false, false, false, false]) rfl (by kernel_rfl) rfl (fun _ _ _ h => h) rfl hA (by decide) (by decide) rfl (fun _ => hS) (fun a w' hA => run_aggeql eq_Hash rfl (by kernel_rfl) (hA.ev rfl) (hA.ev rfl)) ?_; clear hA; intro a hA
      refine d_takef (i := 13) (L' := #[true, true, true, true, true, true, true, true, true, true, true, true, true, true, false, false, false, false, false, false, false, false, false, false, false, false, false, false, false, false, false, false, false, false, false, false, false, false, false, false, false, false, false, false, false, false, false, false]) rfl (by kernel_rfl) rfl (fun _ _ _ h => h) hA (by decide) (fun _ => hS) (fun a w' hA => run_pick (hA.ev rfl) (fun _ => hA.ev rfl) (fun h => Bool.noConfusion h)) ?_; clear hA; intro a hA
      refine d_takef (i := 14) (L' := #[true, true, true, true, true, true, true, true, true, true, true, true, true, true, true, false, false, false, false, false, false, false, false, false, false, false, false, false, false, false, false, false, false, false, false, false, false, false, false, false, false, false, false, false, false, false, false, false]) rfl (by kernel_rfl) rfl (fun _ _ _ h => h) hA (by decide) (fun _ => hS) (fun a w' hA => run_move (hA.ev rfl)) ?_; clear hA; intro a hA
      refine bsplit (b := ((r137.getD (10 : Int).toNat (Vector.replicate 32 0 : Vector Int 32)) == ((r126.Nodes.getD (19 : Int).toNat Node.z).Hash))) (fun hb207 => ?_) (fun hb207 => ?_)
      · replace H192 := ite_t hb207 H192
        have hA := hA.re (t := 21) rfl (congrArg Value.bool hb207)
        refine d_takegf (i := 15) (L' := #[true, true, true, true, true, true, true, true, true, true, true, true, true, true, true, true, false, false, false, false, false, false, false, false, false, false, false, false, false, false, false, false, false, false, false, false, false, false, false, false, false, false, false, false, false, false, false, false]) rfl (by kernel_rfl) rfl (fun _ _ _ h => h) rfl hA (by decide) (by decide) rfl (fun _ => hS) (fun a w' hA => run_move (hA.ev rfl)) ?_; clear hA; intro a hA
        obtain ⟨⟨hi208, hj209⟩, H192⟩ := ite_some H192
        obtain ⟨ad210, hq211, hat212⟩ := Row.elem' (p := pHash) (RowOk.row (hM.row (p := pHash) .z)) (RowOk.len (hM.row (p := pHash) .z)) (Vector.replicate 32 0 : Vector Int 32) (12 : Int) hi208 hj209
        refine d_takegf (i := 16) (L' := #[true, true, true, true, true, true, true, true, true, true, true, true, true, true, true, true, true, false, false, false, false, false, false, false, false, false, false, false, false, false, false, false, false, false, false, false, false, false, false, false, false, false, false, false, false, false, false, false]) rfl (by kernel_rfl) rfl (fun _ _ _ h => h) rfl hA (by decide) (by decide) rfl (fun _ => hS) (fun a w' hA => run_idx Try.underlying35 Try.sizeOf38 (hA.ev rfl) hq211 (hA.ev rfl) hi208 hj209) ?_; clear hA; intro a hA
        refine d_takeg (i := 17) (L' := #[true, true, true, true, true, true, true, true, true, true, true, true, true, true, true, true, true, true, false, false, false, false, false, false, false, false, false, false, false, false, false, false, false, false, false, false, false, false, false, false, false, false, false, false, false, false, false, false]) rfl (by kernel_rfl) rfl (fun _ _ _ h => h) rfl hA (by decide) (by decide) rfl rfl hS (fun a w' hA hS' => run_ld (hA.ev rfl) (run_loadP Try.isAgg38 Try.sizeOf38 ((hat212).extB hS'))) ?_; clear hA; intro a hA
        refine d_takegf (i := 18) (L' := #[true, true, true, true, true, true, true, true, true, true, true, true, true, true, true, true, true, true, true, false, false, false, false, false, false, false, false, false, false, false, false, false, false, false, false, false, false, false, false, false, false, false, false, false, false, false, false, false]) rfl (by kernel_rfl) rfl (fun _ _ _ h => h) rfl hA (by decide) (by decide) rfl (fun _ => hS) (fun a w' hA => run_field' Try.underlying24 rfl rfl Try.sizeOf22 (by decide) (hA.ev rfl)) ?_; clear hA; intro a hA
        refine d_takeg (i := 19) (L' := #[true, true, true, true, true, true, true, true, true, true, true, true, true, true, true, true, true, true, true, true, false, false, false, false, false, false, false, false, false, false, false, false, false, false, false, false, false, false, false, false, false, false, false, false, false, false, false, false]) rfl (by kernel_rfl) rfl (fun _ _ _ h => h) rfl hA (by decide) (by decide) rfl rfl hS (fun a w' hA hS' => run_ld (hA.ev rfl) (run_loadS Try.isAgg22 ((At.seg1 (hM.box (.s .z)) 0 rfl).extB hS'))) ?_; clear hA; intro a hA
        obtain ⟨⟨hi213, hj214⟩, H192⟩ := ite_some H192
        obtain ⟨ad215, hq216, hat217⟩ := Row.elem' (p := pNode) (RowOk.row (hM.row (p := pNode) (.s (.s .z)))) (RowOk.len (hM.row (p := pNode) (.s (.s .z)))) Node.z (7 : Int) hi213 hj214
        refine d_takegf (i := 20) (L' := #[true, true, true, true, true, true, true, true, true, true, true, true, true, true, true, true, true, true, true, true, true, false, false, false, false, false, false, false, false, false, false, false, false, false, false, false, false, false, false, false, false, false, false, false, false, false, false, false]) rfl (by kernel_rfl) rfl (fun _ _ _ h => h) rfl hA (by decide) (by decide) rfl (fun _ => hS) (fun a w' hA => run_idx Try.underlying22 Try.sizeOf46 (hA.ev rfl) hq216 (hA.ev rfl) hi213 hj214) ?_; clear hA; intro a hA
        refine d_takegf (i := 21) (L' := #[true, true, true, true, true, true, true, true, true, true, true, true, true, true, true, true, true, true, true, true, true, true, false, false, false, false, false, false, false, false, false, false, false, false, false, false, false, false, false, false, false, false, false, false, false, false, false, false]) rfl (by kernel_rfl) rfl (fun _ _ _ h => h) rfl hA (by decide) (by decide) rfl (fun _ => hS) (fun a w' hA => run_field' Try.underlying46 rfl rfl Try.sizeOf38 (by decide) (hA.ev rfl)) ?_; clear hA; intro a hA
        refine d_takeg (i := 22) (L' := #[true, true, true, true, true, true, true, true, true, true, true, true, true, true, true, true, true, true, true, true, true, true, true, false, false, false, false, false, false, false, false, false, false, false, false, false, false, false, false, false, false, false, false, false, false, false, false, false]) rfl (by kernel_rfl) rfl (fun _ _ _ h => h) rfl hA (by decide) (by decide) rfl rfl hS (fun a w' hA hS' => run_ld (hA.ev rfl) (run_loadP Try.isAgg38 Try.sizeOf38 ((Node.at_Hash (hat217)).extB hS'))) ?_; clear hA; intro a hA
        refine d_takegf (i := 23) (L' := #[true, true, true, true, true, true, true, true, true, true, true, true, true, true, true, true, true, true, true, true, true, true, true, true, false, false, false, false, false, false, false, false, false, false, false, false, false, false, false, false, false, false, false, false, false, false, false, false]) rfl (by kernel_rfl) rfl (fun _ _ _ h => h) rfl hA (by decide) (by decide) rfl (fun _ => hS) (fun a w' hA => run_aggeql eq_Hash rfl (by kernel_rfl) (hA.ev rfl) (hA.ev rfl)) ?_; clear hA; intro a hA
        refine d_takef (i := 24) (L' := #[true, true, true, true, true, true, true, true, true, true, true, true, true, true, true, true, true, true, true, true, true, true, true, true, true, false, false, false, false, false, false, false, false, false, false, false, false, false, false, false, false, false, false, false, false, false, false, false]) rfl (by kernel_rfl) rfl (fun _ _ _ h => h) hA (by decide) (fun _ => hS) (fun a w' hA => run_pick (hA.ev rfl) (fun _ => hA.ev rfl) (fun h => Bool.noConfusion h)) ?_; clear hA; intro a hA
        refine d_takef (i := 25) (L' := #[true, true, true, true, true, true, true, true, true, true, true, true, true, true, true, true, true, true, true, true, true, true, true, true, true, true, false, false, false, false, false, false, false, false, false, false, false, false, false, false, false, false, false, false, false, false, false, false]) rfl (by kernel_rfl) rfl (fun _ _ _ h => h) hA (by decide) (fun _ => hS) (fun a w' hA => run_move (hA.ev rfl)) ?_; clear hA; intro a hA
        refine bsplit (b := ((r137.getD (12 : Int).toNat (Vector.replicate 32 0 : Vector Int 32)) == ((r126.Nodes.getD (7 : Int).toNat Node.z).Hash))) (fun hb218 => ?_) (fun hb218 => ?_)
        · replace H192 := ite_t hb218 H192
          have hA := hA.re (t := 32) rfl (congrArg Value.bool hb218)
          refine d_takegf (i := 26) (L' := #[true, true, true, true, true, true, true, true, true, true, true, true, true, true, true, true, true, true, true, true, true, true, true, true, true, true, true, false, false, false, false, false, false, false, false, false, false, false, false, false, false, false, false, false, false, false, false, false]) rfl (by kernel_rfl) rfl (fun _ _ _ h => h) rfl hA (by decide) (by decide) rfl (fun _ => hS) (fun a w' hA => run_move (hA.ev rfl)) ?_; clear hA; intro a hA
          obtain ⟨⟨hi219, hj220⟩, H192⟩ := ite_some H192
          obtain ⟨ad221, hq222, hat223⟩ := Row.elem' (p := pHash) (RowOk.row (hM.row (p := pHash) .z)) (RowOk.len (hM.row (p := pHash) .z)) (Vector.replicate 32 0 : Vector Int 32) (13 : Int) hi219 hj220
          refine d_takegf (i := 27) (L' := #[true, true, true, true, true, true, true, true, true, true, true, true, true, true, true, true, true, true, true, true, true, true, true, true, true, true, true, true, false, false, false, false, false, false, false, false, false, false, false, false, false, false, false, false, false, false, false, false]) rfl (by kernel_rfl) rfl (fun _ _ _ h => h) rfl hA (by decide) (by decide) rfl (fun _ => hS) (fun a w' hA => run_idx Try.underlying35 Try.sizeOf38 (hA.ev rfl) hq222 (hA.ev rfl) hi219 hj220) ?_; clear hA; intro a hA
          refine d_takeg (i := 28) (L' := #[true, true, true, true, true, true, true, true, true, true, true, true, true, true, true, true, true, true, true, true, true, true, true, true, true, true, true, true, true, false, false, false, false, false, false, false, false, false, false, false, false, false, false, false, false, false, false, false]) rfl (by kernel_rfl) rfl (fun _ _ _ h => h) rfl hA (by decide) (by decide) rfl rfl hS (fun a w' hA hS' => run_ld (hA.ev rfl) (run_loadP Try.isAgg38 Try.sizeOf38 ((hat223).extB hS'))) ?_; clear hA; intro a hA
          refine d_takegf (i := 29) (L' := #[true, true, true, true, true, true, true, true, true, true, true, true, true, true, true, true, true, true, true, true, true, true, true, true, true, true, true, true, true, true, false, false, false, false, false, false, false, false, false, false, false, false, false, false, false, false, false, false]) rfl (by kernel_rfl) rfl (fun _ _ _ h => h) rfl hA (by decide) (by decide) rfl (fun _ => hS) (fun a w' hA => run_field' Try.underlying24 rfl rfl Try.sizeOf22 (by decide) (hA.ev rfl)) ?_; clear hA; intro a hA
          refine d_takeg (i := 30) (L' := #[true, true, true, true, true, true, true, true, true, true, true, true, true, true, true, true, true, true, true, true, true, true, true, true, true, true, true, true, true, true, true, false, false, false, false, false, false, false, false, false, false, false, false, false, false, false, false, false]) rfl (by kernel_rfl) rfl (fun _ _ _ h => h) rfl hA (by decide) (by decide) rfl rfl hS (fun a w' hA hS' => run_ld (hA.ev rfl) (run_loadS Try.isAgg22 ((At.seg1 (hM.box (.s .z)) 0 rfl).extB hS'))) ?_; clear hA; intro a hA
          obtain ⟨⟨hi224, hj225⟩, H192⟩ := ite_some H192
          obtain ⟨ad226, hq227, hat228⟩ := Row.elem' (p := pNode) (RowOk.row (hM.row (p := pNode) (.s (.s .z)))) (RowOk.len (hM.row (p := pNode) (.s (.s .z)))) Node.z (0 : Int) hi224 hj225
          refine d_takegf (i := 31) (L' := #[true, true, true, true, true, true, true, true, true, true, true, true, true, true, true, true, true, true, true, true, true, true, true, true, true, true, true, true, true, true, true, true, false, false, false, false, false, false, false, false, false, false, false, false, false, false, false, false]) rfl (by kernel_rfl) rfl (fun _ _ _ h => h) rfl hA (by decide) (by decide) rfl (fun _ => hS) (fun a w' hA => run_idx Try.underlying22 Try.sizeOf46 (hA.ev rfl) hq227 (hA.ev rfl) hi224 hj225) ?_; clear hA; intro a hA
          refine d_takegf (i := 32) (L' := #[true, true, true, true, true, true, true, true, true, true, true, true, true, true, true, true, true, true, true, true, true, true, true, true, true, true, true, true, true, true, true, true, true, false, false, false, false, false, false, false, false, false, false, false, false, false, false, false]) rfl (by kernel_rfl) rfl (fun _ _ _ h => h) rfl hA (by decide) (by decide) rfl (fun _ => hS) (fun a w' hA => run_field' Try.underlying46 rfl rfl Try.sizeOf38 (by decide) (hA.ev rfl)) ?_; clear hA; intro a hA
          refine d_takeg (i := 33) (L' := #[true, true, true, true, true, true, true, true, true, true, true, true, true, true, true, true, true, true, true, true, true, true, true, true, true, true, true, true, true, true, true, true, true, true, false, false, false, false, false, false, false, false, false, false, false, false, false, false]) rfl (by kernel_rfl) rfl (fun _ _ _ h => h) rfl hA (by decide) (by decide) rfl rfl hS (fun a w' hA hS' => run_ld (hA.ev rfl) (run_loadP Try.isAgg38 Try.sizeOf38 ((Node.at_Hash (hat228)).extB hS'))) ?_; clear hA; intro a hA
          refine d_takegf (i := 34) (L' := #[true, true, true, true, true, true, true, true, true, true, true, true, true, true, true, true, true, true, true, true, true, true, true, true, true, true, true, true, true, true, true, true, true, true, true, false, false, false, false, false, false, false, false, false, false, false, false, false]) rfl (by kernel_rfl) rfl (fun _ _ _ h => h) rfl hA (by decide) (by decide) rfl (fun _ => hS) (fun a w' hA => run_aggeql eq_Hash rfl (by kernel_rfl) (hA.ev rfl) (hA.ev rfl)) ?_; clear hA; intro a hA
          refine d_takef (i := 35) (L' := #[true, true, true, true, true, true, true, true, true, true, true, true, true, true, true, true, true, true, true, true, true, true, true, true, true, true, true, true, true, true, true, true, true, true, true, true, false, false, false, false, false, false, false, false, false, false, false, false]) rfl (by kernel_rfl) rfl (fun _ _ _ h => h) hA (by decide) (fun _ => hS) (fun a w' hA => run_pick (hA.ev rfl) (fun _ => hA.ev rfl) (fun h => Bool.noConfusion h)) ?_; clear hA; intro a hA
          refine d_takef (i := 36) (L' := #[true, true, true, true, true, true, true, true, true, true, true, true, true, true, true, true, true, true, true, true, true, true, true, true, true, true, true, true, true, true, true, true, true, true, true, true, true, false, false, false, false, false, false, false, false, false, false, false]) rfl (by kernel_rfl) rfl (fun _ _ _ h => h) hA (by decide) (fun _ => hS) (fun a w' hA => run_move (hA.ev rfl)) ?_; clear hA; intro a hA
          refine bsplit (b := ((r137.getD (13 : Int).toNat (Vector.replicate 32 0 : Vector Int 32)) == ((r126.Nodes.getD (0 : Int).toNat Node.z).Hash))) (fun hb229 => ?_) (fun hb229 => ?_)
          · replace H192 := ite_t hb229 H192
            have hA := hA.re (t := 43) rfl (congrArg Value.bool hb229)
            refine d_takeg (i := 37) (L' := #[true, true, true, true, true, true, true, true, true, true, true, true, true, true, true, true, true, true, true, true, true, true, true, true, true, true, true, true, true, true, true, true, true, true, true, true, true, true, false, false, false, false, false, false, false, false, false, false]) rfl (by kernel_rfl) rfl (fun _ _ _ h => h) rfl hA (by decide) (by decide) rfl rfl hS (fun a w' hA hS' => run_ld (hA.ev rfl) (run_loadW Try.isAgg24 Try.sizeOf24 (by simp [Pl.len]; try rfl) ((hM.box (.s .z)).extB hS'))) ?_; clear hA; intro a hA
            obtain ⟨r230, H231, H192⟩ := Option.bind_eq_some_iff.1 H192
            refine d_one (i := 38) (L' := #[true, true, true, true, true, true, true, true, true, true, true, true, true, true, true, true, true, true, true, true, true, true, true, true, true, true, true, true, true, true, true, true, true, true, true, true, true, true, true, false, false, false, false, false, false, false, false, false]) (by kernel_rfl) rfl rfl (gate_on rfl rfl hA (by decide) rfl (st_call Try.call16 hA [(.agg #[(.slice A131 r126.Nodes.length c132), (.int .i64 r126.Best)]), (.int .i64 3), (.int .i64 9)] rfl (by decide) (branch_Fork.calls _ _ _ _ _ _ _ _ ((RoV.mk (hM.rowC (p := pNode) (Ms := []) (.s (.s .z))) (RowOk.len (hM.row (p := pNode) (.s (.s .z)))) (RowOk.cap (hM.row (p := pNode) (.s (.s .z)))))) (hM.front (Ms := [])) H231) ?_))
            clear hA; rintro _ w232 ⟨rfl, hMc⟩ a hA
            have hE := hMc.below; have hM := hM.call (Ms := []) hMc
            clear hMc; simp only [List.cons_append, List.nil_append] at hM
            replace hS := hS.trans (hE.mono hS.size)
            refine ⟨fun _ => hS, ?_⟩
            refine d_takegf (i := 39) (L' := #[true, true, true, true, true, true, true, true, true, true, true, true, true, true, true, true, true, true, true, true, true, true, true, true, true, true, true, true, true, true, true, true, true, true, true, true, true, true, true, true, false, false, false, false, false, false, false, false]) rfl (by kernel_rfl) rfl (fun _ _ _ h => h) rfl hA (by decide) (by decide) rfl (fun _ => hS) (fun a w' hA => run_bin (hA.ev rfl) (hA.ev rfl) (bin_eql _ _ _ _)) ?_; clear hA; intro a hA
            refine d_takef (i := 40) (L' := #[true, true, true, true, true, true, true, true, true, true, true, true, true, true, true, true, true, true, true, true, true, true, true, true, true, true, true, true, true, true, true, true, true, true, true, true, true, true, true, true, true, false, false, false, false, false, false, false]) rfl (by kernel_rfl) rfl (fun _ _ _ h => h) hA (by decide) (fun _ => hS) (fun a w' hA => run_pick (hA.ev rfl) (fun _ => hA.ev rfl) (fun h => Bool.noConfusion h)) ?_; clear hA; intro a hA
            refine d_takef (i := 41) (L' := #[true, true, true, true, true, true, true, true, true, true, true, true, true, true, true, true, true, true, true, true, true, true, true, true, true, true, true, true, true, true, true, true, true, true, true, true, true, true, true, true, true, true, false, false, false, false, false, false]) rfl (by kernel_rfl) rfl (fun _ _ _ h => h) hA (by decide) (fun _ => hS) (fun a w' hA => run_move (hA.ev rfl)) ?_; clear hA; intro a hA
            refine bsplit (b := (r230 == 3)) (fun hb233 => ?_) (fun hb233 => ?_)
            · replace H192 := ite_t hb233 H192
              have hA := hA.re (t := 48) rfl (congrArg Value.bool hb233)
              refine rebase hS ?_; clear hS; intro hS
              refine d_takeg (i := 42) (L' := #[true, true, true, true, true, true, true, true, true, true, true, true, true, true, true, true, true, true, true, true, true, true, true, true, true, true, true, true, true, true, true, true, true, true, true, true, true, true, true, true, true, true, true, false, false, false, false, false]) rfl (by kernel_rfl) rfl (fun _ _ _ h => h) rfl hA (by decide) (by decide) rfl rfl hS (fun a w' hA hS' => run_ld (hA.ev rfl) (run_loadW Try.isAgg24 Try.sizeOf24 (by simp [Pl.len]; try rfl) ((hM.box (.s .z)).extB hS'))) ?_; clear hA; intro a hA
              obtain ⟨r234, H235, H192⟩ := Option.bind_eq_some_iff.1 H192
              refine d_one (i := 43) (L' := #[true, true, true, true, true, true, true, true, true, true, true, true, true, true, true, true, true, true, true, true, true, true, true, true, true, true, true, true, true, true, true, true, true, true, true, true, true, true, true, true, true, true, true, true, false, false, false, false]) (by kernel_rfl) rfl rfl (gate_on rfl rfl hA (by decide) rfl (st_call Try.call12 hA [(.agg #[(.slice A131 r126.Nodes.length c132), (.int .i64 r126.Best)])] rfl (by decide) (branch_Main.calls _ _ _ _ _ _ ((RoV.mk (hM.rowC (p := pNode) (Ms := []) (.s (.s .z))) (RowOk.len (hM.row (p := pNode) (.s (.s .z)))) (RowOk.cap (hM.row (p := pNode) (.s (.s .z)))))) (hM.front (Ms := [])) H235) ?_))
              clear hA; rintro _ w236 ⟨v237, rfl, hMc⟩ a hA
              have hE := hMc.below; have hM := hM.call (Ms := []) hMc
              clear hMc; simp only [List.cons_append, List.nil_append] at hM
              obtain ⟨A238, c239, rfl⟩ := RowOk.form (hM.row (p := (Pl.int .i64)) .z)
              replace hS := hS.trans (hE.mono hS.size)
              refine ⟨fun _ => hS, ?_⟩
              refine d_takegf (i := 44) (L' := #[true, true, true, true, true, true, true, true, true, true, true, true, true, true, true, true, true, true, true, true, true, true, true, true, true, true, true, true, true, true, true, true, true, true, true, true, true, true, true, true, true, true, true, true, true, false, false, false]) rfl (by kernel_rfl) rfl (fun _ _ _ h => h) rfl hA (by decide) (by decide) rfl (fun _ => hS) (fun a w' hA => run_len_slice Try.underlying31 (hA.ev rfl)) ?_; clear hA; intro a hA
              refine d_takegf (i := 45) (L' := #[true, true, true, true, true, true, true, true, true, true, true, true, true, true, true, true, true, true, true, true, true, true, true, true, true, true, true, true, true, true, true, true, true, true, true, true, true, true, true, true, true, true, true, true, true, true, false, false]) rfl (by kernel_rfl) rfl (fun _ _ _ h => h) rfl hA (by decide) (by decide) rfl (fun _ => hS) (fun a w' hA => run_bin (hA.ev rfl) (hA.ev rfl) (bin_eql _ _ _ _)) ?_; clear hA; intro a hA
              refine d_takef (i := 46) (L' := #[true, true, true, true, true, true, true, true, true, true, true, true, true, true, true, true, true, true, true, true, true, true, true, true, true, true, true, true, true, true, true, true, true, true, true, true, true, true, true, true, true, true, true, true, true, true, true, false]) rfl (by kernel_rfl) rfl (fun _ _ _ h => h) hA (by decide) (fun _ => hS) (fun a w' hA => run_pick (hA.ev rfl) (fun _ => hA.ev rfl) (fun h => Bool.noConfusion h)) ?_; clear hA; intro a hA
              refine d_takef (i := 47) (L' := #[true, true, true, true, true, true, true, true, true, true, true, true, true, true, true, true, true, true, true, true, true, true, true, true, true, true, true, true, true, true, true, true, true, true, true, true, true, true, true, true, true, true, true, true, true, true, true, true]) rfl (by kernel_rfl) rfl (fun _ _ _ h => h) hA (by decide) (fun _ => hS) (fun a w' hA => run_assign (hA.ev rfl)) ?_; clear hA; intro a hA
              refine d_done (by kernel_rfl) ?_
              exact ⟨(((r234.length : Nat) : Int) == 31), Option.some.inj H192, (hM.sel [] rfl (by decide)), (hA.nil.cons (hA.get 0 _ rfl))⟩
            · replace H192 := ite_f hb233 H192
              have hA := hA.re (t := 48) rfl (congrArg Value.bool hb233)
              refine d_skip (i := 42) (L' := #[true, true, true, true, true, true, true, true, true, true, true, true, true, true, true, true, true, true, true, true, true, true, true, true, true, true, true, true, true, true, true, true, true, true, true, true, true, true, true, true, true, true, true, false, false, false, false, false]) rfl (by kernel_rfl) rfl (fun _ _ _ h => h) rfl hA (by decide) (by decide) rfl rfl (fun _ => hS) ?_; clear hA; intro a hA
              refine d_one (i := 43) (L' := #[true, true, true, true, true, true, true, true, true, true, true, true, true, true, true, true, true, true, true, true, true, true, true, true, true, true, true, true, true, true, true, true, true, true, true, true, true, true, true, true, true, true, true, true, false, false, false, false]) (by kernel_rfl) rfl rfl (gate_off rfl (by decide) rfl hA (by decide) rfl rfl ?_); clear hA; intro a hA
              refine ⟨fun _ => hS, ?_⟩
              refine d_skip (i := 44) (L' := #[true, true, true, true, true, true, true, true, true, true, true, true, true, true, true, true, true, true, true, true, true, true, true, true, true, true, true, true, true, true, true, true, true, true, true, true, true, true, true, true, true, true, true, true, true, false, false, false]) rfl (by kernel_rfl) rfl (fun _ _ _ h => h) rfl hA (by decide) (by decide) rfl rfl (fun _ => hS) ?_; clear hA; intro a hA
              refine d_skip (i := 45) (L' := #[true, true, true, true, true, true, true, true, true, true, true, true, true, true, true, true, true, true, true, true, true, true, true, true, true, true, true, true, true, true, true, true, true, true, true, true, true, true, true, true, true, true, true, true, true, true, false, false]) rfl (by kernel_rfl) rfl (fun _ _ _ h => h) rfl hA (by decide) (by decide) rfl rfl (fun _ => hS) ?_; clear hA; intro a hA
              refine d_takef (i := 46) (L' := #[true, true, true, true, true, true, true, true, true, true, true, true, true, true, true, true, true, true, true, true, true, true, true, true, true, true, true, true, true, true, true, true, true, true, true, true, true, true, true, true, true, true, true, true, true, true, true, false]) rfl (by kernel_rfl) rfl (fun _ _ _ h => h) hA (by decide) (fun _ => hS) (fun a w' hA => run_pick (hA.ev rfl) (fun h => Bool.noConfusion h) (fun _ => hA.ev rfl)) ?_; clear hA; intro a hA
              refine d_takef (i := 47) (L' := #[true, true, true, true, true, true, true, true, true, true, true, true, true, true, true, true, true, true, true, true, true, true, true, true, true, true, true, true, true, true, true, true, true, true, true, true, true, true, true, true, true, true, true, true, true, true, true, true]) rfl (by kernel_rfl) rfl (fun _ _ _ h => h) hA (by decide) (fun _ => hS) (fun a w' hA => run_assign (hA.ev rfl)) ?_; clear hA; intro a hA
              refine d_done (by kernel_rfl) ?_
              exact ⟨false, Option.some.inj H192, (hM.sel [] rfl (by decide)), (hA.nil.cons (hA.get 0 _ rfl))⟩
          · replace H192 := ite_f hb229 H192
            have hA := hA.re (t := 43) rfl (congrArg Value.bool hb229)
            refine d_skip (i := 37) (L' := #[true, true, true, true, true, true, true, true, true, true, true, true, true, true, true, true, true, true, true, true, true, true, true, true, true, true, true, true, true, true, true, true, true, true, true, true, true, true, false, false, false, false, false, false, false, false, false, false]) rfl (by kernel_rfl) rfl (fun _ _ _ h => h) rfl hA (by decide) (by decide) rfl rfl (fun _ => hS) ?_; clear hA; intro a hA
            refine d_one (i := 38) (L' := #[true, true, true, true, true, true, true, true, true, true, true, true, true, true, true, true, true, true, true, true, true, true, true, true, true, true, true, true, true, true, true, true, true, true, true, true, true, true, true, false, false, false, false, false, false, false, false, false]) (by kernel_rfl) rfl rfl (gate_off rfl (by decide) rfl hA (by decide) rfl rfl ?_); clear hA; intro a hA
            refine ⟨fun _ => hS, ?_⟩
            refine d_skip (i := 39) (L' := #[true, true, true, true, true, true, true, true, true, true, true, true, true, true, true, true, true, true, true, true, true, true, true, true, true, true, true, true, true, true, true, true, true, true, true, true, true, true, true, true, false, false, false, false, false, false, false, false]) rfl (by kernel_rfl) rfl (fun _ _ _ h => h) rfl hA (by decide) (by decide) rfl rfl (fun _ => hS) ?_; clear hA; intro a hA
            refine d_takef (i := 40) (L' := #[true, true, true, true, true, true, true, true, true, true, true, true, true, true, true, true, true, true, true, true, true, true, true, true, true, true, true, true, true, true, true, true, true, true, true, true, true, true, true, true, true, false, false, false, false, false, false, false]) rfl (by kernel_rfl) rfl (fun _ _ _ h => h) hA (by decide) (fun _ => hS) (fun a w' hA => run_pick (hA.ev rfl) (fun h => Bool.noConfusion h) (fun _ => hA.ev rfl)) ?_; clear hA; intro a hA
            refine d_takef (i := 41) (L' := #[true, true, true, true, true, true, true, true, true, true, true, true, true, true, true, true, true, true, true, true, true, true, true, true, true, true, true, true, true, true, true, true, true, true, true, true, true, true, true, true, true, true, false, false, false, false, false, false]) rfl (by kernel_rfl) rfl (fun _ _ _ h => h) hA (by decide) (fun _ => hS) (fun a w' hA => run_move (hA.ev rfl)) ?_; clear hA; intro a hA
            refine d_skip (i := 42) (L' := #[true, true, true, true, true, true, true, true, true, true, true, true, true, true, true, true, true, true, true, true, true, true, true, true, true, true, true, true, true, true, true, true, true, true, true, true, true, true, true, true, true, true, true, false, false, false, false, false]) rfl (by kernel_rfl) rfl (fun _ _ _ h => h) rfl hA (by decide) (by decide) rfl rfl (fun _ => hS) ?_; clear hA; intro a hA
            refine d_one (i := 43) (L' := #[true, true, true, true, true, true, true, true, true, true, true, true, true, true, true, true, true, true, true, true, true, true, true, true, true, true, true, true, true, true, true, true, true, true, true, true, true, true, true, true, true, true, true, true, false, false, false, false]) (by kernel_rfl) rfl rfl (gate_off rfl (by decide) rfl hA (by decide) rfl rfl ?_); clear hA; intro a hA
            refine ⟨fun _ => hS, ?_⟩
            refine d_skip (i := 44) (L' := #[true, true, true, true, true, true, true, true, true, true, true, true, true, true, true, true, true, true, true, true, true, true, true, true, true, true, true, true, true, true, true, true, true, true, true, true, true, true, true, true, true, true, true, true, true, false, false, false]) rfl (by kernel_rfl) rfl (fun _ _ _ h => h) rfl hA (by decide) (by decide) rfl rfl (fun _ => hS) ?_; clear hA; intro a hA
            refine d_skip (i := 45) (L' := #[true, true, true, true, true, true, true, true, true, true, true, true, true, true, true, true, true, true, true, true, true, true, true, true, true, true, true, true, true, true, true, true, true, true, true, true, true, true, true, true, true, true, true, true, true, true, false, false]) rfl (by kernel_rfl) rfl (fun _ _ _ h => h) rfl hA (by decide) (by decide) rfl rfl (fun _ => hS) ?_; clear hA; intro a hA
            refine d_takef (i := 46) (L' := #[true, true, true, true, true, true, true, true, true, true, true, true, true, true, true, true, true, true, true, true, true, true, true, true, true, true, true, true, true, true, true, true, true, true, true, true, true, true, true, true, true, true, true, true, true, true, true, false]) rfl (by kernel_rfl) rfl (fun _ _ _ h => h) hA (by decide) (fun _ => hS) (fun a w' hA => run_pick (hA.ev rfl) (fun h => Bool.noConfusion h) (fun _ => hA.ev rfl)) ?_; clear hA; intro a hA
            refine d_takef (i := 47) (L' := #[true, true, true, true, true, true, true, true, true, true, true, true, true, true, true, true, true, true, true, true, true, true, true, true, true, true, true, true, true, true, true, true, true, true, true, true, true, true, true, true, true, true, true, true, true, true, true, true]) rfl (by kernel_rfl) rfl (fun _ _ _ h => h) hA (by decide) (fun _ => hS) (fun a w' hA => run_assign (hA.ev rfl)) ?_; clear hA; intro a hA
            refine d_done (by kernel_rfl) ?_
            exact ⟨false, Option.some.inj H192, (hM.sel [] rfl (by decide)), (hA.nil.cons (hA.get 0 _ rfl))⟩
        · replace H192 := ite_f hb218 H192
          have hA := hA.re (t := 32) rfl (congrArg Value.bool hb218)
          refine d_skip (i := 26) (L' := #[true, true, true, true, true, true, true, true, true, true, true, true, true, true, true, true, true, true, true, true, true, true, true, true, true, true, true, false, false, false, false, false, false, false, false, false, false, false, false, false, false, false, false, false, false, false, false, false]) rfl (by kernel_rfl) rfl (fun _ _ _ h => h) rfl hA (by decide) (by decide) rfl rfl (fun _ => hS) ?_; clear hA; intro a hA
          refine d_skip (i := 27) (L' := #[true, true, true, true, true, true, true, true, true, true, true, true, true, true, true, true, true, true, true, true, true, true, true, true, true, true, true, true, false, false, false, false, false, false, false, false, false, false, false, false, false, false, false, false, false, false, false, false]) rfl (by kernel_rfl) rfl (fun _ _ _ h => h) rfl hA (by decide) (by decide) rfl rfl (fun _ => hS) ?_; clear hA; intro a hA
          refine d_skip (i := 28) (L' := #[true, true, true, true, true, true, true, true, true, true, true, true, true, true, true, true, true, true, true, true, true, true, true, true, true, true, true, true, true, false, false, false, false, false, false, false, false, false, false, false, false, false, false, false, false, false, false, false]) rfl (by kernel_rfl) rfl (fun _ _ _ h => h) rfl hA (by decide) (by decide) rfl rfl (fun _ => hS) ?_; clear hA; intro a hA
          refine d_skip (i := 29) (L' := #[true, true, true, true, true, true, true, true, true, true, true, true, true, true, true, true, true, true, true, true, true, true, true, true, true, true, true, true, true, true, false, false, false, false, false, false, false, false, false, false, false, false, false, false, false, false, false, false]) rfl (by kernel_rfl) rfl (fun _ _ _ h => h) rfl hA (by decide) (by decide) rfl rfl (fun _ => hS) ?_; clear hA; intro a hA
          refine d_skip (i := 30) (L' := #[true, true, true, true, true, true, true, true, true, true, true, true, true, true, true, true, true, true, true, true, true, true, true, true, true, true, true, true, true, true, true, false, false, false, false, false, false, false, false, false, false, false, false, false, false, false, false, false]) rfl (by kernel_rfl) rfl (fun _ _ _ h => h) rfl hA (by decide) (by decide) rfl rfl (fun _ => hS) ?_; clear hA; intro a hA
          refine d_skip (i := 31) (L' := #[true, true, true, true, true, true, true, true, true, true, true, true, true, true, true, true, true, true, true, true, true, true, true, true, true, true, true, true, true, true, true, true, false, false, false, false, false, false, false, false, false, false, false, false, false, false, false, false]) rfl (by kernel_rfl) rfl (fun _ _ _ h => h) rfl hA (by decide) (by decide) rfl rfl (fun _ => hS) ?_; clear hA; intro a hA
          refine d_skip (i := 32) (L' := #[true, true, true, true, true, true, true, true, true, true, true, true, true, true, true, true, true, true, true, true, true, true, true, true, true, true, true, true, true, true, true, true, true, false, false, false, false, false, false, false, false, false, false, false, false, false, false, false]) rfl (by kernel_rfl) rfl (fun _ _ _ h => h) rfl hA (by decide) (by decide) rfl rfl (fun _ => hS) ?_; clear hA; intro a hA
          refine d_skip (i := 33) (L' := #[true, true, true, true, true, true, true, true, true, true, true, true, true, true, true, true, true, true, true, true, true, true, true, true, true, true, true, true, true, true, true, true, true, true, false, false, false, false, false, false, false, false, false, false, false, false, false, false]) rfl (by kernel_rfl) rfl (fun _ _ _ h => h) rfl hA (by decide) (by decide) rfl rfl (fun _ => hS) ?_; clear hA; intro a hA
          refine d_skip (i := 34) (L' := #[true, true, true, true, true, true, true, true, true, true, true, true, true, true, true, true, true, true, true, true, true, true, true, true, true, true, true, true, true, true, true, true, true, true, true, false, false, false, false, false, false, false, false, false, false, false, false, false]) rfl (by kernel_rfl) rfl (fun _ _ _ h => h) rfl hA (by decide) (by decide) rfl rfl (fun _ => hS) ?_; clear hA; intro a hA
          refine d_takef (i := 35) (L' := #[true, true, true, true, true, true, true, true, true, true, true, true, true, true, true, true, true, true, true, true, true, true, true, true, true, true, true, true, true, true, true, true, true, true, true, true, false, false, false, false, false, false, false, false, false, false, false, false]) rfl (by kernel_rfl) rfl (fun _ _ _ h => h) hA (by decide) (fun _ => hS) (fun a w' hA => run_pick (hA.ev rfl) (fun h => Bool.noConfusion h) (fun _ => hA.ev rfl)) ?_; clear hA; intro a hA
          refine d_takef (i := 36) (L' := #[true, true, true, true, true, true, true, true, true, true, true, true, true, true, true, true, true, true, true, true, true, true, true, true, true, true, true, true, true, true, true, true, true, true, true, true, true, false, false, false, false, false, false, false, false, false, false, false]) rfl (by kernel_rfl) rfl (fun _ _ _ h => h) hA (by decide) (fun _ => hS) (fun a w' hA => run_move (hA.ev rfl)) ?_; clear hA; intro a hA
          refine d_skip (i := 37) (L' := #[true, true, true, true, true, true, true, true, true, true, true, true, true, true, true, true, true, true, true, true, true, true, true, true, true, true, true, true, true, true, true, true, true, true, true, true, true, true, false, false, false, false, false, false, false, false, false, false]) rfl (by kernel_rfl) rfl (fun _ _ _ h => h) rfl hA (by decide) (by decide) rfl rfl (fun _ => hS) ?_; clear hA; intro a hA
          refine d_one (i := 38) (L' := #[true, true, true, true, true, true, true, true, true, true, true, true, true, true, true, true, true, true, true, true, true, true, true, true, true, true, true, true, true, true, true, true, true, true, true, true, true, true, true, false, false, false, false, false, false, false, false, false]) (by kernel_rfl) rfl rfl (gate_off rfl (by decide) rfl hA (by decide) rfl rfl ?_); clear hA; intro a hA
          refine ⟨fun _ => hS, ?_⟩
          refine d_skip (i := 39) (L' := #[true, true, true, true, true, true, true, true, true, true, true, true, true, true, true, true, true, true, true, true, true, true, true, true, true, true, true, true, true, true, true, true, true, true, true, true, true, true, true, true, false, false, false, false, false, false, false, false]) rfl (by kernel_rfl) rfl (fun _ _ _ h => h) rfl hA (by decide) (by decide) rfl rfl (fun _ => hS) ?_; clear hA; intro a hA
          refine d_takef (i := 40) (L' := #[true, true, true, true, true, true, true, true, true, true, true, true, true, true, true, true, true, true, true, true, true, true, true, true, true, true, true, true, true, true, true, true, true, true, true, true, true, true, true, true, true, false, false, false, false, false, false, false]) rfl (by kernel_rfl) rfl (fun _ _ _ h => h) hA (by decide) (fun _ => hS) (fun a w' hA => run_pick (hA.ev rfl) (fun h => Bool.noConfusion h) (fun _ => hA.ev rfl)) ?_; clear hA; intro a hA
          refine d_takef (i := 41) (L' := #[true, true, true, true, true, true, true, true, true, true, true, true, true, true, true, true, true, true, true, true, true, true, true, true, true, true, true, true, true, true, true, true, true, true, true, true, true, true, true, true, true, true, false, false, false, false, false, false]) rfl (by kernel_rfl) rfl (fun _ _ _ h => h) hA (by decide) (fun _ => hS) (fun a w' hA => run_move (hA.ev rfl)) ?_; clear hA; intro a hA
          refine d_skip (i := 42) (L' := #[true, true, true, true, true, true, true, true, true, true, true, true, true, true, true, true, true, true, true, true, true, true, true, true, true, true, true, true, true, true, true, true, true, true, true, true, true, true, true, true, true, true, true, false, false, false, false, false]) rfl (by kernel_rfl) rfl (fun _ _ _ h => h) rfl hA (by decide) (by decide) rfl rfl (fun _ => hS) ?_; clear hA; intro a hA
          refine d_one (i := 43) (L' := #[true, true, true, true, true, true, true, true, true, true, true, true, true, true, true, true, true, true, true, true, true, true, true, true, true, true, true, true, true, true, true, true, true, true, true, true, true, true, true, true, true, true, true, true, false, false, false, false]) (by kernel_rfl) rfl rfl (gate_off rfl (by decide) rfl hA (by decide) rfl rfl ?_); clear hA; intro a hA
          refine ⟨fun _ => hS, ?_⟩
          refine d_skip (i := 44) (L' := #[true, true, true, true, true, true, true, true, true, true, true, true, true, true, true, true, true, true, true, true, true, true, true, true, true, true, true, true, true, true, true, true, true, true, true, true, true, true, true, true, true, true, true, true, true, false, false, false]) rfl (by kernel_rfl) rfl (fun _ _ _ h => h) rfl hA (by decide) (by decide) rfl rfl (fun _ => hS) ?_; clear hA; intro a hA
          refine d_skip (i := 45) (L' := #[true, true, true, true, true, true, true, true, true, true, true, true, true, true, true, true, true, true, true, true, true, true, true, true, true, true, true, true, true, true, true, true, true, true, true, true, true, true, true, true, true, true, true, true, true, true, false, false]) rfl (by kernel_rfl) rfl (fun _ _ _ h => h) rfl hA (by decide) (by decide) rfl rfl (fun _ => hS) ?_; clear hA; intro a hA
          refine d_takef (i := 46) (L' := #[true, true, true, true, true, true, true, true, true, true, true, true, true, true, true, true, true, true, true, true, true, true, true, true, true, true, true, true, true, true, true, true, true, true, true, true, true, true, true, true, true, true, true, true, true, true, true, false]) rfl (by kernel_rfl) rfl (fun _ _ _ h => h) hA (by decide) (fun _ => hS) (fun a w' hA => run_pick (hA.ev rfl) (fun h => Bool.noConfusion h) (fun _ => hA.ev rfl)) ?_; clear hA; intro a hA
          refine d_takef (i := 47) (L' := #[true, true, true, true, true, true, true, true, true, true, true, true, true, true, true, true, true, true, true, true, true, true, true, true, true, true, true, true, true, true, true, true, true, true, true, true, true, true, true, true, true, true, true, true, true, true, true, true]) rfl (by kernel_rfl) rfl (fun _ _ _ h => h) hA (by decide) (fun _ => hS) (fun a w' hA => run_assign (hA.ev rfl)) ?_; clear hA; intro a hA
          refine d_done (by kernel_rfl) ?_
          exact ⟨false, Option.some.inj H192, (hM.sel [] rfl (by decide)), (hA.nil.cons (hA.get 0 _ rfl))⟩
      · replace H192 := ite_f hb207 H192
        have hA := hA.re (t := 21) rfl (congrArg Value.bool hb207)
        refine d_skip (i := 15) (L' := #[true, true, true, true, true, true, true, true, true, true, true, true, true, true, true, true, false, false, false, false, false, false, false, false, false, false, false, false, false, false, false, false, false, false, false, false, false, false, false, false, false, false, false, false, false, false, false, false]) rfl (by kernel_rfl) rfl (fun _ _ _ h => h) rfl hA (by decide) (by decide) rfl rfl (fun _ => hS) ?_; clear hA; intro a hA
        refine d_skip (i := 16) (L' := #[true, true, true, true, true, true, true, true, true, true, true, true, true, true, true, true, true, false, false, false, false, false, false, false, false, false, false, false, false, false, false, false, false, false, false, false, false, false, false, false, false, false, false, false, false, false, false, false]) rfl (by kernel_rfl) rfl (fun _ _ _ h => h) rfl hA (by decide) (by decide) rfl rfl (fun _ => hS) ?_; clear hA; intro a hA
        refine d_skip (i := 17) (L' := #[true, true, true, true, true, true, true, true, true, true, true, true, true, true, true, true, true, true, false, false, false, false, false, false, false, false, false, false, false, false, false, false, false, false, false, false, false, false, false, false, false, false, false, false, false, false, false, false]) rfl (by kernel_rfl) rfl (fun _ _ _ h => h) rfl hA (by decide) (by decide) rfl rfl (fun _ => hS) ?_; clear hA; intro a hA
        refine d_skip (i := 18) (L' := #[true, true, true, true, true, true, true, true, true, true, true, true, true, true, true, true, true, true, true, false, false, false, false, false, false, false, false, false, false, false, false, false, false, false, false, false, false, false, false, false, false, false, false, false, false, false, false, false]) rfl (by kernel_rfl) rfl (fun _ _ _ h => h) rfl hA (by decide) (by decide) rfl rfl (fun _ => hS) ?_; clear hA; intro a hA
        refine d_skip (i := 19) (L' := #[true, true, true, true, true, true, true, true, true, true, true, true, true, true, true, true, true, true, true, true, false, false, false, false, false, false, false, false, false, false, false, false, false, false, false, false, false, false, false, false, false, false, false, false, false, false, false, false]) rfl (by kernel_rfl) rfl (fun _ _ _ h => h) rfl hA (by decide) (by decide) rfl rfl (fun _ => hS) ?_; clear hA; intro a hA
        refine d_skip (i := 20) (L' := #[true, true, true, true, true, true, true, true, true, true, true, true, true, true, true, true, true, true, true, true, true, false, false, false, false, false, false, false, false, false, false, false, false, false, false, false, false, false, false, false, false, false, false, false, false, false, false, false]) rfl (by kernel_rfl) rfl (fun _ _ _ h => h) rfl hA (by decide) (by decide) rfl rfl (fun _ => hS) ?_; clear hA; intro a hA
        refine d_skip (i := 21) (L' := #[true, true, true, true, true, true, true, true, true, true, true, true, true, true, true, true, true, true, true, true, true, true, false, false, false, false, false, false, false, false, false, false, false, false, false, false, false, false, false, false, false, false, false, false, false, false, false, false]) rfl (by kernel_rfl) rfl (fun _ _ _ h => h) rfl hA (by decide) (by decide) rfl rfl (fun _ => hS) ?_; clear hA; intro a hA
        refine d_skip (i := 22) (L' := #[true, true, true, true, true, true, true, true, true, true, true, true, true, true, true, true, true, true, true, true, true, true, true, false, false, false, false, false, false, false, false, false, false, false, false, false, false, false, false, false, false, false, false, false, false, false, false, false]) rfl (by kernel_rfl) rfl (fun _ _ _ h => h) rfl hA (by decide) (by decide) rfl rfl (fun _ => hS) ?_; clear hA; intro a hA
        refine d_skip (i := 23) (L' := #[true, true, true, true, true, true, true, true, true, true, true, true, true, true, true, true, true, true, true, true, true, true, true, true, false, false, false, false, false, false, false, false, false, false, false, false, false, false, false, false, false, false, false, false, false, false, false, false]) rfl (by kernel_rfl) rfl (fun _ _ _ h => h) rfl hA (by decide) (by decide) rfl rfl (fun _ => hS) ?_; clear hA; intro a hA
        refine d_takef (i := 24) (L' := #[true, true, true, true, true, true, true, true, true, true, true, true, true, true, true, true, true, true, true, true, true, true, true, true, true, false, false, false, false, false, false, false, false, false, false, false, false, false, false, false, false, false, false, false, false, false, false, false]) rfl (by kernel_rfl) rfl (fun _ _ _ h => h) hA (by decide) (fun _ => hS) (fun a w' hA => run_pick (hA.ev rfl) (fun h => Bool.noConfusion h) (fun _ => hA.ev rfl)) ?_; clear hA; intro a hA
        refine d_takef (i := 25) (L' := #[true, true, true, true, true, true, true, true, true, true, true, true, true, true, true, true, true, true, true, true, true, true, true, true, true, true, false, false, false, false, false, false, false, false, false, false, false, false, false, false, false, false, false, false, false, false, false, false]) rfl (by kernel_rfl) rfl (fun _ _ _ h => h) hA (by decide) (fun _ => hS) (fun a w' hA => run_move (hA.ev rfl)) ?_; clear hA; intro a hA
        refine d_skip (i := 26) (L' := #[true, true, true, true, true, true, true, true, true, true, true, true, true, true, true, true, true, true, true, true, true, true, true, true, true, true, true, false, false, false, false, false, false, false, false, false, false, false, false, false, false, false, false, false, false, false, false, false]) rfl (by kernel_rfl) rfl (fun _ _ _ h => h) rfl hA (by decide) (by decide) rfl rfl (fun _ => hS) ?_; clear hA; intro a hA
        refine d_skip (i := 27) (L' := #[true, true, true, true, true, true, true, true, true, true, true, true, true, true, true, true, true, true, true, true, true, true, true, true, true, true, true, true, false, false, false, false, false, false, false, false, false, false, false, false, false, false, false, false, false, false, false, false]) rfl (by kernel_rfl) rfl (fun _ _ _ h => h) rfl hA (by decide) (by decide) rfl rfl (fun _ => hS) ?_; clear hA; intro a hA
        refine d_skip (i := 28) (L' := #[true, true, true, true, true, true, true, true, true, true, true, true, true, true, true, true, true, true, true, true, true, true, true, true, true, true, true, true, true, false, false, false, false, false, false, false, false, false, false, false, false, false, false, false, false, false, false, false]) rfl (by kernel_rfl) rfl (fun _ _ _ h => h) rfl hA (by decide) (by decide) rfl rfl (fun _ => hS) ?_; clear hA; intro a hA
        refine d_skip (i := 29) (L' := #[true, true, true, true, true, true, true, true, true, true, true, true, true, true, true, true, true, true, true, true, true, true, true, true, true, true, true, true, true, true, false, false, false, false, false, false, false, false, false, false, false, false, false, false, false, false, false, false]) rfl (by kernel_rfl) rfl (fun _ _ _ h => h) rfl hA (by decide) (by decide) rfl rfl (fun _ => hS) ?_; clear hA; intro a hA
        refine d_skip (i := 30) (L' := #[true, true, true, true, true, true, true, true, true, true, true, true, true, true, true, true, true, true, true, true, true, true, true, true, true, true, true, true, true, true, true, false, false, false, false, false, false, false, false, false, false, false, false, false, false, false, false, false]) rfl (by kernel_rfl) rfl (fun _ _ _ h => h) rfl hA (by decide) (by decide) rfl rfl (fun _ => hS) ?_; clear hA; intro a hA
        refine d_skip (i := 31) (L' := #[true, true, true, true, true, true, true, true, true, true, true, true, true, true, true, true, true, true, true, true, true, true, true, true, true, true, true, true, true, true, true, true, false, false, false, false, false, false, false, false, false, false, false, false, false, false, false, false]) rfl (by kernel_rfl) rfl (fun _ _ _ h => h) rfl hA (by decide) (by decide) rfl rfl (fun _ => hS) ?_; clear hA; intro a hA
        refine d_skip (i := 32) (L' := #[true, true, true, true, true, true, true, true, true, true, true, true, true, true, true, true, true, true, true, true, true, true, true, true, true, true, true, true, true, true, true, true, true, false, false, false, false, false, false, false, false, false, false, false, false, false, false, false]) rfl (by kernel_rfl) rfl (fun _ _ _ h => h) rfl hA (by decide) (by decide) rfl rfl (fun _ => hS) ?_; clear hA; intro a hA
        refine d_skip (i := 33) (L' := #[true, true, true, true, true, true, true, true, true, true, true, true, true, true, true, true, true, true, true, true, true, true, true, true, true, true, true, true, true, true, true, true, true, true, false, false, false, false, false, false, false, false, false, false, false, false, false, false]) rfl (by kernel_rfl) rfl (fun _ _ _ h => h) rfl hA (by decide) (by decide) rfl rfl (fun _ => hS) ?_; clear hA; intro a hA
        refine d_skip (i := 34) (L' := #[true, true, true, true, true, true, true, true, true, true, true, true, true, true, true, true, true, true, true, true, true, true, true, true, true, true, true, true, true, true, true, true, true, true, true, false, false, false, false, false, false, false, false, false, false, false, false, false]) rfl (by kernel_rfl) rfl (fun _ _ _ h => h) rfl hA (by decide) (by decide) rfl rfl (fun _ => hS) ?_; clear hA; intro a hA
        refine d_takef (i := 35) (L' := #[true, true, true, true, true, true, true, true, true, true, true, true, true, true, true, true, true, true, true, true, true, true, true, true, true, true, true, true, true, true, true, true, true, true, true, true, false, false, false, false, false, false, false, false, false, false, false, false]) rfl (by kernel_rfl) rfl (fun _ _ _ h => h) hA (by decide) (fun _ => hS) (fun a w' hA => run_pick (hA.ev rfl) (fun h => Bool.noConfusion h) (fun _ => hA.ev rfl)) ?_; clear hA; intro a hA
        refine d_takef (i := 36) (L' := #[true, true, true, true, true, true, true, true, true, true, true, true, true, true, true, true, true, true, true, true, true, true, true, true, true, true, true, true, true, true, true, true, true, true, true, true, true, false, false, false, false, false, false, false, false, false, false, false]) rfl (by kernel_rfl) rfl (fun _ _ _ h => h) hA (by decide) (fun _ => hS) (fun a w' hA => run_move (hA.ev rfl)) ?_; clear hA; intro a hA
        refine d_skip (i := 37) (L' := #[true, true, true, true, true, true, true, true, true, true, true, true, true, true, true, true, true, true, true, true, true, true, true, true, true, true, true, true, true, true, true, true, true, true, true, true, true, true, false, false, false, false, false, false, false, false, false, false]) rfl (by kernel_rfl) rfl (fun _ _ _ h => h) rfl hA (by decide) (by decide) rfl rfl (fun _ => hS) ?_; clear hA; intro a hA
        refine d_one (i := 38) (L' := #[true, true, true, true, true, true, true, true, true, true, true, true, true, true, true, true, true, true, true, true, true, true, true, true, true, true, true, true, true, true, true, true, true, true, true, true, true, true, true, false, false, false, false, false, false, false, false, false]) (by kernel_rfl) rfl rfl (gate_off rfl (by decide) rfl hA (by decide) rfl rfl ?_); clear hA; intro a hA
        refine ⟨fun _ => hS, ?_⟩
        refine d_skip (i := 39) (L' := #[true, true, true, true, true, true, true, true, true, true, true, true, true, true, true, true, true, true, true, true, true, true, true, true, true, true, true, true, true, true, true, true, true, true, true, true, true, true, true, true, false, false, false, false, false, false, false, false]) rfl (by kernel_rfl) rfl (fun _ _ _ h => h) rfl hA (by decide) (by decide) rfl rfl (fun _ => hS) ?_; clear hA; intro a hA
        refine d_takef (i := 40) (L' := #[true, true, true, true, true, true, true, true, true, true, true, true, true, true, true, true, true, true, true, true, true, true, true, true, true, true, true, true, true, true, true, true, true, true, true, true, true, true, true, true, true, false, false, false, false, false, false, false]) rfl (by kernel_rfl) rfl (fun _ _ _ h => h) hA (by decide) (fun _ => hS) (fun a w' hA => run_pick (hA.ev rfl) (fun h => Bool.noConfusion h) (fun _ => hA.ev rfl)) ?_; clear hA; intro a hA
        refine d_takef (i := 41) (L' := #[true, true, true, true, true, true, true, true, true, true, true, true, true, true, true, true, true, true, true, true, true, true, true, true, true, true, true, true, true, true, true, true, true, true, true, true, true, true, true, true, true, true, false, false, false, false, false, false]) rfl (by kernel_rfl) rfl (fun _ _ _ h => h) hA (by decide) (fun _ => hS) (fun a w' hA => run_move (hA.ev rfl)) ?_; clear hA; intro a hA
        refine d_skip (i := 42) (L' := #[true, true, true, true, true, true, true, true, true, true, true, true, true, true, true, true, true, true, true, true, true, true, true, true, true, true, true, true, true, true, true, true, true, true, true, true, true, true, true, true, true, true, true, false, false, false, false, false]) rfl (by kernel_rfl) rfl (fun _ _ _ h => h) rfl hA (by decide) (by decide) rfl rfl (fun _ => hS) ?_; clear hA; intro a hA
        refine d_one (i := 43) (L' := #[true, true, true, true, true, true, true, true, true, true, true, true, true, true, true, true, true, true, true, true, true, true, true, true, true, true, true, true, true, true, true, true, true, true, true, true, true, true, true, true, true, true, true, true, false, false, false, false]) (by kernel_rfl) rfl rfl (gate_off rfl (by decide) rfl hA (by decide) rfl rfl ?_); clear hA; intro a hA
        refine ⟨fun _ => hS, ?_⟩
        refine d_skip (i := 44) (L' := #[true, true, true, true, true, true, true, true, true, true, true, true, true, true, true, true, true, true, true, true, true, true, true, true, true, true, true, true, true, true, true, true, true, true, true, true, true, true, true, true, true, true, true, true, true, false, false, false]) rfl (by kernel_rfl) rfl (fun _ _ _ h => h) rfl hA (by decide) (by decide) rfl rfl (fun _ => hS) ?_; clear hA; intro a hA
        refine d_skip (i := 45) (L' := #[true, true, true, true, true, true, true, true, true, true, true, true, true, true, true, true, true, true, true, true, true, true, true, true, true, true, true, true, true, true, true, true, true, true, true, true, true, true, true, true, true, true, true, true, true, true, false, false]) rfl (by kernel_rfl) rfl (fun _ _ _ h => h) rfl hA (by decide) (by decide) rfl rfl (fun _ => hS) ?_; clear hA; intro a hA
        refine d_takef (i := 46) (L' := #[true, true, true, true, true, true, true, true, true, true, true, true, true, true, true, true, true, true, true, true, true, true, true, true, true, true, true, true, true, true, true, true, true, true, true, true, true, true, true, true, true, true, true, true, true, true, true, false]) rfl (by kernel_rfl) rfl (fun _ _ _ h => h) hA (by decide) (fun _ => hS) (fun a w' hA => run_pick (hA.ev rfl) (fun h => Bool.noConfusion h) (fun _ => hA.ev rfl)) ?_; clear hA; intro a hA
        refine d_takef (i := 47) (L' := #[true, true, true, true, true, true, true, true, true, true, true, true, true, true, true, true, true, true, true, true, true, true, true, true, true, true, true, true, true, true, true, true, true, true, true, true, true, true, true, true, true, true, true, true, true, true, true, true]) rfl (by kernel_rfl) rfl (fun _ _ _ h => h) hA (by decide) (fun _ => hS) (fun a w' hA => run_assign (hA.ev rfl)) ?_; clear hA; intro a hA
        refine d_done (by kernel_rfl) ?_
        exact ⟨false, Option.some.inj H192, (hM.sel [] rfl (by decide)), (hA.nil.cons (hA.get 0 _ rfl))⟩
    · replace H192 := ite_f hb196 H192
      have hA := hA.re (t := 10) rfl (congrArg Value.bool hb196)
      refine d_skip (i := 4) (L' := #[true, true, true, true, true, false, false, false, false, false, false, false, false, false, false, false, false, false, false, false, false, false, false, false, false, false, false, false, false, false, false, false, false, false, false, false, false, false, false, false, false, false, false, false, false, false, false, false]) rfl (by kernel_rfl) rfl (fun _ _ _ h => h) rfl hA (by decide) (by decide) rfl rfl (fun _ => hS) ?_; clear hA; intro a hA
      refine d_skip (i := 5) (L' := #[true, true, true, true, true, true, false, false, false, false, false, false, false, false, false, false, false, false, false, false, false, false, false, false, false, false, false, false, false, false, false, false, false, false, false, false, false, false, false, false, false, false, false, false, false, false, false, false]) rfl (by kernel_rfl) rfl (fun _ _ _ h => h) rfl hA (by decide) (by decide) rfl rfl (fun _ => hS) ?_; clear hA; intro a hA
      refine d_skip (i := 6) (L' := #[true, true, true, true, true, true, true, false, false, false, false, false, false, false, false, false, false, false, false, false, false, false, false, false, false, false, false, false, false, false, false, false, false, false, false, false, false, false, false, false, false, false, false, false, false, false, false, false]) rfl (by kernel_rfl) rfl (fun _ _ _ h => h) rfl hA (by decide) (by decide) rfl rfl (fun _ => hS) ?_; clear hA; intro a hA
      refine d_skip (i := 7) (L' := #[true, true, true, true, true, true, true, true, false, false, false, false, false, false, false, false, false, false, false, false, false, false, false, false, false, false, false, false, false, false, false, false, false, false, false, false, false, false, false, false, false, false, false, false, false, false, false, false]) rfl (by kernel_rfl) rfl (fun _ _ _ h => h) rfl hA (by decide) (by decide) rfl rfl (fun _ => hS) ?_; clear hA; intro a hA
      refine d_skip (i := 8) (L' := #[true, true, true, true, true, true, true, true, true, false, false, false, false, false, false, false, false, false, false, false, false, false, false, false, false, false, false, false, false, false, false, false, false, false, false, false, false, false, false, false, false, false, false, false, false, false, false, false]) rfl (by kernel_rfl) rfl (fun _ _ _ h => h) rfl hA (by decide) (by decide) rfl rfl (fun _ => hS) ?_; clear hA; intro a hA
      refine d_skip (i := 9) (L' := #[true, true, true, true, true, true, true, true, true, true, false, false, false, false, false, false, false, false, false, false, false, false, false, false, false, false, false, false, false, false, false, false, false, false, false, false, false, false, false, false, false, false, false, false, false, false, false, false]) rfl (by kernel_rfl) rfl (fun _ _ _ h => h) rfl hA (by decide) (by decide) rfl rfl (fun _ => hS) ?_; clear hA; intro a hA
      refine d_skip (i := 10) (L' := #[true, true, true, true, true, true, true, true, true, true, true, false, false, false, false, false, false, false, false, false, false, false, false, false, false, false, false, false, false, false, false, false, false, false, false, false, false, false, false, false, false, false, false, false, false, false, false, false]) rfl (by kernel_rfl) rfl (fun _ _ _ h => h) rfl hA (by decide) (by decide) rfl rfl (fun _ => hS) ?_; clear hA; intro a hA
      refine d_skip (i := 11) (L' := #[true, true, true, true, true, true, true, true, true, true, true, true, false, false, false, false, false, false, false, false, false, false, false, false, false, false, false, false, false, false, false, false, false, false, false, false, false, false, false, false, false, false, false, false, false, false, false, false]) rfl (by kernel_rfl) rfl (fun _ _ _ h => h) rfl hA (by decide) (by decide) rfl rfl (fun _ => hS) ?_; clear hA; intro a hA
      refine d_skip (i := 12) (L' := #[true, true, true, true, true, true, true, true, true, true, true, true, true, false, false, false, false, false, false, false, false, false, false, false, false, false, false, false, false, false, false, false, false, false, false, false, false, false, false, false, false, false, false, false, false, false, false, false]) rfl (by kernel_rfl) rfl (fun _ _ _ h => h) rfl hA (by decide) (by decide) rfl rfl (fun _ => hS) ?_; clear hA; intro a hA
      refine d_takef (i := 13) (L' := #[true, true, true, true, true, true, true, true, true, true, true, true, true, true, false, false, false, false, false, false, false, false, false, false, false, false, false, false, false, false, false, false, false, false, false, false, false, false, false, false, false, false, false, false, false, false, false, false]) rfl (by kernel_rfl) rfl (fun _ _ _ h => h) hA (by decide) (fun _ => hS) (fun a w' hA => run_pick (hA.ev rfl) (fun h => Bool.noConfusion h) (fun _ => hA.ev rfl)) ?_; clear hA; intro a hA
      refine d_takef (i := 14) (L' := #[true, true, true, true, true, true, true, true, true, true, true, true, true, true, true, false, false, false, false, false, false, false, false, false, false, false, false, false, false, false, false, false, false, false, false, false, false, false, false, false, false, false, false, false, false, false, false, false]) rfl (by kernel_rfl) rfl (fun _ _ _ h => h) hA (by decide) (fun _ => hS) (fun a w' hA => run_move (hA.ev rfl)) ?_; clear hA; intro a hA
      refine d_skip (i := 15) (L' := #[true, true, true, true, true, true, true, true, true, true, true, true, true, true, true, true, false, false, false, false, false, false, false, false, false, false, false, false, false, false, false, false, false, false, false, false, false, false, false, false, false, false, false, false, false, false, false, false]) rfl (by kernel_rfl) rfl (fun _ _ _ h => h) rfl hA (by decide) (by decide) rfl rfl (fun _ => hS) ?_; clear hA; intro a hA
      refine d_skip (i := 16) (L' := #[true, true, true, true, true, true, true, true, true, true, true, true, true, true, true, true, true, false, false, false, false, false, false, false, false, false, false, false, false, false, false, false, false, false, false, false, false, false, false, false, false, false, false, false, false, false, false, false]) rfl (by kernel_rfl) rfl (fun _ _ _ h => h) rfl hA (by decide) (by decide) rfl rfl (fun _ => hS) ?_; clear hA; intro a hA
      refine d_skip (i := 17) (L' := #[true, true, true, true, true, true, true, true, true, true, true, true, true, true, true, true, true, true, false, false, false, false, false, false, false, false, false, false, false, false, false, false, false, false, false, false, false, false, false, false, false, false, false, false, false, false, false, false]) rfl (by kernel_rfl) rfl (fun _ _ _ h => h) rfl hA (by decide) (by decide) rfl rfl (fun _ => hS) ?_; clear hA; intro a hA
      refine d_skip (i := 18) (L' := #[true, true, true, true, true, true, true, true, true, true, true, true, true, true, true, true, true, true, true, false, false, false, false, false, false, false, false, false, false, false, false, false, false, false, false, false, false, false, false, false, false, false, false, false, false, false, false, false]) rfl (by kernel_rfl) rfl (fun _ _ _ h => h) rfl hA (by decide) (by decide) rfl rfl (fun _ => hS) ?_; clear hA; intro a hA
      refine d_skip (i := 19) (L' := #[true, true, true, true, true, true, true, true, true, true, true, true, true, true, true, true, true, true, true, true, false, false, false, false, false, false, false, false, false, false, false, false, false, false, false, false, false, false, false, false, false, false, false, false, false, false, false, false]) rfl (by kernel_rfl) rfl (fun _ _ _ h => h) rfl hA (by decide) (by decide) rfl rfl (fun _ => hS) ?_; clear hA; intro a hA
      refine d_skip (i := 20) (L' := #[true, true, true, true, true, true, true, true, true, true, true, true, true, true, true, true, true, true, true, true, true, false, false, false, false, false, false, false, false, false, false, false, false, false, false, false, false, false, false, false, false, false, false, false, false, false, false, false]) rfl (by kernel_rfl) rfl (fun _ _ _ h => h) rfl hA (by decide) (by decide) rfl rfl (fun _ => hS) ?_; clear hA; intro a hA
      refine d_skip (i := 21) (L' := #[true, true, true, true, true, true, true, true, true, true, true, true, true, true, true, true, true, true, true, true, true, true, false, false, false, false, false, false, false, false, false, false, false, false, false, false, false, false, false, false, false, false, false, false, false, false, false, false]) rfl (by kernel_rfl) rfl (fun _ _ _ h => h) rfl hA (by decide) (by decide) rfl rfl (fun _ => hS) ?_; clear hA; intro a hA
      refine d_skip (i := 22) (L' := #[true, true, true, true, true, true, true, true, true, true, true, true, true, true, true, true, true, true, true, true, true, true, true, false, false, false, false, false, false, false, false, false, false, false, false, false, false, false, false, false, false, false, false, false, false, false, false, false]) rfl (by kernel_rfl) rfl (fun _ _ _ h => h) rfl hA (by decide) (by decide) rfl rfl (fun _ => hS) ?_; clear hA; intro a hA
      refine d_skip (i := 23) (L' := #[true, true, true, true, true, true, true, true, true, true, true, true, true, true, true, true, true, true, true, true, true, true, true, true, false, false, false, false, false, false, false, false, false, false, false, false, false, false, false, false, false, false, false, false, false, false, false, false]) rfl (by kernel_rfl) rfl (fun _ _ _ h => h) rfl hA (by decide) (by decide) rfl rfl (fun _ => hS) ?_; clear hA; intro a hA
      refine d_takef (i := 24) (L' := #[true, true, true, true, true, true, true, true, true, true, true, true, true, true, true, true, true, true, true, true, true, true, true, true, true, false, false, false, false, false, false, false, false, false, false, false, false, false, false, false, false, false, false, false, false, false, false, false]) rfl (by kernel_rfl) rfl (fun _ _ _ h => h) hA (by decide) (fun _ => hS) (fun a w' hA => run_pick (hA.ev rfl) (fun h => Bool.noConfusion h) (fun _ => hA.ev rfl)) ?_; clear hA; intro a hA
      refine d_takef (i := 25) (L' := #[true, true, true, true, true, true, true, true, true, true, true, true, true, true, true, true, true, true, true, true, true, true, true, true, true, true, false, false, false, false, false, false, false, false, false, false, false, false, false, false, false, false, false, false, false, false, false, false]) rfl (by kernel_rfl) rfl (fun _ _ _ h => h) hA (by decide) (fun _ => hS) (fun a w' hA => run_move (hA.ev rfl)) ?_; clear hA; intro a hA
      refine d_skip (i := 26) (L' := #[true, true, true, true, true, true, true, true, true, true, true, true, true, true, true, true, true, true, true, true, true, true, true, true, true, true, true, false, false, false, false, false, false, false, false, false, false, false, false, false, false, false, false, false, false, false, false, false]) rfl (by kernel_rfl) rfl (fun _ _ _ h => h) rfl hA (by decide) (by decide) rfl rfl (fun _ => hS) ?_; clear hA; intro a hA
      refine d_skip (i := 27) (L' := #[true, true, true, true, true, true, true, true, true, true, true, true, true, true, true, true, true, true, true, true, true, true, true, true, true, true, true, true, false, false, false, false, false, false, false, false, false, false, false, false, false, false, false, false, false, false, false, false]) rfl (by kernel_rfl) rfl (fun _ _ _ h => h) rfl hA (by decide) (by decide) rfl rfl (fun _ => hS) ?_; clear hA; intro a hA
      refine d_skip (i := 28) (L' := #[true, true, true, true, true, true, true, true, true, true, true, true, true, true, true, true, true, true, true, true, true, true, true, true, true, true, true, true, true, false, false, false, false, false, false, false, false, false, false, false, false, false, false, false, false, false, false, false]) rfl (by kernel_rfl) rfl (fun _ _ _ h => h) rfl hA (by decide) (by decide) rfl rfl (fun _ => hS) ?_; clear hA; intro a hA
      refine d_skip (i := 29) (L' := #[true, true, true, true, true, true, true, true, true, true, true, true, true, true, true, true, true, true, true, true, true, true, true, true, true, true, true, true, true, true, false, false, false, false, false, false, false, false, false, false, false, false, false, false, false, false, false, false]) rfl (by kernel_rfl) rfl (fun _ _ _ h => h) rfl hA (by decide) (by decide) rfl rfl (fun _ => hS) ?_; clear hA; intro a hA
      refine d_skip (i := 30) (L' := #[true, true, true, true, true, true, true, true, true, true, true, true, true, true, true, true, true, true, true, true, true, true, true, true, true, true, true, true, true, true, true, false, false, false, false, false, false, false, false, false, false, false, false, false, false, false, false, false]) rfl (by kernel_rfl) rfl (fun _ _ _ h => h) rfl hA (by decide) (by decide) rfl rfl (fun _ => hS) ?_; clear hA; intro a hA
      refine d_skip (i := 31) (L' := #[true, true, true, true, true, true, true, true, true, true, true, true, true, true, true, true, true, true, true, true, true, true, true, true, true, true, true, true, true, true, true, true, false, false, false, false, false, false, false, false, false, false, false, false, false, false, false, false]) rfl (by kernel_rfl) rfl (fun _ _ _ h => h) rfl hA (by decide) (by decide) rfl rfl (fun _ => hS) ?_; clear hA; intro a hA
      refine d_skip (i := 32) (L' := #[true, true, true, true, true, true, true, true, true, true, true, true, true, true, true, true, true, true, true, true, true, true, true, true, true, true, true, true, true, true, true, true, true, false, false, false, false, false, false, false, false, false, false, false, false, false, false, false]) rfl (by kernel_rfl) rfl (fun _ _ _ h => h) rfl hA (by decide) (by decide) rfl rfl (fun _ => hS) ?_; clear hA; intro a hA
      refine d_skip (i := 33) (L' := #[true, true, true, true, true, true, true, true, true, true, true, true, true, true, true, true, true, true, true, true, true, true, true, true, true, true, true, true, true, true, true, true, true, true, false, false, false, false, false, false, false, false, false, false, false, false, false, false]) rfl (by kernel_rfl) rfl (fun _ _ _ h => h) rfl hA (by decide) (by decide) rfl rfl (fun _ => hS) ?_; clear hA; intro a hA
      refine d_skip (i := 34) (L' := #[true, true, true, true, true, true, true, true, true, true, true, true, true, true, true, true, true, true, true, true, true, true, true, true, true, true, true, true, true, true, true, true, true, true, true, false, false, false, false, false, false, false, false, false, false, false, false, false]) rfl (by kernel_rfl) rfl (fun _ _ _ h => h) rfl hA (by decide) (by decide) rfl rfl (fun _ => hS) ?_; clear hA; intro a hA
      refine d_takef (i := 35) (L' := #[true, true, true, true, true, true, true, true, true, true, true, true, true, true, true, true, true, true, true, true, true, true, true, true, true, true, true, true, true, true, true, true, true, true, true, true, false, false, false, false, false, false, false, false, false, false, false, false]) rfl (by kernel_rfl) rfl (fun _ _ _ h => h) hA (by decide) (fun _ => hS) (fun a w' hA => run_pick (hA.ev rfl) (fun h => Bool.noConfusion h) (fun _ => hA.ev rfl)) ?_; clear hA; intro a hA
      refine d_takef (i := 36) (L' := #[true, true, true, true, true, true, true, true, true, true, true, true, true, true, true, true, true, true, true, true, true, true, true, true, true, true, true, true, true, true, true, true, true, true, true, true, true, false, false, false, false, false, false, false, false, false, false, false]) rfl (by kernel_rfl) rfl (fun _ _ _ h => h) hA (by decide) (fun _ => hS) (fun a w' hA => run_move (hA.ev rfl)) ?_; clear hA; intro a hA
      refine d_skip (i := 37) (L' := #[true, true, true, true, true, true, true, true, true, true, true, true, true, true, true, true, true, true, true, true, true, true, true, true, true, true, true, true, true, true, true, true, true, true, true, true, true, true, false, false, false, false, false, false, false, false, false, false]) rfl (by kernel_rfl) rfl (fun _ _ _ h => h) rfl hA (by decide) (by decide) rfl rfl (fun _ => hS) ?_; clear hA; intro a hA
      refine d_one (i := 38) (L' := #[true, true, true, true, true, true, true, true, true, true, true, true, true, true, true, true, true, true, true, true, true, true, true, true, true, true, true, true, true, true, true, true, true, true, true, true, true, true, true, false, false, false, false, false, false, false, false, false]) (by kernel_rfl) rfl rfl (gate_off rfl (by decide) rfl hA (by decide) rfl rfl ?_); clear hA; intro a hA
      refine ⟨fun _ => hS, ?_⟩
      refine d_skip (i := 39) (L' := #[true, true, true, true, true, true, true, true, true, true, true, true, true, true, true, true, true, true, true, true, true, true, true, true, true, true, true, true, true, true, true, true, true, true, true, true, true, true, true, true, false, false, false, false, false, false, false, false]) rfl (by kernel_rfl) rfl (fun _ _ _ h => h) rfl hA (by decide) (by decide) rfl rfl (fun _ => hS) ?_; clear hA; intro a hA
      refine d_takef (i := 40) (L' := #[true, true, true, true, true, true, true, true, true, true, true, true, true, true, true, true, true, true, true, true, true, true, true, true, true, true, true, true, true, true, true, true, true, true, true, true, true, true, true, true, true, false, false, false, false, false, false, false]) rfl (by kernel_rfl) rfl (fun _ _ _ h => h) hA (by decide) (fun _ => hS) (fun a w' hA => run_pick (hA.ev rfl) (fun h => Bool.noConfusion h) (fun _ => hA.ev rfl)) ?_; clear hA; intro a hA
      refine d_takef (i := 41) (L' := #[true, true, true, true, true, true, true, true, true, true, true, true, true, true, true, true, true, true, true, true, true, true, true, true, true, true, true, true, true, true, true, true, true, true, true, true, true, true, true, true, true, true, false, false, false, false, false, false]) rfl (by kernel_rfl) rfl (fun _ _ _ h => h) hA (by decide) (fun _ => hS) (fun a w' hA => run_move (hA.ev rfl)) ?_; clear hA; intro a hA
      refine d_skip (i := 42) (L' := #[true, true, true, true, true, true, true, true, true, true, true, true, true, true, true, true, true, true, true, true, true, true, true, true, true, true, true, true, true, true, true, true, true, true, true, true, true, true, true, true, true, true, true, false, false, false, false, false]) rfl (by kernel_rfl) rfl (fun _ _ _ h => h) rfl hA (by decide) (by decide) rfl rfl (fun _ => hS) ?_; clear hA; intro a hA
      refine d_one (i := 43) (L' := #[true, true, true, true, true, true, true, true, true, true, true, true, true, true, true, true, true, true, true, true, true, true, true, true, true, true, true, true, true, true, true, true, true, true, true, true, true, true, true, true, true, true, true, true, false, false, false, false]) (by kernel_rfl) rfl rfl (gate_off rfl (by decide) rfl hA (by decide) rfl rfl ?_); clear hA; intro a hA
      refine ⟨fun _ => hS, ?_⟩
      refine d_skip (i := 44) (L' := #[true, true, true, true, true, true, true, true, true, true, true, true, true, true, true, true, true, true, true, true, true, true, true, true, true, true, true, true, true, true, true, true, true, true, true, true, true, true, true, true, true, true, true, true, true, false, false, false]) rfl (by kernel_rfl) rfl (fun _ _ _ h => h) rfl hA (by decide) (by decide) rfl rfl (fun _ => hS) ?_; clear hA; intro a hA
      refine d_skip (i := 45) (L' := #[true, true, true, true, true, true, true, true, true, true, true, true, true, true, true, true, true, true, true, true, true, true, true, true, true, true, true, true, true, true, true, true, true, true, true, true, true, true, true, true, true, true, true, true, true, true, false, false]) rfl (by kernel_rfl) rfl (fun _ _ _ h => h) rfl hA (by decide) (by decide) rfl rfl (fun _ => hS) ?_; clear hA; intro a hA
      refine d_takef (i := 46) (L' := #[true, true, true, true, true, true, true, true, true, true, true, true, true, true, true, true, true, true, true, true, true, true, true, true, true, true, true, true, true, true, true, true, true, true, true, true, true, true, true, true, true, true, true, true, true, true, true, false]) rfl (by kernel_rfl) rfl (fun _ _ _ h => h) hA (by decide) (fun _ => hS) (fun a w' hA => run_pick (hA.ev rfl) (fun h => Bool.noConfusion h) (fun _ => hA.ev rfl)) ?_; clear hA; intro a hA
      refine d_takef (i := 47) (L' := #[true, true, true, true, true, true, true, true, true, true, true, true, true, true, true, true, true, true, true, true, true, true, true, true, true, true, true, true, true, true, true, true, true, true, true, true, true, true, true, true, true, true, true, true, true, true, true, true]) rfl (by kernel_rfl) rfl (fun _ _ _ h => h) hA (by decide) (fun _ => hS) (fun a w' hA => run_assign (hA.ev rfl)) ?_; clear hA; intro a hA
      refine d_done (by kernel_rfl) ?_
      exact ⟨false, Option.some.inj H192, (hM.sel [] rfl (by decide)), (hA.nil.cons (hA.get 0 _ rfl))⟩
  clear hM hA
  rintro a w240 ⟨t191, rfl, hM, hA⟩
  try dsimp only at H
  refine TN ?_
  refine wp_ret ?_
  obtain rfl := Option.some.inj H
  exact ret_post1 (fn := Try.f8) hA rfl rfl ⟨_, rfl, rfl, hM⟩

def slices_Reverse_int.l0 (s_0 : (List Int)) : Nat → (List Int) → Int → Int → Option ((List Int))
  | 0, _, _, _ => none
  | k + 1, xs219, i221, j223 => (if (decide (i221 < j223)) = true then (if 0 ≤ j223 ∧ j223 < ((s_0.length : Nat) : Int) then (if 0 ≤ i221 ∧ i221 < ((s_0.length : Nat) : Int) then (if 0 ≤ i221 ∧ i221 < ((s_0.length : Nat) : Int) then (if 0 ≤ j223 ∧ j223 < ((s_0.length : Nat) : Int) then (slices_Reverse_int.l0 s_0 k ((xs219.set i221.toNat (xs219.getD j223.toNat (0 : Int))).set j223.toNat (xs219.getD i221.toNat (0 : Int))) (IntKind.i64.wrap (i221 + 1)) (IntKind.i64.wrap (j223 - 1))) else none) else none) else none) else none) else (some xs219))
def slices_Reverse_int.f (k : Nat) (s_0 : (List Int)) : Option (List Int) := (Option.bind (α := (List Int)) (slices_Reverse_int.l0 s_0 k s_0 0 (IntKind.i64.wrap (((s_0.length : Nat) : Int) - 1))) (fun xs224 => (some xs224)))
set_option maxRecDepth 100000 in
theorem slices_Reverse_int.calls (k : Nat) (s_0 : (List Int)) (F : List (Option Nat)) (v0 : Value) (r : (List Int)) (w0 : World) (hM : Mem F w0 w0 [.row 3 (Pl.int .i64).sz v0 ((Pl.int .i64).flat s_0)]) (H : slices_Reverse_int.f k s_0 = some r) :
    Calls Try.prog 30 #[v0] w0 fun e w' => ∃ v, e = .returned v ∧ v = (.tuple #[]) ∧ Mem F w0 w' [.row 3 (Pl.int .i64).sz v0 ((Pl.int .i64).flat r)] := by
  unfold slices_Reverse_int.f at H
  obtain ⟨A0, c0, rfl⟩ := RowOk.form (hM.row (p := (Pl.int .i64)) .z)
  refine enterL (n := 28) [(.slice A0 s_0.length c0)] Try.func30 rfl rfl rfl ?_
  intro a hA
  refine wp_seq ?_
  refine wp_region_lit ?_
  refine L1 (stv hA (by decide) (run_move (hA.ev rfl)) ?_)
  clear hA; intro a hA
  refine L1 (stv hA (by decide) (run_len_slice Try.underlying31 (hA.ev rfl)) ?_)
  clear hA; intro a hA
  refine L1 (stv hA (by decide) (run_bin (hA.ev rfl) (hA.ev rfl) (bin_sub _ _ _ _)) ?_)
  clear hA; intro a hA
  refine L1 (stv hA (by decide) (run_assign (hA.ev rfl)) ?_)
  clear hA; intro a hA
  refine L1 (stv hA (by decide) (run_assign (hA.ev rfl)) ?_)
  clear hA; intro a hA
  refine LQ ?_
  refine TN ?_
  obtain ⟨o226, H225, H⟩ := Option.bind_eq_some_iff.1 H
  refine cutC (fun a w => ∃ (xs224 : (List Int)), xs224 = o226 ∧ Mem F w0 w [.row 3 (Pl.int .i64).sz (.slice A0 s_0.length c0) ((Pl.int .i64).flat xs224)] ∧ Has 28 [] a) ?_ ?_
  · refine wp_block ?_
    refine wp_loop_ghost (fun m a w => ∃ (xs219 : (List Int)) (i221 : Int) (j223 : Int), slices_Reverse_int.l0 s_0 m xs219 i221 j223 = some o226 ∧ Mem F w0 w [.row 3 (Pl.int .i64).sz (.slice A0 s_0.length c0) ((Pl.int .i64).flat xs219)] ∧ Has 28 [(0, (.slice A0 s_0.length c0)), (2, (.int .i64 i221)), (3, (.int .i64 j223))] a) k ⟨s_0, 0, IntKind.i64.wrap (((s_0.length : Nat) : Int) - 1), H225, hM, (((hA.nil.cons (hA.get 3 _ rfl)).cons (hA.get 2 _ rfl)).cons (hA.get 0 _ rfl))⟩ ?_
    clear hM hA; rintro m227 a w228 ⟨xs219, i221, j223, H225, hM, hA⟩
    cases m227 with
    | zero => exact absurd H225 (by simp [slices_Reverse_int.l0])
    | succ m227 =>
    rw [slices_Reverse_int.l0] at H225
    refine wp_seq ?_
    refine wp_seq ?_
    refine wp_region_lit ?_
    refine L1 (stv hA (by decide) (run_move (hA.ev rfl)) ?_)
    clear hA; intro a hA
    refine L1 (stv hA (by decide) (run_move (hA.ev rfl)) ?_)
    clear hA; intro a hA
    refine L1 (stv hA (by decide) (run_bin (hA.ev rfl) (hA.ev rfl) (bin_lss _ _ _ _)) ?_)
    clear hA; intro a hA
    refine LQ ?_
    refine TN ?_
    refine tcond (b := (decide (i221 < j223))) hA rfl (fun hb229 => ?_) (fun hb229 => ?_)
    · replace H225 := ite_t hb229 H225
      refine wp_skip ?_
      refine TN ?_
      refine wp_seq ?_
      refine wp_block ?_
      refine draw (fun w' => Below w228.heap.size w228 w') [13, 15] rfl ?_
      intro w230 hw hS; replace hM := hM.ext hS; clear hw
      refine d_takef (i := 0) (L' := #[true, false, false, false, false, false, false, false, false, false, false, false, false, false, false, false]) rfl (by kernel_rfl) rfl (fun _ _ _ h => h) hA (by decide) (fun _ => hS) (fun a w' hA => run_move (hA.ev rfl)) ?_; clear hA; intro a hA
      refine d_takef (i := 1) (L' := #[true, true, false, false, false, false, false, false, false, false, false, false, false, false, false, false]) rfl (by kernel_rfl) rfl (fun _ _ _ h => h) hA (by decide) (fun _ => hS) (fun a w' hA => run_move (hA.ev rfl)) ?_; clear hA; intro a hA
      refine d_takef (i := 2) (L' := #[true, true, true, false, false, false, false, false, false, false, false, false, false, false, false, false]) rfl (by kernel_rfl) rfl (fun _ _ _ h => h) hA (by decide) (fun _ => hS) (fun a w' hA => run_move (hA.ev rfl)) ?_; clear hA; intro a hA
      refine d_takef (i := 3) (L' := #[true, true, true, true, false, false, false, false, false, false, false, false, false, false, false, false]) rfl (by kernel_rfl) rfl (fun _ _ _ h => h) hA (by decide) (fun _ => hS) (fun a w' hA => run_move (hA.ev rfl)) ?_; clear hA; intro a hA
      refine d_takef (i := 4) (L' := #[true, true, true, true, true, false, false, false, false, false, false, false, false, false, false, false]) rfl (by kernel_rfl) rfl (fun _ _ _ h => h) hA (by decide) (fun _ => hS) (fun a w' hA => run_move (hA.ev rfl)) ?_; clear hA; intro a hA
      refine d_takef (i := 5) (L' := #[true, true, true, true, true, true, false, false, false, false, false, false, false, false, false, false]) rfl (by kernel_rfl) rfl (fun _ _ _ h => h) hA (by decide) (fun _ => hS) (fun a w' hA => run_move (hA.ev rfl)) ?_; clear hA; intro a hA
      obtain ⟨⟨hi232, hj233⟩, H225⟩ := ite_some H225
      obtain ⟨ad234, hq235, hat236⟩ := Row.elem' (p := (Pl.int .i64)) (RowOk.row (hM.row (p := (Pl.int .i64)) .z)) (RowOk.len (hM.row (p := (Pl.int .i64)) .z)) (0 : Int) j223 hi232 hj233
      refine d_takef (i := 6) (L' := #[true, true, true, true, true, true, true, false, false, false, false, false, false, false, false, false]) rfl (by kernel_rfl) rfl (fun _ _ _ h => h) hA (by decide) (fun _ => hS) (fun a w' hA => run_idx Try.underlying31 Try.sizeOf3 (hA.ev rfl) hq235 (hA.ev rfl) hi232 hj233) ?_; clear hA; intro a hA
      refine rebase hS ?_; clear hS; intro hS
      refine d_take (i := 7) (L' := #[true, true, true, true, true, true, true, true, false, false, false, false, false, false, false, false]) rfl (by kernel_rfl) rfl (fun _ _ _ h => h) hA (by decide) rfl hS (fun a w' hA hS' => run_ld (hA.ev rfl) (run_loadS Try.isAgg3 ((hat236).extB hS'))) ?_; clear hA; intro a hA
      refine d_takef (i := 8) (L' := #[true, true, true, true, true, true, true, true, true, false, false, false, false, false, false, false]) rfl (by kernel_rfl) rfl (fun _ _ _ h => h) hA (by decide) (fun _ => hS) (fun a w' hA => run_move (hA.ev rfl)) ?_; clear hA; intro a hA
      refine d_takef (i := 9) (L' := #[true, true, true, true, true, true, true, true, true, true, false, false, false, false, false, false]) rfl (by kernel_rfl) rfl (fun _ _ _ h => h) hA (by decide) (fun _ => hS) (fun a w' hA => run_move (hA.ev rfl)) ?_; clear hA; intro a hA
      obtain ⟨⟨hi237, hj238⟩, H225⟩ := ite_some H225
      obtain ⟨ad239, hq240, hat241⟩ := Row.elem' (p := (Pl.int .i64)) (RowOk.row (hM.row (p := (Pl.int .i64)) .z)) (RowOk.len (hM.row (p := (Pl.int .i64)) .z)) (0 : Int) i221 hi237 hj238
      refine d_takef (i := 10) (L' := #[true, true, true, true, true, true, true, true, true, true, true, false, false, false, false, false]) rfl (by kernel_rfl) rfl (fun _ _ _ h => h) hA (by decide) (fun _ => hS) (fun a w' hA => run_idx Try.underlying31 Try.sizeOf3 (hA.ev rfl) hq240 (hA.ev rfl) hi237 hj238) ?_; clear hA; intro a hA
      refine d_take (i := 11) (L' := #[true, true, true, true, true, true, true, true, true, true, true, true, false, false, false, false]) rfl (by kernel_rfl) rfl (fun _ _ _ h => h) hA (by decide) rfl hS (fun a w' hA hS' => run_ld (hA.ev rfl) (run_loadS Try.isAgg3 ((hat241).extB hS'))) ?_; clear hA; intro a hA
      obtain ⟨⟨hi242, hj243⟩, H225⟩ := ite_some H225
      obtain ⟨ad244, hq245, hat246⟩ := Row.elem' (p := (Pl.int .i64)) (RowOk.row (hM.row (p := (Pl.int .i64)) .z)) (RowOk.len (hM.row (p := (Pl.int .i64)) .z)) (0 : Int) i221 hi242 hj243
      refine d_takef (i := 12) (L' := #[true, true, true, true, true, true, true, true, true, true, true, true, true, false, false, false]) rfl (by kernel_rfl) rfl (fun _ _ _ h => h) hA (by decide) (fun _ => hS) (fun a w' hA => run_idx Try.underlying31 Try.sizeOf3 (hA.ev rfl) hq245 (hA.ev rfl) hi242 hj243) ?_; clear hA; intro a hA
      refine d_one (i := 13) (L' := #[true, true, true, true, true, true, true, true, true, true, true, true, true, true, false, false]) (by kernel_rfl) rfl rfl (e_setrow (x1 := (xs219.getD i221.toNat (0 : Int))) (y1 := (xs219.getD j223.toNat (0 : Int))) (off := 0) hM .z Try.sizeOf3 hA rfl rfl hq245 rfl (by first | rfl | simp [Value.cells, Pl.len]) (one_val rfl) hi242 hj243 (getD_getD _ _ _) (by decide) (spl_all (by first | rfl | simp [Value.cells, Pl.len] | (simp only [Value.cells, Pl.len, List.length_cons, List.length_nil]; done))) ?_)
      clear hM hA; intro w247 hM hE a hA
      refine ⟨fun h => absurd h (by decide), ?_⟩
      obtain ⟨⟨hi248, hj249⟩, H225⟩ := ite_some H225
      obtain ⟨ad250, hq251, hat252⟩ := Row.elem' (p := (Pl.int .i64)) (RowOk.row (hM.row (p := (Pl.int .i64)) .z)) (RowOk.len (hM.row (p := (Pl.int .i64)) .z)) (0 : Int) j223 hi248 hj249
      refine d_takef (i := 14) (L' := #[true, true, true, true, true, true, true, true, true, true, true, true, true, true, true, false]) rfl (by kernel_rfl) rfl (fun _ _ _ h => h) hA (by decide) (fun h => absurd h (by decide)) (fun a w' hA => run_idx Try.underlying31 Try.sizeOf3 (hA.ev rfl) hq251 (hA.ev rfl) hi248 hj249) ?_; clear hA; intro a hA
      refine d_one (i := 15) (L' := #[true, true, true, true, true, true, true, true, true, true, true, true, true, true, true, true]) (by kernel_rfl) rfl rfl (e_setrow (x1 := ((xs219.set i221.toNat (xs219.getD j223.toNat (0 : Int))).getD j223.toNat (0 : Int))) (y1 := (xs219.getD i221.toNat (0 : Int))) (off := 0) hM .z Try.sizeOf3 hA rfl rfl hq251 rfl (by first | rfl | simp [Value.cells, Pl.len]) (one_val rfl) hi248 hj249 (getD_getD _ _ _) (by decide) (spl_all (by first | rfl | simp [Value.cells, Pl.len] | (simp only [Value.cells, Pl.len, List.length_cons, List.length_nil]; done))) ?_)
      clear hM hA; intro w253 hM hE a hA
      refine ⟨fun h => absurd h (by decide), ?_⟩
      refine d_done (by kernel_rfl) ?_
      refine BN ?_
      refine TN ?_
      refine wp_region_lit ?_
      refine L1 (stv hA (by decide) (run_move (hA.ev rfl)) ?_)
      clear hA; intro a hA
      refine L1 (stv hA (by decide) (run_bin (hA.ev rfl) (hA.ev rfl) (bin_add _ _ _ _)) ?_)
      clear hA; intro a hA
      refine L1 (stv hA (by decide) (run_move (hA.ev rfl)) ?_)
      clear hA; intro a hA
      refine L1 (stv hA (by decide) (run_bin (hA.ev rfl) (hA.ev rfl) (bin_sub _ _ _ _)) ?_)
      clear hA; intro a hA
      refine L1 (stv hA (by decide) (run_assign (hA.ev rfl)) ?_)
      clear hA; intro a hA
      refine L1 (stv hA (by decide) (run_assign (hA.ev rfl)) ?_)
      clear hA; intro a hA
      refine LQ ?_
      exact ⟨_, Nat.lt_succ_self m227, ((xs219.set i221.toNat (xs219.getD j223.toNat (0 : Int))).set j223.toNat (xs219.getD i221.toNat (0 : Int))), IntKind.i64.wrap (i221 + 1), IntKind.i64.wrap (j223 - 1), H225, hM, (((hA.nil.cons (hA.get 3 _ rfl)).cons (hA.get 2 _ rfl)).cons (hA.get 0 _ rfl))⟩
    · replace H225 := ite_f hb229 H225
      refine wp_exit ?_
      refine TX ?_
      refine TX ?_
      refine BX ?_
      exact ⟨xs219, Option.some.inj H225, hM, hA.nil⟩
  clear hM hA
  rintro a w254 ⟨xs224, rfl, hM, hA⟩
  try dsimp only at H
  refine nret ?_
  obtain rfl := Option.some.inj H
  exact ret_post0 (fn := Try.f30) hA rfl  ⟨_, rfl, rfl, hM⟩

def branch_Path.f (k : Nat) (t_0 : Tree) (from_1 : Int) (to_2 : Int) : Option ((List Int) × (List Int)) := ((branch_has.f k (Tree.mk t_0.Nodes t_0.Best) [from_1, to_2]).bind fun r43 => (if (!r43) = true then (some (([] : List Int), ([] : List Int))) else ((branch_chain.f k (Tree.mk t_0.Nodes t_0.Best) from_1).bind fun r51 => ((branch_chain.f k (Tree.mk t_0.Nodes t_0.Best) to_2).bind fun r57 => ((branch_common.f k r51 r57).bind fun r63 => (if 0 ≤ (IntKind.i64.wrap (r63 + 1)) ∧ (IntKind.i64.wrap (r63 + 1)) ≤ ((r51.length : Nat) : Int) then (if 0 ≤ (IntKind.i64.wrap (r63 + 1)) ∧ (IntKind.i64.wrap (r63 + 1)) ≤ ((r57.length : Nat) : Int) then ((slices_Reverse_int.f k (r51.drop ((IntKind.i64.wrap (r63 + 1)).toNat))).bind fun r72 => (some (r72, (r57.drop ((IntKind.i64.wrap (r63 + 1)).toNat))))) else none) else none))))))
set_option maxRecDepth 100000 in
theorem branch_Path.calls (k : Nat) (t_0 : Tree) (from_1 : Int) (to_2 : Int) (F : List (Option Nat)) (v0_0 : Value) (r : ((List Int) × (List Int))) (w0 : World) (h0_0 : RoV F pNode w0 v0_0 t_0.Nodes) (hM : Mem F w0 w0 []) (H : branch_Path.f k t_0 from_1 to_2 = some r) :
    Calls Try.prog 19 #[(.agg #[v0_0, (.int .i64 t_0.Best)]), (.int .i64 from_1), (.int .i64 to_2)] w0 fun e w' => ∃ v, e = .returned v ∧ ∃ (ur_0 : Value) (ur_1 : Value), v = (.tuple #[ur_0, ur_1]) ∧ Mem F w0 w' [.row 3 (Pl.int .i64).sz ur_0 ((Pl.int .i64).flat r.1), .row 3 (Pl.int .i64).sz ur_1 ((Pl.int .i64).flat r.2)] := by
  unfold branch_Path.f at H
  obtain ⟨A0_0, c0_0, rfl, hr0_0, hc0_0⟩ := h0_0
  refine enterL (n := 35) [(.agg #[(.slice A0_0 t_0.Nodes.length c0_0), (.int .i64 t_0.Best)]), (.int .i64 from_1), (.int .i64 to_2)] Try.func19 rfl rfl rfl ?_
  intro a hA
  refine wp_seq ?_
  refine wp_region_lit ?_
  refine L1 (e_box (cs := [(.slice A0_0 t_0.Nodes.length c0_0), (.int .i64 t_0.Best)]) hM hA rfl rfl (by decide) ?_)
  clear hM hA; intro w38 g37 hM hE a hA
  refine L1 (stv hA (by decide) (run_assign (hA.ev rfl)) ?_)
  clear hA; intro a hA
  refine L1 (stv hA (by decide) (run_assign (hA.ev rfl)) ?_)
  clear hA; intro a hA
  refine LQ ?_
  refine TN ?_
  refine wp_seq ?_
  refine wp_seq ?_
  refine wp_region_lit ?_
  refine L1 (stv hA (by decide) (run_ld (hA.ev rfl) (run_loadW Try.isAgg24 Try.sizeOf24 (by simp [Pl.len]; try rfl) (hM.box .z))) ?_)
  clear hA; intro a hA
  refine L1 (stv hA (by decide) (run_move (hA.ev rfl)) ?_)
  clear hA; intro a hA
  refine L1 (stv hA (by decide) (run_move (hA.ev rfl)) ?_)
  clear hA; intro a hA
  refine L1 (e_litN [from_1, to_2] [(.int .i64 from_1), (.int .i64 to_2)] elt31 hM rfl (by decide) hA rfl rfl (List.cons_ne_nil _ _) (by decide) ?_)
  clear hM hA; intro w41 g40 hM hE a hA
  obtain ⟨r43, H44, H⟩ := Option.bind_eq_some_iff.1 H
  refine L1 (st_call Try.call27 hA [(.agg #[(.slice A0_0 t_0.Nodes.length c0_0), (.int .i64 t_0.Best)]), (.slice (some ⟨g40, 0, none⟩) 2 2)] rfl (by decide) (branch_has.calls _ _ _ _ _ _ _ _ ((RoV.mk (hM.roC (Ms := []) hr0_0) (Eq.refl t_0.Nodes.length) hc0_0)) ((RoV.mk (hM.rowC (p := (Pl.int .i64)) (Ms := []) .z) (RowOk.len (hM.row (p := (Pl.int .i64)) .z)) (RowOk.cap (hM.row (p := (Pl.int .i64)) .z)))) (hM.front (Ms := [])) H44) ?_)
  clear hA; rintro _ w45 ⟨rfl, hMc⟩ a hA
  have hE := hMc.below; have hM := hM.call (Ms := []) hMc
  clear hMc; simp only [List.cons_append, List.nil_append] at hM
  refine L1 (stv hA (by decide) (run_not (hA.ev rfl)) ?_)
  clear hA; intro a hA
  refine LQ ?_
  refine TN ?_
  refine tcond (b := (!r43)) hA rfl (fun hb46 => ?_) (fun hb46 => ?_)
  · replace H := ite_t hb46 H
    refine wp_seq ?_
    refine wp_region_lit ?_
    refine L1 (stv hA (by decide) (run_assign (hA.ev rfl)) ?_)
    clear hA; intro a hA
    refine L1 (stv hA (by decide) (run_assign (hA.ev rfl)) ?_)
    clear hA; intro a hA
    refine LQ ?_
    refine TN ?_
    refine wp_ret ?_
    have hM := hM.addnil 3 ((Pl.int .i64)).sz
    have hM := hM.addnil 3 ((Pl.int .i64)).sz
    obtain rfl := Option.some.inj H
    refine TR ?_
    exact ret_post2 (fn := Try.f19) hA rfl rfl rfl ⟨_, rfl, (.slice none 0 0), (.slice none 0 0), rfl, (hM.sel [1, 0] rfl (by decide))⟩
  · replace H := ite_f hb46 H
    refine wp_skip ?_
    refine TN ?_
    refine wp_seq ?_
    refine draw (fun w' => Below w45.heap.size w45 w') [] rfl ?_
    intro w49 hw hS; replace hM := hM.ext hS; clear hw
    refine rebase hS ?_; clear hS; intro hS
    refine d_take (i := 0) (L' := #[true, false, false, false, false, false, false, false]) rfl (by kernel_rfl) rfl (fun _ _ _ h => h) hA (by decide) rfl hS (fun a w' hA hS' => run_ld (hA.ev rfl) (run_loadW Try.isAgg24 Try.sizeOf24 (by simp [Pl.len]; try rfl) ((hM.box (.s .z)).extB hS'))) ?_; clear hA; intro a hA
    refine d_takef (i := 1) (L' := #[true, true, false, false, false, false, false, false]) rfl (by kernel_rfl) rfl (fun _ _ _ h => h) hA (by decide) (fun _ => hS) (fun a w' hA => run_move (hA.ev rfl)) ?_; clear hA; intro a hA
    refine d_take (i := 3) (L' := #[true, true, false, true, false, false, false, false]) rfl (by kernel_rfl) rfl (fun _ _ _ h => h) hA (by decide) rfl hS (fun a w' hA hS' => run_ld (hA.ev rfl) (run_loadW Try.isAgg24 Try.sizeOf24 (by simp [Pl.len]; try rfl) ((hM.box (.s .z)).extB hS'))) ?_; clear hA; intro a hA
    refine d_takef (i := 4) (L' := #[true, true, false, true, true, false, false, false]) rfl (by kernel_rfl) rfl (fun _ _ _ h => h) hA (by decide) (fun _ => hS) (fun a w' hA => run_move (hA.ev rfl)) ?_; clear hA; intro a hA
    obtain ⟨r51, H52, H⟩ := Option.bind_eq_some_iff.1 H
    refine d_one (i := 2) (L' := #[true, true, true, true, true, false, false, false]) (by kernel_rfl) rfl rfl (st_call Try.call24 hA [(.agg #[(.slice A0_0 t_0.Nodes.length c0_0), (.int .i64 t_0.Best)]), (.int .i64 from_1)] rfl (by decide) (branch_chain.calls _ _ _ _ _ _ _ ((RoV.mk (hM.roC (Ms := []) hr0_0) (Eq.refl t_0.Nodes.length) hc0_0)) (hM.front (Ms := [])) H52) ?_)
    clear hA; rintro _ w53 ⟨v54, rfl, hMc⟩ a hA
    have hE := hMc.below; have hM := hM.call (Ms := []) hMc
    clear hMc; simp only [List.cons_append, List.nil_append] at hM
    obtain ⟨A55, c56, rfl⟩ := RowOk.form (hM.row (p := (Pl.int .i64)) .z)
    replace hS := hS.trans (hE.mono hS.size)
    refine ⟨fun _ => hS, ?_⟩
    obtain ⟨r57, H58, H⟩ := Option.bind_eq_some_iff.1 H
    refine d_one (i := 5) (L' := #[true, true, true, true, true, true, false, false]) (by kernel_rfl) rfl rfl (st_call Try.call24 hA [(.agg #[(.slice A0_0 t_0.Nodes.length c0_0), (.int .i64 t_0.Best)]), (.int .i64 to_2)] rfl (by decide) (branch_chain.calls _ _ _ _ _ _ _ ((RoV.mk (hM.roC (Ms := []) hr0_0) (Eq.refl t_0.Nodes.length) hc0_0)) (hM.front (Ms := [])) H58) ?_)
    clear hA; rintro _ w59 ⟨v60, rfl, hMc⟩ a hA
    have hE := hMc.below; have hM := hM.call (Ms := []) hMc
    clear hMc; simp only [List.cons_append, List.nil_append] at hM
    obtain ⟨A61, c62, rfl⟩ := RowOk.form (hM.row (p := (Pl.int .i64)) .z)
    replace hS := hS.trans (hE.mono hS.size)
    refine ⟨fun _ => hS, ?_⟩
    refine d_takef (i := 6) (L' := #[true, true, true, true, true, true, true, false]) rfl (by kernel_rfl) rfl (fun _ _ _ h => h) hA (by decide) (fun _ => hS) (fun a w' hA => run_assign (hA.ev rfl)) ?_; clear hA; intro a hA
    refine d_takef (i := 7) (L' := #[true, true, true, true, true, true, true, true]) rfl (by kernel_rfl) rfl (fun _ _ _ h => h) hA (by decide) (fun _ => hS) (fun a w' hA => run_assign (hA.ev rfl)) ?_; clear hA; intro a hA
    refine d_done (by kernel_rfl) ?_
    refine TN ?_
    refine wp_seq ?_
    refine wp_region_lit ?_
    refine L1 (stv hA (by decide) (run_move (hA.ev rfl)) ?_)
    clear hA; intro a hA
    refine L1 (stv hA (by decide) (run_move (hA.ev rfl)) ?_)
    clear hA; intro a hA
    obtain ⟨r63, H64, H⟩ := Option.bind_eq_some_iff.1 H
    refine L1 (st_call Try.call29 hA [(.slice A55 r51.length c56), (.slice A61 r57.length c62)] rfl (by decide) (branch_common.calls _ _ _ _ _ _ _ _ ((RoV.mk (hM.rowC (p := (Pl.int .i64)) (Ms := []) (.s .z)) (RowOk.len (hM.row (p := (Pl.int .i64)) (.s .z))) (RowOk.cap (hM.row (p := (Pl.int .i64)) (.s .z))))) ((RoV.mk (hM.rowC (p := (Pl.int .i64)) (Ms := []) .z) (RowOk.len (hM.row (p := (Pl.int .i64)) .z)) (RowOk.cap (hM.row (p := (Pl.int .i64)) .z)))) (hM.front (Ms := [])) H64) ?_)
    clear hA; rintro _ w65 ⟨rfl, hMc⟩ a hA
    have hE := hMc.below; have hM := hM.call (Ms := []) hMc
    clear hMc; simp only [List.cons_append, List.nil_append] at hM
    refine L1 (stv hA (by decide) (run_bin (hA.ev rfl) (hA.ev rfl) (bin_add _ _ _ _)) ?_)
    clear hA; intro a hA
    refine L1 (stv hA (by decide) (run_assign (hA.ev rfl)) ?_)
    clear hA; intro a hA
    refine LQ ?_
    refine TN ?_
    refine wp_seq ?_
    refine draw (fun w' => Below w65.heap.size w65 w') [] rfl ?_
    intro w66 hw hS; replace hM := hM.ext hS; clear hw
    refine d_takef (i := 0) (L' := #[true, false, false, false, false, false, false, false]) rfl (by kernel_rfl) rfl (fun _ _ _ h => h) hA (by decide) (fun _ => hS) (fun a w' hA => run_move (hA.ev rfl)) ?_; clear hA; intro a hA
    refine d_takef (i := 1) (L' := #[true, true, false, false, false, false, false, false]) rfl (by kernel_rfl) rfl (fun _ _ _ h => h) hA (by decide) (fun _ => hS) (fun a w' hA => run_move (hA.ev rfl)) ?_; clear hA; intro a hA
    obtain ⟨⟨hi68, hj69⟩, H⟩ := ite_some H
    refine d_takef (i := 2) (L' := #[true, true, true, false, false, false, false, false]) rfl (by kernel_rfl) rfl (fun _ _ _ h => h) hA (by decide) (fun _ => hS) (fun a w' hA => run_lo Try.underlying31 Try.sizeOf3 (RowOk.cap (hM.row (p := (Pl.int .i64)) (.s .z))) hi68 hj69 (hA.ev rfl) (hA.ev rfl)) ?_; clear hA; intro a hA
    refine d_takef (i := 3) (L' := #[true, true, true, true, false, false, false, false]) rfl (by kernel_rfl) rfl (fun _ _ _ h => h) hA (by decide) (fun _ => hS) (fun a w' hA => run_move (hA.ev rfl)) ?_; clear hA; intro a hA
    refine d_takef (i := 4) (L' := #[true, true, true, true, true, false, false, false]) rfl (by kernel_rfl) rfl (fun _ _ _ h => h) hA (by decide) (fun _ => hS) (fun a w' hA => run_move (hA.ev rfl)) ?_; clear hA; intro a hA
    obtain ⟨⟨hi70, hj71⟩, H⟩ := ite_some H
    refine d_takef (i := 5) (L' := #[true, true, true, true, true, true, false, false]) rfl (by kernel_rfl) rfl (fun _ _ _ h => h) hA (by decide) (fun _ => hS) (fun a w' hA => run_lo Try.underlying31 Try.sizeOf3 (RowOk.cap (hM.row (p := (Pl.int .i64)) .z)) hi70 hj71 (hA.ev rfl) (hA.ev rfl)) ?_; clear hA; intro a hA
    refine d_takef (i := 6) (L' := #[true, true, true, true, true, true, true, false]) rfl (by kernel_rfl) rfl (fun _ _ _ h => h) hA (by decide) (fun _ => hS) (fun a w' hA => run_assign (hA.ev rfl)) ?_; clear hA; intro a hA
    refine d_takef (i := 7) (L' := #[true, true, true, true, true, true, true, true]) rfl (by kernel_rfl) rfl (fun _ _ _ h => h) hA (by decide) (fun _ => hS) (fun a w' hA => run_assign (hA.ev rfl)) ?_; clear hA; intro a hA
    refine d_done (by kernel_rfl) ?_
    refine TN ?_
    refine wp_seq ?_
    refine wp_region_lit ?_
    refine L1 (stv hA (by decide) (run_move (hA.ev rfl)) ?_)
    clear hA; intro a hA
    have hM := hM.re (y := .row 3 (Pl.int .i64).sz (.slice (adrop A55 c56 ((IntKind.i64.wrap (r63 + 1)).toNat) 1) (r51.length - (IntKind.i64.wrap (r63 + 1)).toNat) (c56 - (IntKind.i64.wrap (r63 + 1)).toNat)) ((Pl.int .i64).flat (r51.drop ((IntKind.i64.wrap (r63 + 1)).toNat)))) (.s .z) (fun h => RowOk.cutlo h (by have hh1 := RowOk.len h; omega)) (key_adrop _ _ _ _ _ _ _)
    have hM := hM.sel [1, 0, 2, 3] rfl (by decide)
    obtain ⟨r72, H73, H⟩ := Option.bind_eq_some_iff.1 H
    refine L1 (st_call Try.call30 hA [(.slice (adrop A55 c56 ((IntKind.i64.wrap (r63 + 1)).toNat) 1) (r51.length - (IntKind.i64.wrap (r63 + 1)).toNat) (c56 - (IntKind.i64.wrap (r63 + 1)).toNat))] rfl (by decide) (slices_Reverse_int.calls _ _ _ _ _ _ (hM.front (Ms := [_])) H73) ?_)
    clear hA; rintro _ w74 ⟨rfl, hMc⟩ a hA
    have hM := hM.call (Ms := [_]) hMc
    clear hMc; simp only [List.cons_append, List.nil_append] at hM
    refine LQ ?_
    refine TN ?_
    refine wp_seq ?_
    refine wp_region_lit ?_
    refine L1 (stv hA (by decide) (run_move (hA.ev rfl)) ?_)
    clear hA; intro a hA
    refine L1 (stv hA (by decide) (run_move (hA.ev rfl)) ?_)
    clear hA; intro a hA
    refine L1 (stv hA (by decide) (run_assign (hA.ev rfl)) ?_)
    clear hA; intro a hA
    refine L1 (stv hA (by decide) (run_assign (hA.ev rfl)) ?_)
    clear hA; intro a hA
    refine LQ ?_
    refine TN ?_
    refine wp_ret ?_
    have hM := hM.re (y := .row 3 (Pl.int .i64).sz (.slice (adrop A61 c62 ((IntKind.i64.wrap (r63 + 1)).toNat) 1) (r57.length - (IntKind.i64.wrap (r63 + 1)).toNat) (c62 - (IntKind.i64.wrap (r63 + 1)).toNat)) ((Pl.int .i64).flat (r57.drop ((IntKind.i64.wrap (r63 + 1)).toNat)))) (.s .z) (fun h => RowOk.cutlo h (by have hh1 := RowOk.len h; omega)) (key_adrop _ _ _ _ _ _ _)
    obtain rfl := Option.some.inj H
    exact ret_post2 (fn := Try.f19) hA rfl rfl rfl ⟨_, rfl, (.slice (adrop A55 c56 ((IntKind.i64.wrap (r63 + 1)).toNat) 1) (r51.length - (IntKind.i64.wrap (r63 + 1)).toNat) (c56 - (IntKind.i64.wrap (r63 + 1)).toNat)), (.slice (adrop A61 c62 ((IntKind.i64.wrap (r63 + 1)).toNat) 1) (r57.length - (IntKind.i64.wrap (r63 + 1)).toNat) (c62 - (IntKind.i64.wrap (r63 + 1)).toNat)), rfl, (hM.sel [0, 1] rfl (by decide))⟩

def law16_BranchWalks.l0 (r311 : Tree) (r326 : ((List Int) × (List Int))) : Nat → Int → Int → Option (Out Bool (Int))
  | 0, _, _ => none
  | k + 1, x408, x409 => (if (decide (x409 < ((r326.1.length : Nat) : Int))) = true then (if 0 ≤ x409 ∧ x409 < ((r326.1.length : Nat) : Int) then (if ((r326.1.getD x409.toNat (0 : Int)) != x408) = true then (some (.ret false)) else (if 0 ≤ (r326.1.getD x409.toNat (0 : Int)) ∧ (r326.1.getD x409.toNat (0 : Int)) < ((r311.Nodes.length : Nat) : Int) then (law16_BranchWalks.l0 r311 r326 k ((r311.Nodes.getD (r326.1.getD x409.toNat (0 : Int)).toNat Node.z).Parent) (IntKind.i64.wrap (x409 + 1))) else none)) else none) else (some (.go x408)))
def law16_BranchWalks.l1 (r311 : Tree) (r326 : ((List Int) × (List Int))) : Nat → Int → Int → Option (Out Bool (Int))
  | 0, _, _ => none
  | k + 1, x512, x513 => (if (decide (x513 < ((r326.2.length : Nat) : Int))) = true then (if 0 ≤ x513 ∧ x513 < ((r326.2.length : Nat) : Int) then (if 0 ≤ (r326.2.getD x513.toNat (0 : Int)) ∧ (r326.2.getD x513.toNat (0 : Int)) < ((r311.Nodes.length : Nat) : Int) then (if (((r311.Nodes.getD (r326.2.getD x513.toNat (0 : Int)).toNat Node.z).Parent) != x512) = true then (some (.ret false)) else (law16_BranchWalks.l1 r311 r326 k (r326.2.getD x513.toNat (0 : Int)) (IntKind.i64.wrap (x513 + 1)))) else none) else none) else (some (.go x512)))
def law16_BranchWalks.l2 (r326 : ((List Int) × (List Int))) (r337 : ((List Int) × (List Int))) : Nat → Int → Option (Out Bool (Unit))
  | 0, _ => none
  | k + 1, x593 => (if (decide (x593 < ((r326.2.length : Nat) : Int))) = true then (if 0 ≤ (IntKind.i64.wrap ((IntKind.i64.wrap (((r337.1.length : Nat) : Int) - 1)) - x593)) ∧ (IntKind.i64.wrap ((IntKind.i64.wrap (((r337.1.length : Nat) : Int) - 1)) - x593)) < ((r337.1.length : Nat) : Int) then (if 0 ≤ x593 ∧ x593 < ((r326.2.length : Nat) : Int) then (if ((r337.1.getD (IntKind.i64.wrap ((IntKind.i64.wrap (((r337.1.length : Nat) : Int) - 1)) - x593)).toNat (0 : Int)) != (r326.2.getD x593.toNat (0 : Int))) = true then (some (.ret false)) else (law16_BranchWalks.l2 r326 r337 k (IntKind.i64.wrap (x593 + 1)))) else none) else none) else (some (.go ())))
def law16_BranchWalks.f (k : Nat) (C_0 : (List Int)) (o_1 : Int) (d_2 : Int) : Option Bool := ((law16_sane.f k ).bind fun r307 => (if (!r307) = true then (some false) else ((law16_line.f k C_0).bind fun r311 => (if ¬ ((r311.Nodes.length : Nat) : Int) = 0 then (if ¬ ((r311.Nodes.length : Nat) : Int) = 0 then ((branch_Path.f k (Tree.mk r311.Nodes r311.Best) ((IntKind.i64.wrap o_1).tmod ((r311.Nodes.length : Nat) : Int)) ((IntKind.i64.wrap d_2).tmod ((r311.Nodes.length : Nat) : Int))).bind fun r326 => ((branch_Path.f k (Tree.mk r311.Nodes r311.Best) ((IntKind.i64.wrap d_2).tmod ((r311.Nodes.length : Nat) : Int)) ((IntKind.i64.wrap o_1).tmod ((r311.Nodes.length : Nat) : Int))).bind fun r337 => (Option.bind (α := Out Bool (Int)) (law16_BranchWalks.l0 r311 r326 k ((IntKind.i64.wrap o_1).tmod ((r311.Nodes.length : Nat) : Int)) 0) (fun o => match o with | .ret r => some r | .go x415 => (Option.bind (α := Bool) ((branch_Fork.f k (Tree.mk r311.Nodes r311.Best) ((IntKind.i64.wrap o_1).tmod ((r311.Nodes.length : Nat) : Int)) ((IntKind.i64.wrap d_2).tmod ((r311.Nodes.length : Nat) : Int))).bind fun r447 => (if (x415 != r447) = true then (some true) else ((branch_Fork.f k (Tree.mk r311.Nodes r311.Best) ((IntKind.i64.wrap d_2).tmod ((r311.Nodes.length : Nat) : Int)) ((IntKind.i64.wrap o_1).tmod ((r311.Nodes.length : Nat) : Int))).bind fun r451 => (some (x415 != r451))))) (fun x444 => (if x444 = true then (some false) else (Option.bind (α := Out Bool (Int)) (law16_BranchWalks.l1 r311 r326 k x415 0) (fun o => match o with | .ret r => some r | .go x517 => (Option.bind (α := Bool) (if (x517 != ((IntKind.i64.wrap d_2).tmod ((r311.Nodes.length : Nat) : Int))) = true then (some true) else (if (((r337.1.length : Nat) : Int) != ((r326.2.length : Nat) : Int)) = true then (some true) else (some (((r337.2.length : Nat) : Int) != ((r326.1.length : Nat) : Int))))) (fun x538 => (if x538 = true then (some false) else (Option.bind (α := Out Bool (Unit)) (law16_BranchWalks.l2 r326 r337 k 0) (fun o => match o with | .ret r => some r | .go _ => (some true))))))))))))))) else none) else none))))
set_option maxRecDepth 100000 in
theorem law16_BranchWalks.calls (k : Nat) (C_0 : (List Int)) (o_1 : Int) (d_2 : Int) (F : List (Option Nat)) (v0 : Value) (r : Bool) (w0 : World) (h0 : RoV F (Pl.int .u8) w0 v0 C_0) (hM : Mem F w0 w0 []) (H : law16_BranchWalks.f k C_0 o_1 d_2 = some r) :
    Calls Try.prog 6 #[v0, (.int .u8 o_1), (.int .u8 d_2)] w0 fun e w' => ∃ v, e = .returned v ∧ v = (.bool r) ∧ Mem F w0 w' [] := by
  unfold law16_BranchWalks.f at H
  obtain ⟨A0, c0, rfl, hr0, hc0⟩ := h0
  refine enterL (n := 133) [(.slice A0 C_0.length c0), (.int .u8 o_1), (.int .u8 d_2)] Try.func6 rfl rfl rfl ?_
  intro a hA
  refine wp_seq ?_
  refine wp_region_lit ?_
  refine L1 (stv hA (by decide) (run_assign (hA.ev rfl)) ?_)
  clear hA; intro a hA
  refine LQ ?_
  refine TN ?_
  refine wp_seq ?_
  refine wp_seq ?_
  refine wp_region_lit ?_
  obtain ⟨r307, H308, H⟩ := Option.bind_eq_some_iff.1 H
  refine L1 (st_call Try.call8 hA [] rfl (by decide) (law16_sane.calls _ _ _ _ (hM.front (Ms := [])) H308) ?_)
  clear hA; rintro _ w309 ⟨rfl, hMc⟩ a hA
  have hE := hMc.below; have hM := hM.call (Ms := []) hMc
  clear hMc; simp only [List.cons_append, List.nil_append] at hM
  refine L1 (stv hA (by decide) (run_not (hA.ev rfl)) ?_)
  clear hA; intro a hA
  refine LQ ?_
  refine TN ?_
  refine tcond (b := (!r307)) hA rfl (fun hb310 => ?_) (fun hb310 => ?_)
  · replace H := ite_t hb310 H
    refine wp_seq ?_
    refine wp_region_lit ?_
    refine L1 (stv hA (by decide) (run_assign (hA.ev rfl)) ?_)
    clear hA; intro a hA
    refine LQ ?_
    refine TN ?_
    refine wp_ret ?_
    obtain rfl := Option.some.inj H
    refine TR ?_
    exact ret_post1 (fn := Try.f6) hA rfl rfl ⟨_, rfl, rfl, hM⟩
  · replace H := ite_f hb310 H
    refine wp_skip ?_
    refine TN ?_
    refine wp_seq ?_
    refine wp_region_lit ?_
    refine L1 (stv hA (by decide) (run_move (hA.ev rfl)) ?_)
    clear hA; intro a hA
    obtain ⟨r311, H312, H⟩ := Option.bind_eq_some_iff.1 H
    refine L1 (st_call Try.call10 hA [(.slice A0 C_0.length c0)] rfl (by decide) (law16_line.calls _ _ _ _ _ _ ((RoV.mk (hM.roC (Ms := []) hr0) (Eq.refl C_0.length) hc0)) (hM.front (Ms := [])) H312) ?_)
    clear hA; rintro _ w313 ⟨v314, rfl, hMc⟩ a hA
    have hE := hMc.below; have hM := hM.call (Ms := []) hMc
    clear hMc; simp only [List.cons_append, List.nil_append] at hM
    obtain ⟨A316, c317, rfl⟩ := RowOk.form (hM.row (p := pNode) .z)
    refine L1 (e_alloc (cs := [(.slice none 0 0), (.int .i64 0)]) hM zero24 rfl hA (by decide) ?_)
    clear hM hA; intro w319 g318 hM hE a hA
    refine L1 (e_store (g := g318) (off := 0) (cur := [(.slice none 0 0), (.int .i64 0)]) (cs' := [(.slice A316 r311.Nodes.length c317), (.int .i64 r311.Best)]) hM .z Try.sizeOf24 hA rfl (by simp [add_mk]) rfl (by first | rfl | simp [Value.cells, Pl.len]) (by simp [Value.cells, Value.oneCell']) (by first | exact Nat.le_of_ble_eq_true rfl | (simp [Pl.len]; done)) (spl_all (by first | rfl | simp [Value.cells, Pl.len])) ?_)
    clear hM hA; intro w321 hM hE a hA
    refine LQ ?_
    refine TN ?_
    refine wp_seq ?_
    refine draw (fun w' => Below w321.heap.size w321 w') [] rfl ?_
    intro w322 hw hS; replace hM := hM.ext hS; clear hw
    refine d_takef (i := 0) (L' := #[true, false, false, false, false, false, false, false, false, false, false, false, false, false]) rfl (by kernel_rfl) rfl (fun _ _ _ h => h) hA (by decide) (fun _ => hS) (fun a w' hA => run_move (hA.ev rfl)) ?_; clear hA; intro a hA
    refine d_takef (i := 1) (L' := #[true, true, false, false, false, false, false, false, false, false, false, false, false, false]) rfl (by kernel_rfl) rfl (fun _ _ _ h => h) hA (by decide) (fun _ => hS) (fun a w' hA => run_conv Try.underlying5 Try.underlying3 (hA.ev rfl)) ?_; clear hA; intro a hA
    refine d_takef (i := 2) (L' := #[true, true, true, false, false, false, false, false, false, false, false, false, false, false]) rfl (by kernel_rfl) rfl (fun _ _ _ h => h) hA (by decide) (fun _ => hS) (fun a w' hA => run_field' Try.underlying24 rfl rfl Try.sizeOf22 (by decide) (hA.ev rfl)) ?_; clear hA; intro a hA
    refine rebase hS ?_; clear hS; intro hS
    refine d_take (i := 3) (L' := #[true, true, true, true, false, false, false, false, false, false, false, false, false, false]) rfl (by kernel_rfl) rfl (fun _ _ _ h => h) hA (by decide) rfl hS (fun a w' hA hS' => run_ld (hA.ev rfl) (run_loadS Try.isAgg22 ((At.seg1 (hM.box .z) 0 rfl).extB hS'))) ?_; clear hA; intro a hA
    refine d_takef (i := 4) (L' := #[true, true, true, true, true, false, false, false, false, false, false, false, false, false]) rfl (by kernel_rfl) rfl (fun _ _ _ h => h) hA (by decide) (fun _ => hS) (fun a w' hA => run_len_slice Try.underlying22 (hA.ev rfl)) ?_; clear hA; intro a hA
    obtain ⟨hd324, H⟩ := ite_some H
    refine d_takef (i := 5) (L' := #[true, true, true, true, true, true, false, false, false, false, false, false, false, false]) rfl (by kernel_rfl) rfl (fun _ _ _ h => h) hA (by decide) (fun _ => hS) (fun a w' hA => run_bin (hA.ev rfl) (hA.ev rfl) (bin_rem _ _ _ _ hd324)) ?_; clear hA; intro a hA
    refine d_takef (i := 6) (L' := #[true, true, true, true, true, true, true, false, false, false, false, false, false, false]) rfl (by kernel_rfl) rfl (fun _ _ _ h => h) hA (by decide) (fun _ => hS) (fun a w' hA => run_move (hA.ev rfl)) ?_; clear hA; intro a hA
    refine d_takef (i := 7) (L' := #[true, true, true, true, true, true, true, true, false, false, false, false, false, false]) rfl (by kernel_rfl) rfl (fun _ _ _ h => h) hA (by decide) (fun _ => hS) (fun a w' hA => run_conv Try.underlying5 Try.underlying3 (hA.ev rfl)) ?_; clear hA; intro a hA
    refine d_takef (i := 8) (L' := #[true, true, true, true, true, true, true, true, true, false, false, false, false, false]) rfl (by kernel_rfl) rfl (fun _ _ _ h => h) hA (by decide) (fun _ => hS) (fun a w' hA => run_field' Try.underlying24 rfl rfl Try.sizeOf22 (by decide) (hA.ev rfl)) ?_; clear hA; intro a hA
    refine d_take (i := 9) (L' := #[true, true, true, true, true, true, true, true, true, true, false, false, false, false]) rfl (by kernel_rfl) rfl (fun _ _ _ h => h) hA (by decide) rfl hS (fun a w' hA hS' => run_ld (hA.ev rfl) (run_loadS Try.isAgg22 ((At.seg1 (hM.box .z) 0 rfl).extB hS'))) ?_; clear hA; intro a hA
    refine d_takef (i := 10) (L' := #[true, true, true, true, true, true, true, true, true, true, true, false, false, false]) rfl (by kernel_rfl) rfl (fun _ _ _ h => h) hA (by decide) (fun _ => hS) (fun a w' hA => run_len_slice Try.underlying22 (hA.ev rfl)) ?_; clear hA; intro a hA
    obtain ⟨hd325, H⟩ := ite_some H
    refine d_takef (i := 11) (L' := #[true, true, true, true, true, true, true, true, true, true, true, true, false, false]) rfl (by kernel_rfl) rfl (fun _ _ _ h => h) hA (by decide) (fun _ => hS) (fun a w' hA => run_bin (hA.ev rfl) (hA.ev rfl) (bin_rem _ _ _ _ hd325)) ?_; clear hA; intro a hA
    refine d_takef (i := 12) (L' := #[true, true, true, true, true, true, true, true, true, true, true, true, true, false]) rfl (by kernel_rfl) rfl (fun _ _ _ h => h) hA (by decide) (fun _ => hS) (fun a w' hA => run_assign (hA.ev rfl)) ?_; clear hA; intro a hA
    refine d_takef (i := 13) (L' := #[true, true, true, true, true, true, true, true, true, true, true, true, true, true]) rfl (by kernel_rfl) rfl (fun _ _ _ h => h) hA (by decide) (fun _ => hS) (fun a w' hA => run_assign (hA.ev rfl)) ?_; clear hA; intro a hA
    refine d_done (by kernel_rfl) ?_
    refine TN ?_
    refine wp_seq ?_
    refine wp_region_lit ?_
    refine L1 (stv hA (by decide) (run_ld (hA.ev rfl) (run_loadW Try.isAgg24 Try.sizeOf24 (by simp [Pl.len]; try rfl) (hM.box .z))) ?_)
    clear hA; intro a hA
    refine L1 (stv hA (by decide) (run_move (hA.ev rfl)) ?_)
    clear hA; intro a hA
    refine L1 (stv hA (by decide) (run_move (hA.ev rfl)) ?_)
    clear hA; intro a hA
    obtain ⟨r326, H327, H⟩ := Option.bind_eq_some_iff.1 H
    refine L1 (st_call Try.call19 hA [(.agg #[(.slice A316 r311.Nodes.length c317), (.int .i64 r311.Best)]), (.int .i64 ((IntKind.i64.wrap o_1).tmod ((r311.Nodes.length : Nat) : Int))), (.int .i64 ((IntKind.i64.wrap d_2).tmod ((r311.Nodes.length : Nat) : Int)))] rfl (by decide) (branch_Path.calls _ _ _ _ _ _ _ _ ((RoV.mk (hM.rowC (p := pNode) (Ms := []) (.s .z)) (RowOk.len (hM.row (p := pNode) (.s .z))) (RowOk.cap (hM.row (p := pNode) (.s .z))))) (hM.front (Ms := [])) H327) ?_)
    clear hA; rintro _ w328 ⟨v329, v330, rfl, hMc⟩ a hA
    have hE := hMc.below; have hM := hM.call (Ms := []) hMc
    clear hMc; simp only [List.cons_append, List.nil_append] at hM
    obtain ⟨A332, c333, rfl⟩ := RowOk.form (hM.row (p := (Pl.int .i64)) .z)
    obtain ⟨A335, c336, rfl⟩ := RowOk.form (hM.row (p := (Pl.int .i64)) (.s .z))
    refine L1 (stv hA (by decide) (run_move (hA.ev rfl)) ?_)
    clear hA; intro a hA
    refine L1 (stv hA (by decide) (run_ext (hA.ev rfl) rfl) ?_)
    clear hA; intro a hA
    refine L1 (stv hA (by decide) (run_ext (hA.ev rfl) rfl) ?_)
    clear hA; intro a hA
    refine L1 (stv hA (by decide) (run_assign (hA.ev rfl)) ?_)
    clear hA; intro a hA
    refine L1 (stv hA (by decide) (run_assign (hA.ev rfl)) ?_)
    clear hA; intro a hA
    refine LQ ?_
    refine TN ?_
    refine wp_seq ?_
    refine wp_region_lit ?_
    refine L1 (stv hA (by decide) (run_ld (hA.ev rfl) (run_loadW Try.isAgg24 Try.sizeOf24 (by simp [Pl.len]; try rfl) (hM.box (.s (.s .z))))) ?_)
    clear hA; intro a hA
    refine L1 (stv hA (by decide) (run_move (hA.ev rfl)) ?_)
    clear hA; intro a hA
    refine L1 (stv hA (by decide) (run_move (hA.ev rfl)) ?_)
    clear hA; intro a hA
    obtain ⟨r337, H338, H⟩ := Option.bind_eq_some_iff.1 H
    refine L1 (st_call Try.call19 hA [(.agg #[(.slice A316 r311.Nodes.length c317), (.int .i64 r311.Best)]), (.int .i64 ((IntKind.i64.wrap d_2).tmod ((r311.Nodes.length : Nat) : Int))), (.int .i64 ((IntKind.i64.wrap o_1).tmod ((r311.Nodes.length : Nat) : Int)))] rfl (by decide) (branch_Path.calls _ _ _ _ _ _ _ _ ((RoV.mk (hM.rowC (p := pNode) (Ms := []) (.s (.s (.s .z)))) (RowOk.len (hM.row (p := pNode) (.s (.s (.s .z))))) (RowOk.cap (hM.row (p := pNode) (.s (.s (.s .z))))))) (hM.front (Ms := [])) H338) ?_)
    clear hA; rintro _ w339 ⟨v340, v341, rfl, hMc⟩ a hA
    have hE := hMc.below; have hM := hM.call (Ms := []) hMc
    clear hMc; simp only [List.cons_append, List.nil_append] at hM
    obtain ⟨A343, c344, rfl⟩ := RowOk.form (hM.row (p := (Pl.int .i64)) .z)
    obtain ⟨A346, c347, rfl⟩ := RowOk.form (hM.row (p := (Pl.int .i64)) (.s .z))
    refine L1 (stv hA (by decide) (run_move (hA.ev rfl)) ?_)
    clear hA; intro a hA
    refine L1 (stv hA (by decide) (run_ext (hA.ev rfl) rfl) ?_)
    clear hA; intro a hA
    refine L1 (stv hA (by decide) (run_ext (hA.ev rfl) rfl) ?_)
    clear hA; intro a hA
    refine L1 (stv hA (by decide) (run_assign (hA.ev rfl)) ?_)
    clear hA; intro a hA
    refine L1 (stv hA (by decide) (run_assign (hA.ev rfl)) ?_)
    clear hA; intro a hA
    refine LQ ?_
    refine TN ?_
    refine wp_seq ?_
    refine wp_region_lit ?_
    refine L1 (stv hA (by decide) (run_move (hA.ev rfl)) ?_)
    clear hA; intro a hA
    refine L1 (stv hA (by decide) (run_assign (hA.ev rfl)) ?_)
    clear hA; intro a hA
    refine LQ ?_
    refine TN ?_
    refine wp_seq ?_
    refine wp_seq ?_
    refine wp_region_lit ?_
    refine L1 (stv hA (by decide) (run_move (hA.ev rfl)) ?_)
    clear hA; intro a hA
    refine L1 (stv hA (by decide) (run_len_slice Try.underlying31 (hA.ev rfl)) ?_)
    clear hA; intro a hA
    refine L1 (stv hA (by decide) (run_move (hA.ev rfl)) ?_)
    clear hA; intro a hA
    refine LQ ?_
    refine TN ?_
    obtain ⟨o417, H416, H⟩ := Option.bind_eq_some_iff.1 H
    refine cutC (fun a w => ∃ (x415 : Int), (.go x415) = o417 ∧ Mem F w0 w [.box g318 24 [(.slice A316 r311.Nodes.length c317), (.int .i64 r311.Best)], .row 46 pNode.sz (.slice A316 r311.Nodes.length c317) (pNode.flat r311.Nodes), .row 3 (Pl.int .i64).sz (.slice A332 r326.1.length c333) ((Pl.int .i64).flat r326.1), .row 3 (Pl.int .i64).sz (.slice A335 r326.2.length c336) ((Pl.int .i64).flat r326.2), .row 3 (Pl.int .i64).sz (.slice A343 r337.1.length c344) ((Pl.int .i64).flat r337.1), .row 3 (Pl.int .i64).sz (.slice A346 r337.2.length c347) ((Pl.int .i64).flat r337.2)] ∧ Has 133 [(7, (.pointer (some (⟨g318, 0, none⟩)))), (8, (.int .i64 ((IntKind.i64.wrap o_1).tmod ((r311.Nodes.length : Nat) : Int)))), (9, (.int .i64 ((IntKind.i64.wrap d_2).tmod ((r311.Nodes.length : Nat) : Int)))), (10, (.slice A332 r326.1.length c333)), (11, (.slice A335 r326.2.length c336)), (12, (.slice A343 r337.1.length c344)), (13, (.slice A346 r337.2.length c347)), (14, (.int .i64 x415))] a) ?_ ?_
    · refine wp_block ?_
      refine wp_loop_ghost (fun m a w => ∃ (x408 : Int) (x409 : Int), law16_BranchWalks.l0 r311 r326 m x408 x409 = some o417 ∧ Mem F w0 w [.box g318 24 [(.slice A316 r311.Nodes.length c317), (.int .i64 r311.Best)], .row 46 pNode.sz (.slice A316 r311.Nodes.length c317) (pNode.flat r311.Nodes), .row 3 (Pl.int .i64).sz (.slice A332 r326.1.length c333) ((Pl.int .i64).flat r326.1), .row 3 (Pl.int .i64).sz (.slice A335 r326.2.length c336) ((Pl.int .i64).flat r326.2), .row 3 (Pl.int .i64).sz (.slice A343 r337.1.length c344) ((Pl.int .i64).flat r337.1), .row 3 (Pl.int .i64).sz (.slice A346 r337.2.length c347) ((Pl.int .i64).flat r337.2)] ∧ Has 133 [(7, (.pointer (some (⟨g318, 0, none⟩)))), (8, (.int .i64 ((IntKind.i64.wrap o_1).tmod ((r311.Nodes.length : Nat) : Int)))), (9, (.int .i64 ((IntKind.i64.wrap d_2).tmod ((r311.Nodes.length : Nat) : Int)))), (10, (.slice A332 r326.1.length c333)), (11, (.slice A335 r326.2.length c336)), (12, (.slice A343 r337.1.length c344)), (13, (.slice A346 r337.2.length c347)), (14, (.int .i64 x408)), (51, (.slice A332 r326.1.length c333)), (52, (.int .i64 ((r326.1.length : Nat) : Int))), (53, (.int .i64 x409))] a) k ⟨(IntKind.i64.wrap o_1).tmod ((r311.Nodes.length : Nat) : Int), 0, H416, (hM.sel [4, 5, 2, 3, 0, 1] rfl (by decide)), (((((((((((hA.nil.cons (hA.get 53 _ rfl)).cons (hA.get 52 _ rfl)).cons (hA.get 51 _ rfl)).cons (hA.get 14 _ rfl)).cons (hA.get 13 _ rfl)).cons (hA.get 12 _ rfl)).cons (hA.get 11 _ rfl)).cons (hA.get 10 _ rfl)).cons (hA.get 9 _ rfl)).cons (hA.get 8 _ rfl)).cons (hA.get 7 _ rfl))⟩ ?_
      clear hM hA; rintro m418 a w419 ⟨x408, x409, H416, hM, hA⟩
      cases m418 with
      | zero => exact absurd H416 (by simp [law16_BranchWalks.l0])
      | succ m418 =>
      rw [law16_BranchWalks.l0] at H416
      refine wp_seq ?_
      refine wp_region_lit ?_
      refine L1 (stv hA (by decide) (run_bin (hA.ev rfl) (hA.ev rfl) (bin_lss _ _ _ _)) ?_)
      clear hA; intro a hA
      refine LQ ?_
      refine TN ?_
      refine wp_seq ?_
      refine tcond (b := (decide (x409 < ((r326.1.length : Nat) : Int)))) hA rfl (fun hb420 => ?_) (fun hb420 => ?_)
      · replace H416 := ite_t hb420 H416
        refine wp_skip ?_
        refine TN ?_
        refine wp_seq ?_
        refine wp_block ?_
        refine wp_seq ?_
        refine wp_region_lit ?_
        obtain ⟨⟨hi421, hj422⟩, H416⟩ := ite_some H416
        obtain ⟨ad423, hq424, hat425⟩ := Row.elem' (p := (Pl.int .i64)) (RowOk.row (hM.row (p := (Pl.int .i64)) (.s (.s .z)))) (RowOk.len (hM.row (p := (Pl.int .i64)) (.s (.s .z)))) (0 : Int) x409 hi421 hj422
        refine L1 (stv hA (by decide) (run_idx Try.underlying31 Try.sizeOf3 (hA.ev rfl) hq424 (hA.ev rfl) hi421 hj422) ?_)
        clear hA; intro a hA
        refine L1 (stv hA (by decide) (run_ld (hA.ev rfl) (run_loadS Try.isAgg3 hat425)) ?_)
        clear hA; intro a hA
        refine L1 (stv hA (by decide) (run_assign (hA.ev rfl)) ?_)
        clear hA; intro a hA
        refine LQ ?_
        refine TN ?_
        refine wp_seq ?_
        refine wp_seq ?_
        refine wp_region_lit ?_
        refine L1 (stv hA (by decide) (run_move (hA.ev rfl)) ?_)
        clear hA; intro a hA
        refine L1 (stv hA (by decide) (run_move (hA.ev rfl)) ?_)
        clear hA; intro a hA
        refine L1 (stv hA (by decide) (run_bin (hA.ev rfl) (hA.ev rfl) (bin_neq _ _ _ _)) ?_)
        clear hA; intro a hA
        refine LQ ?_
        refine TN ?_
        refine tcond (b := ((r326.1.getD x409.toNat (0 : Int)) != x408)) hA rfl (fun hb426 => ?_) (fun hb426 => ?_)
        · replace H416 := ite_t hb426 H416
          refine wp_seq ?_
          refine wp_region_lit ?_
          refine L1 (stv hA (by decide) (run_assign (hA.ev rfl)) ?_)
          clear hA; intro a hA
          refine LQ ?_
          refine TN ?_
          refine wp_ret ?_
          obtain rfl := Option.some.inj H416
          dsimp only at H
          obtain rfl := Option.some.inj H
          refine TR ?_
          refine BR ?_
          refine TR ?_
          refine TR ?_
          refine BR ?_
          refine TR ?_
          refine TR ?_
          exact ret_post1 (fn := Try.f6) hA rfl rfl ⟨_, rfl, rfl, (hM.sel [] rfl (by decide))⟩
        · replace H416 := ite_f hb426 H416
          refine wp_skip ?_
          refine TN ?_
          refine wp_region_lit ?_
          refine L1 (stv hA (by decide) (run_field' Try.underlying24 rfl rfl Try.sizeOf22 (by decide) (hA.ev rfl)) ?_)
          clear hA; intro a hA
          refine L1 (stv hA (by decide) (run_ld (hA.ev rfl) (run_loadS Try.isAgg22 (At.seg1 (hM.box .z) 0 rfl))) ?_)
          clear hA; intro a hA
          refine L1 (stv hA (by decide) (run_move (hA.ev rfl)) ?_)
          clear hA; intro a hA
          obtain ⟨⟨hi427, hj428⟩, H416⟩ := ite_some H416
          obtain ⟨ad429, hq430, hat431⟩ := Row.elem' (p := pNode) (RowOk.row (hM.row (p := pNode) (.s .z))) (RowOk.len (hM.row (p := pNode) (.s .z))) Node.z (r326.1.getD x409.toNat (0 : Int)) hi427 hj428
          refine L1 (stv hA (by decide) (run_idx Try.underlying22 Try.sizeOf46 (hA.ev rfl) hq430 (hA.ev rfl) hi427 hj428) ?_)
          clear hA; intro a hA
          refine L1 (stv hA (by decide) (run_field' Try.underlying46 rfl rfl Try.sizeOf3 (by decide) (hA.ev rfl)) ?_)
          clear hA; intro a hA
          refine L1 (stv hA (by decide) (run_ld (hA.ev rfl) (run_loadS Try.isAgg3 (Node.at_Parent (hat431)))) ?_)
          clear hA; intro a hA
          refine L1 (stv hA (by decide) (run_assign (hA.ev rfl)) ?_)
          clear hA; intro a hA
          refine LQ ?_
          refine BN ?_
          refine TN ?_
          refine wp_region_lit ?_
          refine L1 (stv hA (by decide) (run_bin (hA.ev rfl) (hA.ev rfl) (bin_add _ _ _ _)) ?_)
          clear hA; intro a hA
          refine L1 (stv hA (by decide) (run_move (hA.ev rfl)) ?_)
          clear hA; intro a hA
          refine LQ ?_
          exact ⟨_, Nat.lt_succ_self m418, (r311.Nodes.getD (r326.1.getD x409.toNat (0 : Int)).toNat Node.z).Parent, IntKind.i64.wrap (x409 + 1), H416, hM, (((((((((((hA.nil.cons (hA.get 53 _ rfl)).cons (hA.get 52 _ rfl)).cons (hA.get 51 _ rfl)).cons (hA.get 14 _ rfl)).cons (hA.get 13 _ rfl)).cons (hA.get 12 _ rfl)).cons (hA.get 11 _ rfl)).cons (hA.get 10 _ rfl)).cons (hA.get 9 _ rfl)).cons (hA.get 8 _ rfl)).cons (hA.get 7 _ rfl))⟩
      · replace H416 := ite_f hb420 H416
        refine wp_exit ?_
        refine TX ?_
        refine TX ?_
        refine BX ?_
        exact ⟨x408, Option.some.inj H416, hM, ((((((((hA.nil.cons (hA.get 14 _ rfl)).cons (hA.get 13 _ rfl)).cons (hA.get 12 _ rfl)).cons (hA.get 11 _ rfl)).cons (hA.get 10 _ rfl)).cons (hA.get 9 _ rfl)).cons (hA.get 8 _ rfl)).cons (hA.get 7 _ rfl))⟩
    clear hM hA
    rintro a w432 ⟨x415, rfl, hM, hA⟩
    try dsimp only at H
    refine TN ?_
    refine wp_seq ?_
    refine wp_seq ?_
    obtain ⟨o446, H445, H⟩ := Option.bind_eq_some_iff.1 H
    refine cutC (fun a w => ∃ (x444 : Bool), x444 = o446 ∧ Mem F w0 w [.box g318 24 [(.slice A316 r311.Nodes.length c317), (.int .i64 r311.Best)], .row 46 pNode.sz (.slice A316 r311.Nodes.length c317) (pNode.flat r311.Nodes), .row 3 (Pl.int .i64).sz (.slice A332 r326.1.length c333) ((Pl.int .i64).flat r326.1), .row 3 (Pl.int .i64).sz (.slice A335 r326.2.length c336) ((Pl.int .i64).flat r326.2), .row 3 (Pl.int .i64).sz (.slice A343 r337.1.length c344) ((Pl.int .i64).flat r337.1), .row 3 (Pl.int .i64).sz (.slice A346 r337.2.length c347) ((Pl.int .i64).flat r337.2)] ∧ Has 133 [(7, (.pointer (some (⟨g318, 0, none⟩)))), (9, (.int .i64 ((IntKind.i64.wrap d_2).tmod ((r311.Nodes.length : Nat) : Int)))), (10, (.slice A332 r326.1.length c333)), (11, (.slice A335 r326.2.length c336)), (12, (.slice A343 r337.1.length c344)), (13, (.slice A346 r337.2.length c347)), (14, (.int .i64 x415)), (80, (.bool x444))] a) ?_ ?_
    · refine wp_region_lit ?_
      refine L1 (stv hA (by decide) (run_move (hA.ev rfl)) ?_)
      clear hA; intro a hA
      refine L1 (stv hA (by decide) (run_ld (hA.ev rfl) (run_loadW Try.isAgg24 Try.sizeOf24 (by simp [Pl.len]; try rfl) (hM.box .z))) ?_)
      clear hA; intro a hA
      refine L1 (stv hA (by decide) (run_move (hA.ev rfl)) ?_)
      clear hA; intro a hA
      refine L1 (stv hA (by decide) (run_move (hA.ev rfl)) ?_)
      clear hA; intro a hA
      obtain ⟨r447, H448, H445⟩ := Option.bind_eq_some_iff.1 H445
      refine L1 (st_call Try.call16 hA [(.agg #[(.slice A316 r311.Nodes.length c317), (.int .i64 r311.Best)]), (.int .i64 ((IntKind.i64.wrap o_1).tmod ((r311.Nodes.length : Nat) : Int))), (.int .i64 ((IntKind.i64.wrap d_2).tmod ((r311.Nodes.length : Nat) : Int)))] rfl (by decide) (branch_Fork.calls _ _ _ _ _ _ _ _ ((RoV.mk (hM.rowC (p := pNode) (Ms := []) (.s .z)) (RowOk.len (hM.row (p := pNode) (.s .z))) (RowOk.cap (hM.row (p := pNode) (.s .z))))) (hM.front (Ms := [])) H448) ?_)
      clear hA; rintro _ w449 ⟨rfl, hMc⟩ a hA
      have hE := hMc.below; have hM := hM.call (Ms := []) hMc
      clear hMc; simp only [List.cons_append, List.nil_append] at hM
      refine L1 (stv hA (by decide) (run_bin (hA.ev rfl) (hA.ev rfl) (bin_neq _ _ _ _)) ?_)
      clear hA; intro a hA
      refine L1 (stv hA (by decide) (run_move (hA.ev rfl)) ?_)
      clear hA; intro a hA
      refine bsplit (b := (x415 != r447)) (fun hb450 => ?_) (fun hb450 => ?_)
      · replace H445 := ite_t hb450 H445
        have hA := hA.re (t := 73) rfl (congrArg Value.bool hb450)
        refine L1 (gate_off rfl (by decide) rfl hA (by decide) rfl rfl ?_); clear hA; intro a hA
        refine L1 (gate_off rfl (by decide) rfl hA (by decide) rfl rfl ?_); clear hA; intro a hA
        refine L1 (gate_off rfl (by decide) rfl hA (by decide) rfl rfl ?_); clear hA; intro a hA
        refine L1 (gate_off rfl (by decide) rfl hA (by decide) rfl rfl ?_); clear hA; intro a hA
        refine L1 (gate_off rfl (by decide) rfl hA (by decide) rfl rfl ?_); clear hA; intro a hA
        refine L1 (gate_off rfl (by decide) rfl hA (by decide) rfl rfl ?_); clear hA; intro a hA
        refine L1 (stv hA (by decide) (run_pick (hA.ev rfl) (fun _ => hA.ev rfl) (fun h => Bool.noConfusion h)) ?_)
        clear hA; intro a hA
        refine LQ ?_
        exact ⟨true, Option.some.inj H445, hM, ((((((((hA.nil.cons (hA.get 80 _ rfl)).cons (hA.get 14 _ rfl)).cons (hA.get 13 _ rfl)).cons (hA.get 12 _ rfl)).cons (hA.get 11 _ rfl)).cons (hA.get 10 _ rfl)).cons (hA.get 9 _ rfl)).cons (hA.get 7 _ rfl))⟩
      · replace H445 := ite_f hb450 H445
        have hA := hA.re (t := 73) rfl (congrArg Value.bool hb450)
        refine L1 (gate_on rfl rfl hA (by decide) rfl (stv hA (by decide) (run_move (hA.ev rfl)) ?_))
        clear hA; intro a hA
        refine L1 (gate_on rfl rfl hA (by decide) rfl (stv hA (by decide) (run_ld (hA.ev rfl) (run_loadW Try.isAgg24 Try.sizeOf24 (by simp [Pl.len]; try rfl) (hM.box .z))) ?_))
        clear hA; intro a hA
        refine L1 (gate_on rfl rfl hA (by decide) rfl (stv hA (by decide) (run_move (hA.ev rfl)) ?_))
        clear hA; intro a hA
        refine L1 (gate_on rfl rfl hA (by decide) rfl (stv hA (by decide) (run_move (hA.ev rfl)) ?_))
        clear hA; intro a hA
        obtain ⟨r451, H452, H445⟩ := Option.bind_eq_some_iff.1 H445
        refine L1 (gate_on rfl rfl hA (by decide) rfl (st_call Try.call16 hA [(.agg #[(.slice A316 r311.Nodes.length c317), (.int .i64 r311.Best)]), (.int .i64 ((IntKind.i64.wrap d_2).tmod ((r311.Nodes.length : Nat) : Int))), (.int .i64 ((IntKind.i64.wrap o_1).tmod ((r311.Nodes.length : Nat) : Int)))] rfl (by decide) (branch_Fork.calls _ _ _ _ _ _ _ _ ((RoV.mk (hM.rowC (p := pNode) (Ms := []) (.s .z)) (RowOk.len (hM.row (p := pNode) (.s .z))) (RowOk.cap (hM.row (p := pNode) (.s .z))))) (hM.front (Ms := [])) H452) ?_))
        clear hA; rintro _ w453 ⟨rfl, hMc⟩ a hA
        have hE := hMc.below; have hM := hM.call (Ms := []) hMc
        clear hMc; simp only [List.cons_append, List.nil_append] at hM
        refine L1 (gate_on rfl rfl hA (by decide) rfl (stv hA (by decide) (run_bin (hA.ev rfl) (hA.ev rfl) (bin_neq _ _ _ _)) ?_))
        clear hA; intro a hA
        refine L1 (stv hA (by decide) (run_pick (hA.ev rfl) (fun h => Bool.noConfusion h) (fun _ => hA.ev rfl)) ?_)
        clear hA; intro a hA
        refine LQ ?_
        exact ⟨(x415 != r451), Option.some.inj H445, hM, ((((((((hA.nil.cons (hA.get 80 _ rfl)).cons (hA.get 14 _ rfl)).cons (hA.get 13 _ rfl)).cons (hA.get 12 _ rfl)).cons (hA.get 11 _ rfl)).cons (hA.get 10 _ rfl)).cons (hA.get 9 _ rfl)).cons (hA.get 7 _ rfl))⟩
    clear hM hA
    rintro a w454 ⟨x444, rfl, hM, hA⟩
    try dsimp only at H
    refine TN ?_
    refine tcond (b := x444) hA rfl (fun hb455 => ?_) (fun hb455 => ?_)
    · replace H := ite_t hb455 H
      refine wp_seq ?_
      refine wp_region_lit ?_
      refine L1 (stv hA (by decide) (run_assign (hA.ev rfl)) ?_)
      clear hA; intro a hA
      refine LQ ?_
      refine TN ?_
      refine wp_ret ?_
      obtain rfl := Option.some.inj H
      refine TR ?_
      exact ret_post1 (fn := Try.f6) hA rfl rfl ⟨_, rfl, rfl, (hM.sel [] rfl (by decide))⟩
    · replace H := ite_f hb455 H
      refine wp_skip ?_
      refine TN ?_
      refine wp_seq ?_
      refine wp_seq ?_
      refine wp_region_lit ?_
      refine L1 (stv hA (by decide) (run_move (hA.ev rfl)) ?_)
      clear hA; intro a hA
      refine L1 (stv hA (by decide) (run_len_slice Try.underlying31 (hA.ev rfl)) ?_)
      clear hA; intro a hA
      refine L1 (stv hA (by decide) (run_move (hA.ev rfl)) ?_)
      clear hA; intro a hA
      refine LQ ?_
      refine TN ?_
      obtain ⟨o519, H518, H⟩ := Option.bind_eq_some_iff.1 H
      refine cutC (fun a w => ∃ (x517 : Int), (.go x517) = o519 ∧ Mem F w0 w [.row 3 (Pl.int .i64).sz (.slice A332 r326.1.length c333) ((Pl.int .i64).flat r326.1), .row 3 (Pl.int .i64).sz (.slice A335 r326.2.length c336) ((Pl.int .i64).flat r326.2), .row 3 (Pl.int .i64).sz (.slice A343 r337.1.length c344) ((Pl.int .i64).flat r337.1), .row 3 (Pl.int .i64).sz (.slice A346 r337.2.length c347) ((Pl.int .i64).flat r337.2)] ∧ Has 133 [(9, (.int .i64 ((IntKind.i64.wrap d_2).tmod ((r311.Nodes.length : Nat) : Int)))), (10, (.slice A332 r326.1.length c333)), (11, (.slice A335 r326.2.length c336)), (12, (.slice A343 r337.1.length c344)), (13, (.slice A346 r337.2.length c347)), (14, (.int .i64 x517))] a) ?_ ?_
      · refine wp_block ?_
        refine wp_loop_ghost (fun m a w => ∃ (x512 : Int) (x513 : Int), law16_BranchWalks.l1 r311 r326 m x512 x513 = some o519 ∧ Mem F w0 w [.box g318 24 [(.slice A316 r311.Nodes.length c317), (.int .i64 r311.Best)], .row 46 pNode.sz (.slice A316 r311.Nodes.length c317) (pNode.flat r311.Nodes), .row 3 (Pl.int .i64).sz (.slice A332 r326.1.length c333) ((Pl.int .i64).flat r326.1), .row 3 (Pl.int .i64).sz (.slice A335 r326.2.length c336) ((Pl.int .i64).flat r326.2), .row 3 (Pl.int .i64).sz (.slice A343 r337.1.length c344) ((Pl.int .i64).flat r337.1), .row 3 (Pl.int .i64).sz (.slice A346 r337.2.length c347) ((Pl.int .i64).flat r337.2)] ∧ Has 133 [(7, (.pointer (some (⟨g318, 0, none⟩)))), (9, (.int .i64 ((IntKind.i64.wrap d_2).tmod ((r311.Nodes.length : Nat) : Int)))), (10, (.slice A332 r326.1.length c333)), (11, (.slice A335 r326.2.length c336)), (12, (.slice A343 r337.1.length c344)), (13, (.slice A346 r337.2.length c347)), (14, (.int .i64 x512)), (81, (.slice A335 r326.2.length c336)), (82, (.int .i64 ((r326.2.length : Nat) : Int))), (83, (.int .i64 x513))] a) k ⟨x415, 0, H518, hM, ((((((((((hA.nil.cons (hA.get 83 _ rfl)).cons (hA.get 82 _ rfl)).cons (hA.get 81 _ rfl)).cons (hA.get 14 _ rfl)).cons (hA.get 13 _ rfl)).cons (hA.get 12 _ rfl)).cons (hA.get 11 _ rfl)).cons (hA.get 10 _ rfl)).cons (hA.get 9 _ rfl)).cons (hA.get 7 _ rfl))⟩ ?_
        clear hM hA; rintro m520 a w521 ⟨x512, x513, H518, hM, hA⟩
        cases m520 with
        | zero => exact absurd H518 (by simp [law16_BranchWalks.l1])
        | succ m520 =>
        rw [law16_BranchWalks.l1] at H518
        refine wp_seq ?_
        refine wp_region_lit ?_
        refine L1 (stv hA (by decide) (run_bin (hA.ev rfl) (hA.ev rfl) (bin_lss _ _ _ _)) ?_)
        clear hA; intro a hA
        refine LQ ?_
        refine TN ?_
        refine wp_seq ?_
        refine tcond (b := (decide (x513 < ((r326.2.length : Nat) : Int)))) hA rfl (fun hb522 => ?_) (fun hb522 => ?_)
        · replace H518 := ite_t hb522 H518
          refine wp_skip ?_
          refine TN ?_
          refine wp_seq ?_
          refine wp_block ?_
          refine wp_seq ?_
          refine wp_region_lit ?_
          obtain ⟨⟨hi523, hj524⟩, H518⟩ := ite_some H518
          obtain ⟨ad525, hq526, hat527⟩ := Row.elem' (p := (Pl.int .i64)) (RowOk.row (hM.row (p := (Pl.int .i64)) (.s (.s (.s .z))))) (RowOk.len (hM.row (p := (Pl.int .i64)) (.s (.s (.s .z))))) (0 : Int) x513 hi523 hj524
          refine L1 (stv hA (by decide) (run_idx Try.underlying31 Try.sizeOf3 (hA.ev rfl) hq526 (hA.ev rfl) hi523 hj524) ?_)
          clear hA; intro a hA
          refine L1 (stv hA (by decide) (run_ld (hA.ev rfl) (run_loadS Try.isAgg3 hat527)) ?_)
          clear hA; intro a hA
          refine L1 (stv hA (by decide) (run_assign (hA.ev rfl)) ?_)
          clear hA; intro a hA
          refine LQ ?_
          refine TN ?_
          refine wp_seq ?_
          refine wp_seq ?_
          refine wp_region_lit ?_
          refine L1 (stv hA (by decide) (run_field' Try.underlying24 rfl rfl Try.sizeOf22 (by decide) (hA.ev rfl)) ?_)
          clear hA; intro a hA
          refine L1 (stv hA (by decide) (run_ld (hA.ev rfl) (run_loadS Try.isAgg22 (At.seg1 (hM.box .z) 0 rfl))) ?_)
          clear hA; intro a hA
          refine L1 (stv hA (by decide) (run_move (hA.ev rfl)) ?_)
          clear hA; intro a hA
          obtain ⟨⟨hi528, hj529⟩, H518⟩ := ite_some H518
          obtain ⟨ad530, hq531, hat532⟩ := Row.elem' (p := pNode) (RowOk.row (hM.row (p := pNode) (.s .z))) (RowOk.len (hM.row (p := pNode) (.s .z))) Node.z (r326.2.getD x513.toNat (0 : Int)) hi528 hj529
          refine L1 (stv hA (by decide) (run_idx Try.underlying22 Try.sizeOf46 (hA.ev rfl) hq531 (hA.ev rfl) hi528 hj529) ?_)
          clear hA; intro a hA
          refine L1 (stv hA (by decide) (run_field' Try.underlying46 rfl rfl Try.sizeOf3 (by decide) (hA.ev rfl)) ?_)
          clear hA; intro a hA
          refine L1 (stv hA (by decide) (run_ld (hA.ev rfl) (run_loadS Try.isAgg3 (Node.at_Parent (hat532)))) ?_)
          clear hA; intro a hA
          refine L1 (stv hA (by decide) (run_move (hA.ev rfl)) ?_)
          clear hA; intro a hA
          refine L1 (stv hA (by decide) (run_bin (hA.ev rfl) (hA.ev rfl) (bin_neq _ _ _ _)) ?_)
          clear hA; intro a hA
          refine LQ ?_
          refine TN ?_
          refine tcond (b := (((r311.Nodes.getD (r326.2.getD x513.toNat (0 : Int)).toNat Node.z).Parent) != x512)) hA rfl (fun hb533 => ?_) (fun hb533 => ?_)
          · replace H518 := ite_t hb533 H518
            refine wp_seq ?_
            refine wp_region_lit ?_
            refine L1 (stv hA (by decide) (run_assign (hA.ev rfl)) ?_)
            clear hA; intro a hA
            refine LQ ?_
            refine TN ?_
            refine wp_ret ?_
            obtain rfl := Option.some.inj H518
            dsimp only at H
            obtain rfl := Option.some.inj H
            refine TR ?_
            refine BR ?_
            refine TR ?_
            refine TR ?_
            refine BR ?_
            refine TR ?_
            refine TR ?_
            exact ret_post1 (fn := Try.f6) hA rfl rfl ⟨_, rfl, rfl, (hM.sel [] rfl (by decide))⟩
          · replace H518 := ite_f hb533 H518
            refine wp_skip ?_
            refine TN ?_
            refine wp_region_lit ?_
            refine L1 (stv hA (by decide) (run_move (hA.ev rfl)) ?_)
            clear hA; intro a hA
            refine L1 (stv hA (by decide) (run_assign (hA.ev rfl)) ?_)
            clear hA; intro a hA
            refine LQ ?_
            refine BN ?_
            refine TN ?_
            refine wp_region_lit ?_
            refine L1 (stv hA (by decide) (run_bin (hA.ev rfl) (hA.ev rfl) (bin_add _ _ _ _)) ?_)
            clear hA; intro a hA
            refine L1 (stv hA (by decide) (run_move (hA.ev rfl)) ?_)
            clear hA; intro a hA
            refine LQ ?_
            exact ⟨_, Nat.lt_succ_self m520, (r326.2.getD x513.toNat (0 : Int)), IntKind.i64.wrap (x513 + 1), H518, hM, ((((((((((hA.nil.cons (hA.get 83 _ rfl)).cons (hA.get 82 _ rfl)).cons (hA.get 81 _ rfl)).cons (hA.get 14 _ rfl)).cons (hA.get 13 _ rfl)).cons (hA.get 12 _ rfl)).cons (hA.get 11 _ rfl)).cons (hA.get 10 _ rfl)).cons (hA.get 9 _ rfl)).cons (hA.get 7 _ rfl))⟩
        · replace H518 := ite_f hb522 H518
          refine wp_exit ?_
          refine TX ?_
          refine TX ?_
          refine BX ?_
          exact ⟨x512, Option.some.inj H518, (hM.sel [2, 3, 4, 5] rfl (by decide)), ((((((hA.nil.cons (hA.get 14 _ rfl)).cons (hA.get 13 _ rfl)).cons (hA.get 12 _ rfl)).cons (hA.get 11 _ rfl)).cons (hA.get 10 _ rfl)).cons (hA.get 9 _ rfl))⟩
      clear hM hA
      rintro a w534 ⟨x517, rfl, hM, hA⟩
      try dsimp only at H
      refine TN ?_
      refine wp_seq ?_
      refine wp_seq ?_
      obtain ⟨o540, H539, H⟩ := Option.bind_eq_some_iff.1 H
      refine cutC (fun a w => ∃ (x538 : Bool), x538 = o540 ∧ Mem F w0 w [.row 3 (Pl.int .i64).sz (.slice A335 r326.2.length c336) ((Pl.int .i64).flat r326.2), .row 3 (Pl.int .i64).sz (.slice A343 r337.1.length c344) ((Pl.int .i64).flat r337.1)] ∧ Has 133 [(11, (.slice A335 r326.2.length c336)), (12, (.slice A343 r337.1.length c344)), (113, (.bool x538))] a) ?_ ?_
      · refine wp_region_lit ?_
        refine L1 (stv hA (by decide) (run_move (hA.ev rfl)) ?_)
        clear hA; intro a hA
        refine L1 (stv hA (by decide) (run_move (hA.ev rfl)) ?_)
        clear hA; intro a hA
        refine L1 (stv hA (by decide) (run_bin (hA.ev rfl) (hA.ev rfl) (bin_neq _ _ _ _)) ?_)
        clear hA; intro a hA
        refine L1 (stv hA (by decide) (run_move (hA.ev rfl)) ?_)
        clear hA; intro a hA
        refine bsplit (b := (x517 != ((IntKind.i64.wrap d_2).tmod ((r311.Nodes.length : Nat) : Int)))) (fun hb541 => ?_) (fun hb541 => ?_)
        · replace H539 := ite_t hb541 H539
          have hA := hA.re (t := 100) rfl (congrArg Value.bool hb541)
          refine L1 (gate_off rfl (by decide) rfl hA (by decide) rfl rfl ?_); clear hA; intro a hA
          refine L1 (gate_off rfl (by decide) rfl hA (by decide) rfl rfl ?_); clear hA; intro a hA
          refine L1 (gate_off rfl (by decide) rfl hA (by decide) rfl rfl ?_); clear hA; intro a hA
          refine L1 (gate_off rfl (by decide) rfl hA (by decide) rfl rfl ?_); clear hA; intro a hA
          refine L1 (gate_off rfl (by decide) rfl hA (by decide) rfl rfl ?_); clear hA; intro a hA
          refine L1 (stv hA (by decide) (run_pick (hA.ev rfl) (fun _ => hA.ev rfl) (fun h => Bool.noConfusion h)) ?_)
          clear hA; intro a hA
          refine L1 (stv hA (by decide) (run_move (hA.ev rfl)) ?_)
          clear hA; intro a hA
          refine L1 (gate_off rfl (by decide) rfl hA (by decide) rfl rfl ?_); clear hA; intro a hA
          refine L1 (gate_off rfl (by decide) rfl hA (by decide) rfl rfl ?_); clear hA; intro a hA
          refine L1 (gate_off rfl (by decide) rfl hA (by decide) rfl rfl ?_); clear hA; intro a hA
          refine L1 (gate_off rfl (by decide) rfl hA (by decide) rfl rfl ?_); clear hA; intro a hA
          refine L1 (gate_off rfl (by decide) rfl hA (by decide) rfl rfl ?_); clear hA; intro a hA
          refine L1 (stv hA (by decide) (run_pick (hA.ev rfl) (fun _ => hA.ev rfl) (fun h => Bool.noConfusion h)) ?_)
          clear hA; intro a hA
          refine LQ ?_
          exact ⟨true, Option.some.inj H539, (hM.sel [1, 2] rfl (by decide)), (((hA.nil.cons (hA.get 113 _ rfl)).cons (hA.get 12 _ rfl)).cons (hA.get 11 _ rfl))⟩
        · replace H539 := ite_f hb541 H539
          have hA := hA.re (t := 100) rfl (congrArg Value.bool hb541)
          refine L1 (gate_on rfl rfl hA (by decide) rfl (stv hA (by decide) (run_move (hA.ev rfl)) ?_))
          clear hA; intro a hA
          refine L1 (gate_on rfl rfl hA (by decide) rfl (stv hA (by decide) (run_len_slice Try.underlying31 (hA.ev rfl)) ?_))
          clear hA; intro a hA
          refine L1 (gate_on rfl rfl hA (by decide) rfl (stv hA (by decide) (run_move (hA.ev rfl)) ?_))
          clear hA; intro a hA
          refine L1 (gate_on rfl rfl hA (by decide) rfl (stv hA (by decide) (run_len_slice Try.underlying31 (hA.ev rfl)) ?_))
          clear hA; intro a hA
          refine L1 (gate_on rfl rfl hA (by decide) rfl (stv hA (by decide) (run_bin (hA.ev rfl) (hA.ev rfl) (bin_neq _ _ _ _)) ?_))
          clear hA; intro a hA
          refine L1 (stv hA (by decide) (run_pick (hA.ev rfl) (fun h => Bool.noConfusion h) (fun _ => hA.ev rfl)) ?_)
          clear hA; intro a hA
          refine L1 (stv hA (by decide) (run_move (hA.ev rfl)) ?_)
          clear hA; intro a hA
          refine bsplit (b := (((r337.1.length : Nat) : Int) != ((r326.2.length : Nat) : Int))) (fun hb542 => ?_) (fun hb542 => ?_)
          · replace H539 := ite_t hb542 H539
            have hA := hA.re (t := 107) rfl (congrArg Value.bool hb542)
            refine L1 (gate_off rfl (by decide) rfl hA (by decide) rfl rfl ?_); clear hA; intro a hA
            refine L1 (gate_off rfl (by decide) rfl hA (by decide) rfl rfl ?_); clear hA; intro a hA
            refine L1 (gate_off rfl (by decide) rfl hA (by decide) rfl rfl ?_); clear hA; intro a hA
            refine L1 (gate_off rfl (by decide) rfl hA (by decide) rfl rfl ?_); clear hA; intro a hA
            refine L1 (gate_off rfl (by decide) rfl hA (by decide) rfl rfl ?_); clear hA; intro a hA
            refine L1 (stv hA (by decide) (run_pick (hA.ev rfl) (fun _ => hA.ev rfl) (fun h => Bool.noConfusion h)) ?_)
            clear hA; intro a hA
            refine LQ ?_
            exact ⟨true, Option.some.inj H539, (hM.sel [1, 2] rfl (by decide)), (((hA.nil.cons (hA.get 113 _ rfl)).cons (hA.get 12 _ rfl)).cons (hA.get 11 _ rfl))⟩
          · replace H539 := ite_f hb542 H539
            have hA := hA.re (t := 107) rfl (congrArg Value.bool hb542)
            refine L1 (gate_on rfl rfl hA (by decide) rfl (stv hA (by decide) (run_move (hA.ev rfl)) ?_))
            clear hA; intro a hA
            refine L1 (gate_on rfl rfl hA (by decide) rfl (stv hA (by decide) (run_len_slice Try.underlying31 (hA.ev rfl)) ?_))
            clear hA; intro a hA
            refine L1 (gate_on rfl rfl hA (by decide) rfl (stv hA (by decide) (run_move (hA.ev rfl)) ?_))
            clear hA; intro a hA
            refine L1 (gate_on rfl rfl hA (by decide) rfl (stv hA (by decide) (run_len_slice Try.underlying31 (hA.ev rfl)) ?_))
            clear hA; intro a hA
            refine L1 (gate_on rfl rfl hA (by decide) rfl (stv hA (by decide) (run_bin (hA.ev rfl) (hA.ev rfl) (bin_neq _ _ _ _)) ?_))
            clear hA; intro a hA
            refine L1 (stv hA (by decide) (run_pick (hA.ev rfl) (fun h => Bool.noConfusion h) (fun _ => hA.ev rfl)) ?_)
            clear hA; intro a hA
            refine LQ ?_
            exact ⟨(((r337.2.length : Nat) : Int) != ((r326.1.length : Nat) : Int)), Option.some.inj H539, (hM.sel [1, 2] rfl (by decide)), (((hA.nil.cons (hA.get 113 _ rfl)).cons (hA.get 12 _ rfl)).cons (hA.get 11 _ rfl))⟩
      clear hM hA
      rintro a w543 ⟨x538, rfl, hM, hA⟩
      try dsimp only at H
      refine TN ?_
      refine tcond (b := x538) hA rfl (fun hb544 => ?_) (fun hb544 => ?_)
      · replace H := ite_t hb544 H
        refine wp_seq ?_
        refine wp_region_lit ?_
        refine L1 (stv hA (by decide) (run_assign (hA.ev rfl)) ?_)
        clear hA; intro a hA
        refine LQ ?_
        refine TN ?_
        refine wp_ret ?_
        obtain rfl := Option.some.inj H
        refine TR ?_
        exact ret_post1 (fn := Try.f6) hA rfl rfl ⟨_, rfl, rfl, (hM.sel [] rfl (by decide))⟩
      · replace H := ite_f hb544 H
        refine wp_skip ?_
        refine TN ?_
        refine wp_seq ?_
        refine wp_seq ?_
        refine wp_region_lit ?_
        refine L1 (stv hA (by decide) (run_move (hA.ev rfl)) ?_)
        clear hA; intro a hA
        refine L1 (stv hA (by decide) (run_len_slice Try.underlying31 (hA.ev rfl)) ?_)
        clear hA; intro a hA
        refine L1 (stv hA (by decide) (run_move (hA.ev rfl)) ?_)
        clear hA; intro a hA
        refine LQ ?_
        refine TN ?_
        obtain ⟨o595, H594, H⟩ := Option.bind_eq_some_iff.1 H
        refine cutC (fun a w => (.go ()) = o595 ∧ Mem F w0 w [] ∧ Has 133 [] a) ?_ ?_
        · refine wp_block ?_
          refine wp_loop_ghost (fun m a w => ∃ (x593 : Int), law16_BranchWalks.l2 r326 r337 m x593 = some o595 ∧ Mem F w0 w [.row 3 (Pl.int .i64).sz (.slice A335 r326.2.length c336) ((Pl.int .i64).flat r326.2), .row 3 (Pl.int .i64).sz (.slice A343 r337.1.length c344) ((Pl.int .i64).flat r337.1)] ∧ Has 133 [(11, (.slice A335 r326.2.length c336)), (12, (.slice A343 r337.1.length c344)), (115, (.int .i64 ((r326.2.length : Nat) : Int))), (116, (.int .i64 x593))] a) k ⟨0, H594, hM, ((((hA.nil.cons (hA.get 116 _ rfl)).cons (hA.get 115 _ rfl)).cons (hA.get 12 _ rfl)).cons (hA.get 11 _ rfl))⟩ ?_
          clear hM hA; rintro m596 a w597 ⟨x593, H594, hM, hA⟩
          cases m596 with
          | zero => exact absurd H594 (by simp [law16_BranchWalks.l2])
          | succ m596 =>
          rw [law16_BranchWalks.l2] at H594
          refine wp_seq ?_
          refine wp_region_lit ?_
          refine L1 (stv hA (by decide) (run_bin (hA.ev rfl) (hA.ev rfl) (bin_lss _ _ _ _)) ?_)
          clear hA; intro a hA
          refine LQ ?_
          refine TN ?_
          refine wp_seq ?_
          refine tcond (b := (decide (x593 < ((r326.2.length : Nat) : Int)))) hA rfl (fun hb598 => ?_) (fun hb598 => ?_)
          · replace H594 := ite_t hb598 H594
            refine wp_skip ?_
            refine TN ?_
            refine wp_seq ?_
            refine wp_block ?_
            refine wp_seq ?_
            refine wp_region_lit ?_
            refine L1 (stv hA (by decide) (run_move (hA.ev rfl)) ?_)
            clear hA; intro a hA
            refine L1 (stv hA (by decide) (run_assign (hA.ev rfl)) ?_)
            clear hA; intro a hA
            refine LQ ?_
            refine TN ?_
            refine wp_seq ?_
            refine draw (fun w' => Below w597.heap.size w597 w') [] rfl ?_
            intro w599 hw hS; replace hM := hM.ext hS; clear hw
            refine d_takef (i := 0) (L' := #[true, false, false, false, false, false, false, false, false, false, false, false, false]) rfl (by kernel_rfl) rfl (fun _ _ _ h => h) hA (by decide) (fun _ => hS) (fun a w' hA => run_move (hA.ev rfl)) ?_; clear hA; intro a hA
            refine d_takef (i := 1) (L' := #[true, true, false, false, false, false, false, false, false, false, false, false, false]) rfl (by kernel_rfl) rfl (fun _ _ _ h => h) hA (by decide) (fun _ => hS) (fun a w' hA => run_move (hA.ev rfl)) ?_; clear hA; intro a hA
            refine d_takef (i := 2) (L' := #[true, true, true, false, false, false, false, false, false, false, false, false, false]) rfl (by kernel_rfl) rfl (fun _ _ _ h => h) hA (by decide) (fun _ => hS) (fun a w' hA => run_len_slice Try.underlying31 (hA.ev rfl)) ?_; clear hA; intro a hA
            refine d_takef (i := 3) (L' := #[true, true, true, true, false, false, false, false, false, false, false, false, false]) rfl (by kernel_rfl) rfl (fun _ _ _ h => h) hA (by decide) (fun _ => hS) (fun a w' hA => run_bin (hA.ev rfl) (hA.ev rfl) (bin_sub _ _ _ _)) ?_; clear hA; intro a hA
            refine d_takef (i := 4) (L' := #[true, true, true, true, true, false, false, false, false, false, false, false, false]) rfl (by kernel_rfl) rfl (fun _ _ _ h => h) hA (by decide) (fun _ => hS) (fun a w' hA => run_move (hA.ev rfl)) ?_; clear hA; intro a hA
            refine d_takef (i := 5) (L' := #[true, true, true, true, true, true, false, false, false, false, false, false, false]) rfl (by kernel_rfl) rfl (fun _ _ _ h => h) hA (by decide) (fun _ => hS) (fun a w' hA => run_bin (hA.ev rfl) (hA.ev rfl) (bin_sub _ _ _ _)) ?_; clear hA; intro a hA
            obtain ⟨⟨hi601, hj602⟩, H594⟩ := ite_some H594
            obtain ⟨ad603, hq604, hat605⟩ := Row.elem' (p := (Pl.int .i64)) (RowOk.row (hM.row (p := (Pl.int .i64)) (.s .z))) (RowOk.len (hM.row (p := (Pl.int .i64)) (.s .z))) (0 : Int) (IntKind.i64.wrap ((IntKind.i64.wrap (((r337.1.length : Nat) : Int) - 1)) - x593)) hi601 hj602
            refine d_takef (i := 6) (L' := #[true, true, true, true, true, true, true, false, false, false, false, false, false]) rfl (by kernel_rfl) rfl (fun _ _ _ h => h) hA (by decide) (fun _ => hS) (fun a w' hA => run_idx Try.underlying31 Try.sizeOf3 (hA.ev rfl) hq604 (hA.ev rfl) hi601 hj602) ?_; clear hA; intro a hA
            refine rebase hS ?_; clear hS; intro hS
            refine d_take (i := 7) (L' := #[true, true, true, true, true, true, true, true, false, false, false, false, false]) rfl (by kernel_rfl) rfl (fun _ _ _ h => h) hA (by decide) rfl hS (fun a w' hA hS' => run_ld (hA.ev rfl) (run_loadS Try.isAgg3 ((hat605).extB hS'))) ?_; clear hA; intro a hA
            refine d_takef (i := 8) (L' := #[true, true, true, true, true, true, true, true, true, false, false, false, false]) rfl (by kernel_rfl) rfl (fun _ _ _ h => h) hA (by decide) (fun _ => hS) (fun a w' hA => run_move (hA.ev rfl)) ?_; clear hA; intro a hA
            refine d_takef (i := 9) (L' := #[true, true, true, true, true, true, true, true, true, true, false, false, false]) rfl (by kernel_rfl) rfl (fun _ _ _ h => h) hA (by decide) (fun _ => hS) (fun a w' hA => run_move (hA.ev rfl)) ?_; clear hA; intro a hA
            obtain ⟨⟨hi606, hj607⟩, H594⟩ := ite_some H594
            obtain ⟨ad608, hq609, hat610⟩ := Row.elem' (p := (Pl.int .i64)) (RowOk.row (hM.row (p := (Pl.int .i64)) .z)) (RowOk.len (hM.row (p := (Pl.int .i64)) .z)) (0 : Int) x593 hi606 hj607
            refine d_takef (i := 10) (L' := #[true, true, true, true, true, true, true, true, true, true, true, false, false]) rfl (by kernel_rfl) rfl (fun _ _ _ h => h) hA (by decide) (fun _ => hS) (fun a w' hA => run_idx Try.underlying31 Try.sizeOf3 (hA.ev rfl) hq609 (hA.ev rfl) hi606 hj607) ?_; clear hA; intro a hA
            refine d_take (i := 11) (L' := #[true, true, true, true, true, true, true, true, true, true, true, true, false]) rfl (by kernel_rfl) rfl (fun _ _ _ h => h) hA (by decide) rfl hS (fun a w' hA hS' => run_ld (hA.ev rfl) (run_loadS Try.isAgg3 ((hat610).extB hS'))) ?_; clear hA; intro a hA
            refine d_takef (i := 12) (L' := #[true, true, true, true, true, true, true, true, true, true, true, true, true]) rfl (by kernel_rfl) rfl (fun _ _ _ h => h) hA (by decide) (fun _ => hS) (fun a w' hA => run_bin (hA.ev rfl) (hA.ev rfl) (bin_neq _ _ _ _)) ?_; clear hA; intro a hA
            refine d_done (by kernel_rfl) ?_
            refine TN ?_
            refine tcond (b := ((r337.1.getD (IntKind.i64.wrap ((IntKind.i64.wrap (((r337.1.length : Nat) : Int) - 1)) - x593)).toNat (0 : Int)) != (r326.2.getD x593.toNat (0 : Int)))) hA rfl (fun hb611 => ?_) (fun hb611 => ?_)
            · replace H594 := ite_t hb611 H594
              refine wp_seq ?_
              refine wp_region_lit ?_
              refine L1 (stv hA (by decide) (run_assign (hA.ev rfl)) ?_)
              clear hA; intro a hA
              refine LQ ?_
              refine TN ?_
              refine wp_ret ?_
              obtain rfl := Option.some.inj H594
              dsimp only at H
              obtain rfl := Option.some.inj H
              refine BR ?_
              refine TR ?_
              refine TR ?_
              refine BR ?_
              refine TR ?_
              refine TR ?_
              exact ret_post1 (fn := Try.f6) hA rfl rfl ⟨_, rfl, rfl, (hM.sel [] rfl (by decide))⟩
            · replace H594 := ite_f hb611 H594
              refine wp_skip ?_
              refine BN ?_
              refine TN ?_
              refine wp_region_lit ?_
              refine L1 (stv hA (by decide) (run_bin (hA.ev rfl) (hA.ev rfl) (bin_add _ _ _ _)) ?_)
              clear hA; intro a hA
              refine L1 (stv hA (by decide) (run_move (hA.ev rfl)) ?_)
              clear hA; intro a hA
              refine LQ ?_
              exact ⟨_, Nat.lt_succ_self m596, IntKind.i64.wrap (x593 + 1), H594, hM, ((((hA.nil.cons (hA.get 116 _ rfl)).cons (hA.get 115 _ rfl)).cons (hA.get 12 _ rfl)).cons (hA.get 11 _ rfl))⟩
          · replace H594 := ite_f hb598 H594
            refine wp_exit ?_
            refine TX ?_
            refine TX ?_
            refine BX ?_
            exact ⟨Option.some.inj H594, (hM.sel [] rfl (by decide)), hA.nil⟩
        clear hM hA
        rintro a w612 ⟨rfl, hM, hA⟩
        try dsimp only at H
        refine TN ?_
        refine wp_seq ?_
        refine wp_region_lit ?_
        refine L1 (stv hA (by decide) (run_assign (hA.ev rfl)) ?_)
        clear hA; intro a hA
        refine LQ ?_
        refine TN ?_
        refine wp_ret ?_
        obtain rfl := Option.some.inj H
        exact ret_post1 (fn := Try.f6) hA rfl rfl ⟨_, rfl, rfl, hM⟩

end Go.Proofs.Ytjjahfpamjmacaa.G
