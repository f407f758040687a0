/- The functions that a law of this seat reaches: what each comes to, as a plain function, and that its code comes to it. Conditions: the plain function gives a value (enough fuel, no panic). -/
import Derived.Test.YtjjahfpamjmacaaFBranchShortx0
set_option linter.unusedVariables false
set_option linter.unusedSimpArgs false
namespace Go.Proofs.Ytjjahfpamjmacaa.G
open Go Go.RowKit Go.Proofs
def law16_sane.f (k : Nat)  : Option Bool := (if 0 ≤ (30 : Int) ∧ (30 : Int) * 1 ≤ 140737488355328 then ((law16_line.f k (List.replicate ((30 : Int).toNat) (0 : Int))).bind fun r126 => ((branch_Locator.f k (Tree.mk r126.Nodes r126.Best) 30).bind fun r137 => (Option.bind (α := Bool) (if (((r137.length : Nat) : Int) == 14) = true then (if 0 ≤ (10 : Int) ∧ (10 : Int) < ((r137.length : Nat) : Int) then (if 0 ≤ (19 : Int) ∧ (19 : Int) < ((r126.Nodes.length : Nat) : Int) then (if ((r137.getD (10 : Int).toNat (Vector.replicate 32 0 : Vector Int 32)) == ((r126.Nodes.getD (19 : Int).toNat Node.z).Hash)) = true then (if 0 ≤ (12 : Int) ∧ (12 : Int) < ((r137.length : Nat) : Int) then (if 0 ≤ (7 : Int) ∧ (7 : Int) < ((r126.Nodes.length : Nat) : Int) then (if ((r137.getD (12 : Int).toNat (Vector.replicate 32 0 : Vector Int 32)) == ((r126.Nodes.getD (7 : Int).toNat Node.z).Hash)) = true then (if 0 ≤ (13 : Int) ∧ (13 : Int) < ((r137.length : Nat) : Int) then (if 0 ≤ (0 : Int) ∧ (0 : Int) < ((r126.Nodes.length : Nat) : Int) then (if ((r137.getD (13 : Int).toNat (Vector.replicate 32 0 : Vector Int 32)) == ((r126.Nodes.getD (0 : Int).toNat Node.z).Hash)) = true then ((branch_Fork.f k (Tree.mk r126.Nodes r126.Best) 3 9).bind fun r230 => (if (r230 == 3) = true then ((branch_Main.f k (Tree.mk r126.Nodes r126.Best)).bind fun r234 => (some (((r234.length : Nat) : Int) == 31))) else (some false))) else (some false)) else none) else none) else (some false)) else none) else none) else (some false)) else none) else none) else (some false)) (fun t191 => (some t191))))) else none)
set_option maxRecDepth 100000 in
theorem law16_sane.calls (k : Nat)  (F : List (Option Nat)) (r : Bool) (w0 : World) (hM : Mem F w0 w0 []) (H : law16_sane.f k  = some r) :
    Calls Try.prog 8 #[] w0 fun e w' => ∃ v, e = .returned v ∧ v = (.bool r) ∧ Mem F w0 w' [] := by
  unfold law16_sane.f at H
  refine enterL (n := 54) [] Try.func8 rfl rfl rfl ?_
  intro a hA
  refine wp_seq ?_
  refine wp_region_lit ?_
  refine L1 (stv hA (by decide) (run_assign (hA.ev rfl)) ?_)
  clear hA; intro a hA
  refine LQ ?_
  refine TN ?_
  refine wp_seq ?_
  refine wp_region_lit ?_
  obtain ⟨⟨hi122, hj123⟩, H⟩ := ite_some H
  refine L1 (e_make elt25 rfl hM hA rfl rfl hi122 hj123 (by decide) ?_)
  clear hM hA; intro w124 g121 hM hE a hA
  obtain ⟨r126, H127, H⟩ := Option.bind_eq_some_iff.1 H
  refine L1 (st_call Try.call10 hA [(.slice (some ⟨g121, 0, none⟩) ((30 : Int).toNat) ((30 : Int).toNat))] rfl (by decide) (law16_line.calls _ _ _ _ _ _ ((RoV.mk (hM.rowC (p := (Pl.int .u8)) (Ms := []) .z) (RowOk.len (hM.row (p := (Pl.int .u8)) .z)) (RowOk.cap (hM.row (p := (Pl.int .u8)) .z)))) (hM.front (Ms := [])) H127) ?_)
  clear hA; rintro _ w128 ⟨v129, rfl, hMc⟩ a hA
  have hE := hMc.below; have hM := hM.call (Ms := []) hMc
  clear hMc; simp only [List.cons_append, List.nil_append] at hM
  obtain ⟨A131, c132, rfl⟩ := RowOk.form (hM.row (p := pNode) .z)
  refine L1 (e_alloc (cs := [(.slice none 0 0), (.int .i64 0)]) hM zero24 rfl hA (by decide) ?_)
  clear hM hA; intro w134 g133 hM hE a hA
  refine L1 (e_store (g := g133) (off := 0) (cur := [(.slice none 0 0), (.int .i64 0)]) (cs' := [(.slice A131 r126.Nodes.length c132), (.int .i64 r126.Best)]) hM .z Try.sizeOf24 hA rfl (by simp [add_mk]) rfl (by first | rfl | simp [Value.cells, Pl.len]) (by simp [Value.cells, Value.oneCell']) (by first | exact Nat.le_of_ble_eq_true rfl | (simp [Pl.len]; done)) (spl_all (by first | rfl | simp [Value.cells, Pl.len])) ?_)
  clear hM hA; intro w136 hM hE a hA
  refine LQ ?_
  refine TN ?_
  refine wp_seq ?_
  refine wp_region_lit ?_
  refine L1 (stv hA (by decide) (run_ld (hA.ev rfl) (run_loadW Try.isAgg24 Try.sizeOf24 (by simp [Pl.len]; try rfl) (hM.box .z))) ?_)
  clear hA; intro a hA
  obtain ⟨r137, H138, H⟩ := Option.bind_eq_some_iff.1 H
  refine L1 (st_call Try.call18 hA [(.agg #[(.slice A131 r126.Nodes.length c132), (.int .i64 r126.Best)]), (.int .i64 30)] rfl (by decide) (branch_Locator.calls _ _ _ _ _ _ _ ((RoV.mk (hM.rowC (p := pNode) (Ms := []) (.s .z)) (RowOk.len (hM.row (p := pNode) (.s .z))) (RowOk.cap (hM.row (p := pNode) (.s .z))))) (hM.front (Ms := [])) H138) ?_)
  clear hA; rintro _ w139 ⟨v140, rfl, hMc⟩ a hA
  have hE := hMc.below; have hM := hM.call (Ms := []) hMc
  clear hMc; simp only [List.cons_append, List.nil_append] at hM
  obtain ⟨A142, c143, rfl⟩ := RowOk.form (hM.row (p := pHash) .z)
  refine L1 (stv hA (by decide) (run_assign (hA.ev rfl)) ?_)
  clear hA; intro a hA
  refine LQ ?_
  refine TN ?_
  refine wp_seq ?_
  obtain ⟨o193, H192, H⟩ := Option.bind_eq_some_iff.1 H
  refine cutC (fun a w => ∃ (t191 : Bool), t191 = o193 ∧ Mem F w0 w [] ∧ Has 54 [(0, (.bool t191))] a) ?_ ?_
  · refine draw (fun w' => Below w139.heap.size w139 w') [] rfl ?_
    intro w194 hw hS; replace hM := hM.ext hS; clear hw
    refine d_takef (i := 0) (L' := #[true, false, false, false, false, false, false, false, false, false, false, false, false, false, false, false, false, false, false, false, false, false, false, false, false, false, false, false, false, false, false, false, false, false, false, false, false, false, false, false, false, false, false, false, false, false, false, false]) rfl (by kernel_rfl) rfl (fun _ _ _ h => h) hA (by decide) (fun _ => hS) (fun a w' hA => run_move (hA.ev rfl)) ?_; clear hA; intro a hA
    refine d_takef (i := 1) (L' := #[true, true, false, false, false, false, false, false, false, false, false, false, false, false, false, false, false, false, false, false, false, false, false, false, false, false, false, false, false, false, false, false, false, false, false, false, false, false, false, false, false, false, false, false, false, false, false, false]) rfl (by kernel_rfl) rfl (fun _ _ _ h => h) hA (by decide) (fun _ => hS) (fun a w' hA => run_len_slice Try.underlying35 (hA.ev rfl)) ?_; clear hA; intro a hA
    refine d_takef (i := 2) (L' := #[true, true, true, false, false, false, false, false, false, false, false, false, false, false, false, false, false, false, false, false, false, false, false, false, false, false, false, false, false, false, false, false, false, false, false, false, false, false, false, false, false, false, false, false, false, false, false, false]) rfl (by kernel_rfl) rfl (fun _ _ _ h => h) hA (by decide) (fun _ => hS) (fun a w' hA => run_bin (hA.ev rfl) (hA.ev rfl) (bin_eql _ _ _ _)) ?_; clear hA; intro a hA
    refine d_takef (i := 3) (L' := #[true, true, true, true, false, false, false, false, false, false, false, false, false, false, false, false, false, false, false, false, false, false, false, false, false, false, false, false, false, false, false, false, false, false, false, false, false, false, false, false, false, false, false, false, false, false, false, false]) rfl (by kernel_rfl) rfl (fun _ _ _ h => h) hA (by decide) (fun _ => hS) (fun a w' hA => run_move (hA.ev rfl)) ?_; clear hA; intro a hA
    refine bsplit (b := (((r137.length : Nat) : Int) == 14)) (fun hb196 => ?_) (fun hb196 => ?_)
    · replace H192 := ite_t hb196 H192
      have hA := hA.re (t := 10) rfl (congrArg Value.bool hb196)
      refine d_takegf (i := 4) (L' := #[true, true, true, true, true, false, false, false, false, false, false, false, false, false, false, false, false, false, false, false, false, false, false, false, false, false, false, false, false, false, false, false, false, false, false, false, false, false, false, false, false, false, false, false, false, false, false, false]) rfl (by kernel_rfl) rfl (fun _ _ _ h => h) rfl hA (by decide) (by decide) rfl (fun _ => hS) (fun a w' hA => run_move (hA.ev rfl)) ?_; clear hA; intro a hA
      obtain ⟨⟨hi197, hj198⟩, H192⟩ := ite_some H192
      obtain ⟨ad199, hq200, hat201⟩ := Row.elem' (p := pHash) (RowOk.row (hM.row (p := pHash) .z)) (RowOk.len (hM.row (p := pHash) .z)) (Vector.replicate 32 0 : Vector Int 32) (10 : Int) hi197 hj198
      refine d_takegf (i := 5) (L' := #[true, true, true, true, true, true, false, false, false, false, false, false, false, false, false, false, false, false, false, false, false, false, false, false, false, false, false, false, false, false, false, false, false, false, false, false, false, false, false, false, false, false, false, false, false, false, false, false]) rfl (by kernel_rfl) rfl (fun _ _ _ h => h) rfl hA (by decide) (by decide) rfl (fun _ => hS) (fun a w' hA => run_idx Try.underlying35 Try.sizeOf38 (hA.ev rfl) hq200 (hA.ev rfl) hi197 hj198) ?_; clear hA; intro a hA
      refine rebase hS ?_; clear hS; intro hS
      refine d_takeg (i := 6) (L' := #[true, true, true, true, true, true, true, false, false, false, false, false, false, false, false, false, false, false, false, false, false, false, false, false, false, false, false, false, false, false, false, false, false, false, false, false, false, false, false, false, false, false, false, false, false, false, false, false]) rfl (by kernel_rfl) rfl (fun _ _ _ h => h) rfl hA (by decide) (by decide) rfl rfl hS (fun a w' hA hS' => run_ld (hA.ev rfl) (run_loadP Try.isAgg38 Try.sizeOf38 ((hat201).extB hS'))) ?_; clear hA; intro a hA
      refine d_takegf (i := 7) (L' := #[true, true, true, true, true, true, true, true, false, false, false, false, false, false, false, false, false, false, false, false, false, false, false, false, false, false, false, false, false, false, false, false, false, false, false, false, false, false, false, false, false, false, false, false, false, false, false, false]) rfl (by kernel_rfl) rfl (fun _ _ _ h => h) rfl hA (by decide) (by decide) rfl (fun _ => hS) (fun a w' hA => run_field' Try.underlying24 rfl rfl Try.sizeOf22 (by decide) (hA.ev rfl)) ?_; clear hA; intro a hA
      refine d_takeg (i := 8) (L' := #[true, true, true, true, true, true, true, true, true, false, false, false, false, false, false, false, false, false, false, false, false, false, false, false, false, false, false, false, false, false, false, false, false, false, false, false, false, false, false, false, false, false, false, false, false, false, false, false]) rfl (by kernel_rfl) rfl (fun _ _ _ h => h) rfl hA (by decide) (by decide) rfl rfl hS (fun a w' hA hS' => run_ld (hA.ev rfl) (run_loadS Try.isAgg22 ((At.seg1 (hM.box (.s .z)) 0 rfl).extB hS'))) ?_; clear hA; intro a hA
      obtain ⟨⟨hi202, hj203⟩, H192⟩ := ite_some H192
      obtain ⟨ad204, hq205, hat206⟩ := Row.elem' (p := pNode) (RowOk.row (hM.row (p := pNode) (.s (.s .z)))) (RowOk.len (hM.row (p := pNode) (.s (.s .z)))) Node.z (19 : Int) hi202 hj203
      refine d_takegf (i := 9) (L' := #[true, true, true, true, true, true, true, true, true, true, false, false, false, false, false, false, false, false, false, false, false, false, false, false, false, false, false, false, false, false, false, false, false, false, false, false, false, false, false, false, false, false, false, false, false, false, false, false]) rfl (by kernel_rfl) rfl (fun _ _ _ h => h) rfl hA (by decide) (by decide) rfl (fun _ => hS) (fun a w' hA => run_idx Try.underlying22 Try.sizeOf46 (hA.ev rfl) hq205 (hA.ev rfl) hi202 hj203) ?_; clear hA; intro a hA
      refine d_takegf (i := 10) (L' := #[true, true, true, true, true, true, true, true, true, true, true, false, false, false, false, false, false, false, false, false, false, false, false, false, false, false, false, false, false, false, false, false, false, false, false, false, false, false, false, false, false, false, false, false, false, false, false, false]) rfl (by kernel_rfl) rfl (fun _ _ _ h => h) rfl hA (by decide) (by decide) rfl (fun _ => hS) (fun a w' hA => run_field' Try.underlying46 rfl rfl Try.sizeOf38 (by decide) (hA.ev rfl)) ?_; clear hA; intro a hA
      refine d_takeg (i := 11) (L' := #[true, true, true, true, true, true, true, true, true, true, true, true, false, false, false, false, false, false, false, false, false, false, false, false, false, false, false, false, false, false, false, false, false, false, false, false, false, false, false, false, false, false, false, false, false, false, false, false]) rfl (by kernel_rfl) rfl (fun _ _ _ h => h) rfl hA (by decide) (by decide) rfl rfl hS (fun a w' hA hS' => run_ld (hA.ev rfl) (run_loadP Try.isAgg38 Try.sizeOf38 ((Node.at_Hash (hat206)).extB hS'))) ?_; clear hA; intro a hA
      refine d_takegf (i := 12) (L' := #[true, true, true, true, true, true, true, true, true, true, true, true, true, false, false, false, false, false, false, false, false, false, false, false, false, false, false, false, false, false, false, false, false, false, false, false, false, false, false, false, false, false, false, false, false, false, false, false]) rfl (by kernel_rfl) rfl (fun _ _ _ h => h) rfl hA (by decide) (by decide) rfl (fun _ => hS) (fun a w' hA => run_aggeql eq_Hash rfl (by kernel_rfl) (hA.ev rfl) (hA.ev rfl)) ?_; clear hA; intro a hA
      refine d_takef (i := 13) (L' := #[true, true, true, true, true, true, true, true, true, true, true, true, true, true, false, false, false, false, false, false, false, false, false, false, false, false, false, false, false, false, false, false, false, false, false, false, false, false, false, false, false, false, false, false, false, false, false, false]) rfl (by kernel_rfl) rfl (fun _ _ _ h => h) hA (by decide) (fun _ => hS) (fun a w' hA => run_pick (hA.ev rfl) (fun _ => hA.ev rfl) (fun h => Bool.noConfusion h)) ?_; clear hA; intro a hA
      refine d_takef (i := 14) (L' := #[true, true, true, true, true, true, true, true, true, true, true, true, true, true, true, false, false, false, false, false, false, false, false, false, false, false, false, false, false, false, false, false, false, false, false, false, false, false, false, false, false, false, false, false, false, false, false, false]) rfl (by kernel_rfl) rfl (fun _ _ _ h => h) hA (by decide) (fun _ => hS) (fun a w' hA => run_move (hA.ev rfl)) ?_; clear hA; intro a hA
      refine bsplit (b := ((r137.getD (10 : Int).toNat (Vector.replicate 32 0 : Vector Int 32)) == ((r126.Nodes.getD (19 : Int).toNat Node.z).Hash))) (fun hb207 => ?_) (fun hb207 => ?_)
      · replace H192 := ite_t hb207 H192
        have hA := hA.re (t := 21) rfl (congrArg Value.bool hb207)
        refine d_takegf (i := 15) (L' := #[true, true, true, true, true, true, true, true, true, true, true, true, true, true, true, true, false, false, false, false, false, false, false, false, false, false, false, false, false, false, false, false, false, false, false, false, false, false, false, false, false, false, false, false, false, false, false, false]) rfl (by kernel_rfl) rfl (fun _ _ _ h => h) rfl hA (by decide) (by decide) rfl (fun _ => hS) (fun a w' hA => run_move (hA.ev rfl)) ?_; clear hA; intro a hA
        obtain ⟨⟨hi208, hj209⟩, H192⟩ := ite_some H192
        obtain ⟨ad210, hq211, hat212⟩ := Row.elem' (p := pHash) (RowOk.row (hM.row (p := pHash) .z)) (RowOk.len (hM.row (p := pHash) .z)) (Vector.replicate 32 0 : Vector Int 32) (12 : Int) hi208 hj209
        refine d_takegf (i := 16) (L' := #[true, true, true, true, true, true, true, true, true, true, true, true, true, true, true, true, true, false, false, false, false, false, false, false, false, false, false, false, false, false, false, false, false, false, false, false, false, false, false, false, false, false, false, false, false, false, false, false]) rfl (by kernel_rfl) rfl (fun _ _ _ h => h) rfl hA (by decide) (by decide) rfl (fun _ => hS) (fun a w' hA => run_idx Try.underlying35 Try.sizeOf38 (hA.ev rfl) hq211 (hA.ev rfl) hi208 hj209) ?_; clear hA; intro a hA
        refine d_takeg (i := 17) (L' := #[true, true, true, true, true, true, true, true, true, true, true, true, true, true, true, true, true, true, false, false, false, false, false, false, false, false, false, false, false, false, false, false, false, false, false, false, false, false, false, false, false, false, false, false, false, false, false, false]) rfl (by kernel_rfl) rfl (fun _ _ _ h => h) rfl hA (by decide) (by decide) rfl rfl hS (fun a w' hA hS' => run_ld (hA.ev rfl) (run_loadP Try.isAgg38 Try.sizeOf38 ((hat212).extB hS'))) ?_; clear hA; intro a hA
        refine d_takegf (i := 18) (L' := #[true, true, true, true, true, true, true, true, true, true, true, true, true, true, true, true, true, true, true, false, false, false, false, false, false, false, false, false, false, false, false, false, false, false, false, false, false, false, false, false, false, false, false, false, false, false, false, false]) rfl (by kernel_rfl) rfl (fun _ _ _ h => h) rfl hA (by decide) (by decide) rfl (fun _ => hS) (fun a w' hA => run_field' Try.underlying24 rfl rfl Try.sizeOf22 (by decide) (hA.ev rfl)) ?_; clear hA; intro a hA
        refine d_takeg (i := 19) (L' := #[true, true, true, true, true, true, true, true, true, true, true, true, true, true, true, true, true, true, true, true, false, false, false, false, false, false, false, false, false, false, false, false, false, false, false, false, false, false, false, false, false, false, false, false, false, false, false, false]) rfl (by kernel_rfl) rfl (fun _ _ _ h => h) rfl hA (by decide) (by decide) rfl rfl hS (fun a w' hA hS' => run_ld (hA.ev rfl) (run_loadS Try.isAgg22 ((At.seg1 (hM.box (.s .z)) 0 rfl).extB hS'))) ?_; clear hA; intro a hA
        obtain ⟨⟨hi213, hj214⟩, H192⟩ := ite_some H192
        obtain ⟨ad215, hq216, hat217⟩ := Row.elem' (p := pNode) (RowOk.row (hM.row (p := pNode) (.s (.s .z)))) (RowOk.len (hM.row (p := pNode) (.s (.s .z)))) Node.z (7 : Int) hi213 hj214
        refine d_takegf (i := 20) (L' := #[true, true, true, true, true, true, true, true, true, true, true, true, true, true, true, true, true, true, true, true, true, false, false, false, false, false, false, false, false, false, false, false, false, false, false, false, false, false, false, false, false, false, false, false, false, false, false, false]) rfl (by kernel_rfl) rfl (fun _ _ _ h => h) rfl hA (by decide) (by decide) rfl (fun _ => hS) (fun a w' hA => run_idx Try.underlying22 Try.sizeOf46 (hA.ev rfl) hq216 (hA.ev rfl) hi213 hj214) ?_; clear hA; intro a hA
        refine d_takegf (i := 21) (L' := #[true, true, true, true, true, true, true, true, true, true, true, true, true, true, true, true, true, true, true, true, true, true, false, false, false, false, false, false, false, false, false, false, false, false, false, false, false, false, false, false, false, false, false, false, false, false, false, false]) rfl (by kernel_rfl) rfl (fun _ _ _ h => h) rfl hA (by decide) (by decide) rfl (fun _ => hS) (fun a w' hA => run_field' Try.underlying46 rfl rfl Try.sizeOf38 (by decide) (hA.ev rfl)) ?_; clear hA; intro a hA
        refine d_takeg (i := 22) (L' := #[true, true, true, true, true, true, true, true, true, true, true, true, true, true, true, true, true, true, true, true, true, true, true, false, false, false, false, false, false, false, false, false, false, false, false, false, false, false, false, false, false, false, false, false, false, false, false, false]) rfl (by kernel_rfl) rfl (fun _ _ _ h => h) rfl hA (by decide) (by decide) rfl rfl hS (fun a w' hA hS' => run_ld (hA.ev rfl) (run_loadP Try.isAgg38 Try.sizeOf38 ((Node.at_Hash (hat217)).extB hS'))) ?_; clear hA; intro a hA
        refine d_takegf (i := 23) (L' := #[true, true, true, true, true, true, true, true, true, true, true, true, true, true, true, true, true, true, true, true, true, true, true, true, false, false, false, false, false, false, false, false, false, false, false, false, false, false, false, false, false, false, false, false, false, false, false, false]) rfl (by kernel_rfl) rfl (fun _ _ _ h => h) rfl hA (by decide) (by decide) rfl (fun _ => hS) (fun a w' hA => run_aggeql eq_Hash rfl (by kernel_rfl) (hA.ev rfl) (hA.ev rfl)) ?_; clear hA; intro a hA
        refine d_takef (i := 24) (L' := #[true, true, true, true, true, true, true, true, true, true, true, true, true, true, true, true, true, true, true, true, true, true, true, true, true, false, false, false, false, false, false, false, false, false, false, false, false, false, false, false, false, false, false, false, false, false, false, false]) rfl (by kernel_rfl) rfl (fun _ _ _ h => h) hA (by decide) (fun _ => hS) (fun a w' hA => run_pick (hA.ev rfl) (fun _ => hA.ev rfl) (fun h => Bool.noConfusion h)) ?_; clear hA; intro a hA
        refine d_takef (i := 25) (L' := #[true, true, true, true, true, true, true, true, true, true, true, true, true, true, true, true, true, true, true, true, true, true, true, true, true, true, false, false, false, false, false, false, false, false, false, false, false, false, false, false, false, false, false, false, false, false, false, false]) rfl (by kernel_rfl) rfl (fun _ _ _ h => h) hA (by decide) (fun _ => hS) (fun a w' hA => run_move (hA.ev rfl)) ?_; clear hA; intro a hA
        refine bsplit (b := ((r137.getD (12 : Int).toNat (Vector.replicate 32 0 : Vector Int 32)) == ((r126.Nodes.getD (7 : Int).toNat Node.z).Hash))) (fun hb218 => ?_) (fun hb218 => ?_)
        · replace H192 := ite_t hb218 H192
          have hA := hA.re (t := 32) rfl (congrArg Value.bool hb218)
          refine d_takegf (i := 26) (L' := #[true, true, true, true, true, true, true, true, true, true, true, true, true, true, true, true, true, true, true, true, true, true, true, true, true, true, true, false, false, false, false, false, false, false, false, false, false, false, false, false, false, false, false, false, false, false, false, false]) rfl (by kernel_rfl) rfl (fun _ _ _ h => h) rfl hA (by decide) (by decide) rfl (fun _ => hS) (fun a w' hA => run_move (hA.ev rfl)) ?_; clear hA; intro a hA
          obtain ⟨⟨hi219, hj220⟩, H192⟩ := ite_some H192
          obtain ⟨ad221, hq222, hat223⟩ := Row.elem' (p := pHash) (RowOk.row (hM.row (p := pHash) .z)) (RowOk.len (hM.row (p := pHash) .z)) (Vector.replicate 32 0 : Vector Int 32) (13 : Int) hi219 hj220
          refine d_takegf (i := 27) (L' := #[true, true, true, true, true, true, true, true, true, true, true, true, true, true, true, true, true, true, true, true, true, true, true, true, true, true, true, true, false, false, false, false, false, false, false, false, false, false, false, false, false, false, false, false, false, false, false, false]) rfl (by kernel_rfl) rfl (fun _ _ _ h => h) rfl hA (by decide) (by decide) rfl (fun _ => hS) (fun a w' hA => run_idx Try.underlying35 Try.sizeOf38 (hA.ev rfl) hq222 (hA.ev rfl) hi219 hj220) ?_; clear hA; intro a hA
          refine d_takeg (i := 28) (L' := #[true, true, true, true, true, true, true, true, true, true, true, true, true, true, true, true, true, true, true, true, true, true, true, true, true, true, true, true, true, false, false, false, false, false, false, false, false, false, false, false, false, false, false, false, false, false, false, false]) rfl (by kernel_rfl) rfl (fun _ _ _ h => h) rfl hA (by decide) (by decide) rfl rfl hS (fun a w' hA hS' => run_ld (hA.ev rfl) (run_loadP Try.isAgg38 Try.sizeOf38 ((hat223).extB hS'))) ?_; clear hA; intro a hA
          refine d_takegf (i := 29) (L' := #[true, true, true, true, true, true, true, true, true, true, true, true, true, true, true, true, true, true, true, true, true, true, true, true, true, true, true, true, true, true, false, false, false, false, false, false, false, false, false, false, false, false, false, false, false, false, false, false]) rfl (by kernel_rfl) rfl (fun _ _ _ h => h) rfl hA (by decide) (by decide) rfl (fun _ => hS) (fun a w' hA => run_field' Try.underlying24 rfl rfl Try.sizeOf22 (by decide) (hA.ev rfl)) ?_; clear hA; intro a hA
          refine d_takeg (i := 30) (L' := #[true, true, true, true, true, true, true, true, true, true, true, true, true, true, true, true, true, true, true, true, true, true, true, true, true, true, true, true, true, true, true, false, false, false, false, false, false, false, false, false, false, false, false, false, false, false, false, false]) rfl (by kernel_rfl) rfl (fun _ _ _ h => h) rfl hA (by decide) (by decide) rfl rfl hS (fun a w' hA hS' => run_ld (hA.ev rfl) (run_loadS Try.isAgg22 ((At.seg1 (hM.box (.s .z)) 0 rfl).extB hS'))) ?_; clear hA; intro a hA
          obtain ⟨⟨hi224, hj225⟩, H192⟩ := ite_some H192
          obtain ⟨ad226, hq227, hat228⟩ := Row.elem' (p := pNode) (RowOk.row (hM.row (p := pNode) (.s (.s .z)))) (RowOk.len (hM.row (p := pNode) (.s (.s .z)))) Node.z (0 : Int) hi224 hj225
          refine d_takegf (i := 31) (L' := #[true, true, true, true, true, true, true, true, true, true, true, true, true, true, true, true, true, true, true, true, true, true, true, true, true, true, true, true, true, true, true, true, false, false, false, false, false, false, false, false, false, false, false, false, false, false, false, false]) rfl (by kernel_rfl) rfl (fun _ _ _ h => h) rfl hA (by decide) (by decide) rfl (fun _ => hS) (fun a w' hA => run_idx Try.underlying22 Try.sizeOf46 (hA.ev rfl) hq227 (hA.ev rfl) hi224 hj225) ?_; clear hA; intro a hA
          refine d_takegf (i := 32) (L' := #[true, true, true, true, true, true, true, true, true, true, true, true, true, true, true, true, true, true, true, true, true, true, true, true, true, true, true, true, true, true, true, true, true, false, false, false, false, false, false, false, false, false, false, false, false, false, false, false]) rfl (by kernel_rfl) rfl (fun _ _ _ h => h) rfl hA (by decide) (by decide) rfl (fun _ => hS) (fun a w' hA => run_field' Try.underlying46 rfl rfl Try.sizeOf38 (by decide) (hA.ev rfl)) ?_; clear hA; intro a hA
          refine d_takeg (i := 33) (L' := #[true, true, true, true, true, true, true, true, true, true, true, true, true, true, true, true, true, true, true, true, true, true, true, true, true, true, true, true, true, true, true, true, true, true, false, false, false, false, false, false, false, false, false, false, false, false, false, false]) rfl (by kernel_rfl) rfl (fun _ _ _ h => h) rfl hA (by decide) (by decide) rfl rfl hS (fun a w' hA hS' => run_ld (hA.ev rfl) (run_loadP Try.isAgg38 Try.sizeOf38 ((Node.at_Hash (hat228)).extB hS'))) ?_; clear hA; intro a hA
          refine d_takegf (i := 34) (L' := #[true, true, true, true, true, true, true, true, true, true, true, true, true, true, true, true, true, true, true, true, true, true, true, true, true, true, true, true, true, true, true, true, true, true, true, false, false, false, false, false, false, false, false, false, false, false, false, false]) rfl (by kernel_rfl) rfl (fun _ _ _ h => h) rfl hA (by decide) (by decide) rfl (fun _ => hS) (fun a w' hA => run_aggeql eq_Hash rfl (by kernel_rfl) (hA.ev rfl) (hA.ev rfl)) ?_; clear hA; intro a hA
          refine d_takef (i := 35) (L' := #[true, true, true, true, true, true, true, true, true, true, true, true, true, true, true, true, true, true, true, true, true, true, true, true, true, true, true, true, true, true, true, true, true, true, true, true, false, false, false, false, false, false, false, false, false, false, false, false]) rfl (by kernel_rfl) rfl (fun _ _ _ h => h) hA (by decide) (fun _ => hS) (fun a w' hA => run_pick (hA.ev rfl) (fun _ => hA.ev rfl) (fun h => Bool.noConfusion h)) ?_; clear hA; intro a hA
          refine d_takef (i := 36) (L' := #[true, true, true, true, true, true, true, true, true, true, true, true, true, true, true, true, true, true, true, true, true, true, true, true, true, true, true, true, true, true, true, true, true, true, true, true, true, false, false, false, false, false, false, false, false, false, false, false]) rfl (by kernel_rfl) rfl (fun _ _ _ h => h) hA (by decide) (fun _ => hS) (fun a w' hA => run_move (hA.ev rfl)) ?_; clear hA; intro a hA
          refine bsplit (b := ((r137.getD (13 : Int).toNat (Vector.replicate 32 0 : Vector Int 32)) == ((r126.Nodes.getD (0 : Int).toNat Node.z).Hash))) (fun hb229 => ?_) (fun hb229 => ?_)
          · replace H192 := ite_t hb229 H192
            have hA := hA.re (t := 43) rfl (congrArg Value.bool hb229)
            refine d_takeg (i := 37) (L' := #[true, true, true, true, true, true, true, true, true, true, true, true, true, true, true, true, true, true, true, true, true, true, true, true, true, true, true, true, true, true, true, true, true, true, true, true, true, true, false, false, false, false, false, false, false, false, false, false]) rfl (by kernel_rfl) rfl (fun _ _ _ h => h) rfl hA (by decide) (by decide) rfl rfl hS (fun a w' hA hS' => run_ld (hA.ev rfl) (run_loadW Try.isAgg24 Try.sizeOf24 (by simp [Pl.len]; try rfl) ((hM.box (.s .z)).extB hS'))) ?_; clear hA; intro a hA
            obtain ⟨r230, H231, H192⟩ := Option.bind_eq_some_iff.1 H192
            refine d_one (i := 38) (L' := #[true, true, true, true, true, true, true, true, true, true, true, true, true, true, true, true, true, true, true, true, true, true, true, true, true, true, true, true, true, true, true, true, true, true, true, true, true, true, true, false, false, false, false, false, false, false, false, false]) (by kernel_rfl) rfl rfl (gate_on rfl rfl hA (by decide) rfl (st_call Try.call16 hA [(.agg #[(.slice A131 r126.Nodes.length c132), (.int .i64 r126.Best)]), (.int .i64 3), (.int .i64 9)] rfl (by decide) (branch_Fork.calls _ _ _ _ _ _ _ _ ((RoV.mk (hM.rowC (p := pNode) (Ms := []) (.s (.s .z))) (RowOk.len (hM.row (p := pNode) (.s (.s .z)))) (RowOk.cap (hM.row (p := pNode) (.s (.s .z)))))) (hM.front (Ms := [])) H231) ?_))
            clear hA; rintro _ w232 ⟨rfl, hMc⟩ a hA
            have hE := hMc.below; have hM := hM.call (Ms := []) hMc
            clear hMc; simp only [List.cons_append, List.nil_append] at hM
            replace hS := hS.trans (hE.mono hS.size)
            refine ⟨fun _ => hS, ?_⟩
            refine d_takegf (i := 39) (L' := #[true, true, true, true, true, true, true, true, true, true, true, true, true, true, true, true, true, true, true, true, true, true, true, true, true, true, true, true, true, true, true, true, true, true, true, true, true, true, true, true, false, false, false, false, false, false, false, false]) rfl (by kernel_rfl) rfl (fun _ _ _ h => h) rfl hA (by decide) (by decide) rfl (fun _ => hS) (fun a w' hA => run_bin (hA.ev rfl) (hA.ev rfl) (bin_eql _ _ _ _)) ?_; clear hA; intro a hA
            refine d_takef (i := 40) (L' := #[true, true, true, true, true, true, true, true, true, true, true, true, true, true, true, true, true, true, true, true, true, true, true, true, true, true, true, true, true, true, true, true, true, true, true, true, true, true, true, true, true, false, false, false, false, false, false, false]) rfl (by kernel_rfl) rfl (fun _ _ _ h => h) hA (by decide) (fun _ => hS) (fun a w' hA => run_pick (hA.ev rfl) (fun _ => hA.ev rfl) (fun h => Bool.noConfusion h)) ?_; clear hA; intro a hA
            refine d_takef (i := 41) (L' := #[true, true, true, true, true, true, true, true, true, true, true, true, true, true, true, true, true, true, true, true, true, true, true, true, true, true, true, true, true, true, true, true, true, true, true, true, true, true, true, true, true, true, false, false, false, false, false, false]) rfl (by kernel_rfl) rfl (fun _ _ _ h => h) hA (by decide) (fun _ => hS) (fun a w' hA => run_move (hA.ev rfl)) ?_; clear hA; intro a hA
            refine bsplit (b := (r230 == 3)) (fun hb233 => ?_) (fun hb233 => ?_)
            · replace H192 := ite_t hb233 H192
              have hA := hA.re (t := 48) rfl (congrArg Value.bool hb233)
              refine rebase hS ?_; clear hS; intro hS
              refine d_takeg (i := 42) (L' := #[true, true, true, true, true, true, true, true, true, true, true, true, true, true, true, true, true, true, true, true, true, true, true, true, true, true, true, true, true, true, true, true, true, true, true, true, true, true, true, true, true, true, true, false, false, false, false, false]) rfl (by kernel_rfl) rfl (fun _ _ _ h => h) rfl hA (by decide) (by decide) rfl rfl hS (fun a w' hA hS' => run_ld (hA.ev rfl) (run_loadW Try.isAgg24 Try.sizeOf24 (by simp [Pl.len]; try rfl) ((hM.box (.s .z)).extB hS'))) ?_; clear hA; intro a hA
              obtain ⟨r234, H235, H192⟩ := Option.bind_eq_some_iff.1 H192
              refine d_one (i := 43) (L' := #[true, true, true, true, true, true, true, true, true, true, true, true, true, true, true, true, true, true, true, true, true, true, true, true, true, true, true, true, true, true, true, true, true, true, true, true, true, true, true, true, true, true, true, true, false, false, false, false]) (by kernel_rfl) rfl rfl (gate_on rfl rfl hA (by decide) rfl (st_call Try.call12 hA [(.agg #[(.slice A131 r126.Nodes.length c132), (.int .i64 r126.Best)])] rfl (by decide) (branch_Main.calls _ _ _ _ _ _ ((RoV.mk (hM.rowC (p := pNode) (Ms := []) (.s (.s .z))) (RowOk.len (hM.row (p := pNode) (.s (.s .z)))) (RowOk.cap (hM.row (p := pNode) (.s (.s .z)))))) (hM.front (Ms := [])) H235) ?_))
              clear hA; rintro _ w236 ⟨v237, rfl, hMc⟩ a hA
              have hE := hMc.below; have hM := hM.call (Ms := []) hMc
              clear hMc; simp only [List.cons_append, List.nil_append] at hM
              obtain ⟨A238, c239, rfl⟩ := RowOk.form (hM.row (p := (Pl.int .i64)) .z)
              replace hS := hS.trans (hE.mono hS.size)
              refine ⟨fun _ => hS, ?_⟩
              refine d_takegf (i := 44) (L' := #[true, true, true, true, true, true, true, true, true, true, true, true, true, true, true, true, true, true, true, true, true, true, true, true, true, true, true, true, true, true, true, true, true, true, true, true, true, true, true, true, true, true, true, true, true, false, false, false]) rfl (by kernel_rfl) rfl (fun _ _ _ h => h) rfl hA (by decide) (by decide) rfl (fun _ => hS) (fun a w' hA => run_len_slice Try.underlying31 (hA.ev rfl)) ?_; clear hA; intro a hA
              refine d_takegf (i := 45) (L' := #[true, true, true, true, true, true, true, true, true, true, true, true, true, true, true, true, true, true, true, true, true, true, true, true, true, true, true, true, true, true, true, true, true, true, true, true, true, true, true, true, true, true, true, true, true, true, false, false]) rfl (by kernel_rfl) rfl (fun _ _ _ h => h) rfl hA (by decide) (by decide) rfl (fun _ => hS) (fun a w' hA => run_bin (hA.ev rfl) (hA.ev rfl) (bin_eql _ _ _ _)) ?_; clear hA; intro a hA
              refine d_takef (i := 46) (L' := #[true, true, true, true, true, true, true, true, true, true, true, true, true, true, true, true, true, true, true, true, true, true, true, true, true, true, true, true, true, true, true, true, true, true, true, true, true, true, true, true, true, true, true, true, true, true, true, false]) rfl (by kernel_rfl) rfl (fun _ _ _ h => h) hA (by decide) (fun _ => hS) (fun a w' hA => run_pick (hA.ev rfl) (fun _ => hA.ev rfl) (fun h => Bool.noConfusion h)) ?_; clear hA; intro a hA
              refine d_takef (i := 47) (L' := #[true, true, true, true, true, true, true, true, true, true, true, true, true, true, true, true, true, true, true, true, true, true, true, true, true, true, true, true, true, true, true, true, true, true, true, true, true, true, true, true, true, true, true, true, true, true, true, true]) rfl (by kernel_rfl) rfl (fun _ _ _ h => h) hA (by decide) (fun _ => hS) (fun a w' hA => run_assign (hA.ev rfl)) ?_; clear hA; intro a hA
              refine d_done (by kernel_rfl) ?_
              exact ⟨(((r234.length : Nat) : Int) == 31), Option.some.inj H192, (hM.sel [] rfl (by decide)), (hA.nil.cons (hA.get 0 _ rfl))⟩
            · replace H192 := ite_f hb233 H192
              have hA := hA.re (t := 48) rfl (congrArg Value.bool hb233)
              refine d_skip (i := 42) (L' := #[true, true, true, true, true, true, true, true, true, true, true, true, true, true, true, true, true, true, true, true, true, true, true, true, true, true, true, true, true, true, true, true, true, true, true, true, true, true, true, true, true, true, true, false, false, false, false, false]) rfl (by kernel_rfl) rfl (fun _ _ _ h => h) rfl hA (by decide) (by decide) rfl rfl (fun _ => hS) ?_; clear hA; intro a hA
              refine d_one (i := 43) (L' := #[true, true, true, true, true, true, true, true, true, true, true, true, true, true, true, true, true, true, true, true, true, true, true, true, true, true, true, true, true, true, true, true, true, true, true, true, true, true, true, true, true, true, true, true, false, false, false, false]) (by kernel_rfl) rfl rfl (gate_off rfl (by decide) rfl hA (by decide) rfl rfl ?_); clear hA; intro a hA
              refine ⟨fun _ => hS, ?_⟩
              refine d_skip (i := 44) (L' := #[true, true, true, true, true, true, true, true, true, true, true, true, true, true, true, true, true, true, true, true, true, true, true, true, true, true, true, true, true, true, true, true, true, true, true, true, true, true, true, true, true, true, true, true, true, false, false, false]) rfl (by kernel_rfl) rfl (fun _ _ _ h => h) rfl hA (by decide) (by decide) rfl rfl (fun _ => hS) ?_; clear hA; intro a hA
              refine d_skip (i := 45) (L' := #[true, true, true, true, true, true, true, true, true, true, true, true, true, true, true, true, true, true, true, true, true, true, true, true, true, true, true, true, true, true, true, true, true, true, true, true, true, true, true, true, true, true, true, true, true, true, false, false]) rfl (by kernel_rfl) rfl (fun _ _ _ h => h) rfl hA (by decide) (by decide) rfl rfl (fun _ => hS) ?_; clear hA; intro a hA
              refine d_takef (i := 46) (L' := #[true, true, true, true, true, true, true, true, true, true, true, true, true, true, true, true, true, true, true, true, true, true, true, true, true, true, true, true, true, true, true, true, true, true, true, true, true, true, true, true, true, true, true, true, true, true, true, false]) rfl (by kernel_rfl) rfl (fun _ _ _ h => h) hA (by decide) (fun _ => hS) (fun a w' hA => run_pick (hA.ev rfl) (fun h => Bool.noConfusion h) (fun _ => hA.ev rfl)) ?_; clear hA; intro a hA
              refine d_takef (i := 47) (L' := #[true, true, true, true, true, true, true, true, true, true, true, true, true, true, true, true, true, true, true, true, true, true, true, true, true, true, true, true, true, true, true, true, true, true, true, true, true, true, true, true, true, true, true, true, true, true, true, true]) rfl (by kernel_rfl) rfl (fun _ _ _ h => h) hA (by decide) (fun _ => hS) (fun a w' hA => run_assign (hA.ev rfl)) ?_; clear hA; intro a hA
              refine d_done (by kernel_rfl) ?_
              exact ⟨false, Option.some.inj H192, (hM.sel [] rfl (by decide)), (hA.nil.cons (hA.get 0 _ rfl))⟩
          · replace H192 := ite_f hb229 H192
            have hA := hA.re (t := 43) rfl (congrArg Value.bool hb229)
            refine d_skip (i := 37) (L' := #[true, true, true, true, true, true, true, true, true, true, true, true, true, true, true, true, true, true, true, true, true, true, true, true, true, true, true, true, true, true, true, true, true, true, true, true, true, true, false, false, false, false, false, false, false, false, false, false]) rfl (by kernel_rfl) rfl (fun _ _ _ h => h) rfl hA (by decide) (by decide) rfl rfl (fun _ => hS) ?_; clear hA; intro a hA
            refine d_one (i := 38) (L' := #[true, true, true, true, true, true, true, true, true, true, true, true, true, true, true, true, true, true, true, true, true, true, true, true, true, true, true, true, true, true, true, true, true, true, true, true, true, true, true, false, false, false, false, false, false, false, false, false]) (by kernel_rfl) rfl rfl (gate_off rfl (by decide) rfl hA (by decide) rfl rfl ?_); clear hA; intro a hA
            refine ⟨fun _ => hS, ?_⟩
            refine d_skip (i := 39) (L' := #[true, true, true, true, true, true, true, true, true, true, true, true, true, true, true, true, true, true, true, true, true, true, true, true, true, true, true, true, true, true, true, true, true, true, true, true, true, true, true, true, false, false, false, false, false, false, false, false]) rfl (by kernel_rfl) rfl (fun _ _ _ h => h) rfl hA (by decide) (by decide) rfl rfl (fun _ => hS) ?_; clear hA; intro a hA
            refine d_takef (i := 40) (L' := #[true, true, true, true, true, true, true, true, true, true, true, true, true, true, true, true, true, true, true, true, true, true, true, true, true, true, true, true, true, true, true, true, true, true, true, true, true, true, true, true, true, false, false, false, false, false, false, false]) rfl (by kernel_rfl) rfl (fun _ _ _ h => h) hA (by decide) (fun _ => hS) (fun a w' hA => run_pick (hA.ev rfl) (fun h => Bool.noConfusion h) (fun _ => hA.ev rfl)) ?_; clear hA; intro a hA
            refine d_takef (i := 41) (L' := #[true, true, true, true, true, true, true, true, true, true, true, true, true, true, true, true, true, true, true, true, true, true, true, true, true, true, true, true, true, true, true, true, true, true, true, true, true, true, true, true, true, true, false, false, false, false, false, false]) rfl (by kernel_rfl) rfl (fun _ _ _ h => h) hA (by decide) (fun _ => hS) (fun a w' hA => run_move (hA.ev rfl)) ?_; clear hA; intro a hA
            refine d_skip (i := 42) (L' := #[true, true, true, true, true, true, true, true, true, true, true, true, true, true, true, true, true, true, true, true, true, true, true, true, true, true, true, true, true, true, true, true, true, true, true, true, true, true, true, true, true, true, true, false, false, false, false, false]) rfl (by kernel_rfl) rfl (fun _ _ _ h => h) rfl hA (by decide) (by decide) rfl rfl (fun _ => hS) ?_; clear hA; intro a hA
            refine d_one (i := 43) (L' := #[true, true, true, true, true, true, true, true, true, true, true, true, true, true, true, true, true, true, true, true, true, true, true, true, true, true, true, true, true, true, true, true, true, true, true, true, true, true, true, true, true, true, true, true, false, false, false, false]) (by kernel_rfl) rfl rfl (gate_off rfl (by decide) rfl hA (by decide) rfl rfl ?_); clear hA; intro a hA
            refine ⟨fun _ => hS, ?_⟩
            refine d_skip (i := 44) (L' := #[true, true, true, true, true, true, true, true, true, true, true, true, true, true, true, true, true, true, true, true, true, true, true, true, true, true, true, true, true, true, true, true, true, true, true, true, true, true, true, true, true, true, true, true, true, false, false, false]) rfl (by kernel_rfl) rfl (fun _ _ _ h => h) rfl hA (by decide) (by decide) rfl rfl (fun _ => hS) ?_; clear hA; intro a hA
            refine d_skip (i := 45) (L' := #[true, true, true, true, true, true, true, true, true, true, true, true, true, true, true, true, true, true, true, true, true, true, true, true, true, true, true, true, true, true, true, true, true, true, true, true, true, true, true, true, true, true, true, true, true, true, false, false]) rfl (by kernel_rfl) rfl (fun _ _ _ h => h) rfl hA (by decide) (by decide) rfl rfl (fun _ => hS) ?_; clear hA; intro a hA
            refine d_takef (i := 46) (L' := #[true, true, true, true, true, true, true, true, true, true, true, true, true, true, true, true, true, true, true, true, true, true, true, true, true, true, true, true, true, true, true, true, true, true, true, true, true, true, true, true, true, true, true, true, true, true, true, false]) rfl (by kernel_rfl) rfl (fun _ _ _ h => h) hA (by decide) (fun _ => hS) (fun a w' hA => run_pick (hA.ev rfl) (fun h => Bool.noConfusion h) (fun _ => hA.ev rfl)) ?_; clear hA; intro a hA
            refine d_takef (i := 47) (L' := #[true, true, true, true, true, true, true, true, true, true, true, true, true, true, true, true, true, true, true, true, true, true, true, true, true, true, true, true, true, true, true, true, true, true, true, true, true, true, true, true, true, true, true, true, true, true, true, true]) rfl (by kernel_rfl) rfl (fun _ _ _ h => h) hA (by decide) (fun _ => hS) (fun a w' hA => run_assign (hA.ev rfl)) ?_; clear hA; intro a hA
            refine d_done (by kernel_rfl) ?_
            exact ⟨false, Option.some.inj H192, (hM.sel [] rfl (by decide)), (hA.nil.cons (hA.get 0 _ rfl))⟩
        · replace H192 := ite_f hb218 H192
          have hA := hA.re (t := 32) rfl (congrArg Value.bool hb218)
          refine d_skip (i := 26) (L' := #[true, true, true, true, true, true, true, true, true, true, true, true, true, true, true, true, true, true, true, true, true, true, true, true, true, true, true, false, false, false, false, false, false, false, false, false, false, false, false, false, false, false, false, false, false, false, false, false]) rfl (by kernel_rfl) rfl (fun _ _ _ h => h) rfl hA (by decide) (by decide) rfl rfl (fun _ => hS) ?_; clear hA; intro a hA
          refine d_skip (i := 27) (L' := #[true, true, true, true, true, true, true, true, true, true, true, true, true, true, true, true, true, true, true, true, true, true, true, true, true, true, true, true, false, false, false, false, false, false, false, false, false, false, false, false, false, false, false, false, false, false, false, false]) rfl (by kernel_rfl) rfl (fun _ _ _ h => h) rfl hA (by decide) (by decide) rfl rfl (fun _ => hS) ?_; clear hA; intro a hA
          refine d_skip (i := 28) (L' := #[true, true, true, true, true, true, true, true, true, true, true, true, true, true, true, true, true, true, true, true, true, true, true, true, true, true, true, true, true, false, false, false, false, false, false, false, false, false, false, false, false, false, false, false, false, false, false, false]) rfl (by kernel_rfl) rfl (fun _ _ _ h => h) rfl hA (by decide) (by decide) rfl rfl (fun _ => hS) ?_; clear hA; intro a hA
          refine d_skip (i := 29) (L' := #[true, true, true, true, true, true, true, true, true, true, true, true, true, true, true, true, true, true, true, true, true, true, true, true, true, true, true, true, true, true, false, false, false, false, false, false, false, false, false, false, false, false, false, false, false, false, false, false]) rfl (by kernel_rfl) rfl (fun _ _ _ h => h) rfl hA (by decide) (by decide) rfl rfl (fun _ => hS) ?_; clear hA; intro a hA
          refine d_skip (i := 30) (L' := #[true, true, true, true, true, true, true, true, true, true, true, true, true, true, true, true, true, true, true, true, true, true, true, true, true, true, true, true, true, true, true, false, false, false, false, false, false, false, false, false, false, false, false, false, false, false, false, false]) rfl (by kernel_rfl) rfl (fun _ _ _ h => h) rfl hA (by decide) (by decide) rfl rfl (fun _ => hS) ?_; clear hA; intro a hA
          refine d_skip (i := 31) (L' := #[true, true, true, true, true, true, true, true, true, true, true, true, true, true, true, true, true, true, true, true, true, true, true, true, true, true, true, true, true, true, true, true, false, false, false, false, false, false, false, false, false, false, false, false, false, false, false, false]) rfl (by kernel_rfl) rfl (fun _ _ _ h => h) rfl hA (by decide) (by decide) rfl rfl (fun _ => hS) ?_; clear hA; intro a hA
          refine d_skip (i := 32) (L' := #[true, true, true, true, true, true, true, true, true, true, true, true, true, true, true, true, true, true, true, true, true, true, true, true, true, true, true, true, true, true, true, true, true, false, false, false, false, false, false, false, false, false, false, false, false, false, false, false]) rfl (by kernel_rfl) rfl (fun _ _ _ h => h) rfl hA (by decide) (by decide) rfl rfl (fun _ => hS) ?_; clear hA; intro a hA
          refine d_skip (i := 33) (L' := #[true, true, true, true, true, true, true, true, true, true, true, true, true, true, true, true, true, true, true, true, true, true, true, true, true, true, true, true, true, true, true, true, true, true, false, false, false, false, false, false, false, false, false, false, false, false, false, false]) rfl (by kernel_rfl) rfl (fun _ _ _ h => h) rfl hA (by decide) (by decide) rfl rfl (fun _ => hS) ?_; clear hA; intro a hA
          refine d_skip (i := 34) (L' := #[true, true, true, true, true, true, true, true, true, true, true, true, true, true, true, true, true, true, true, true, true, true, true, true, true, true, true, true, true, true, true, true, true, true, true, false, false, false, false, false, false, false, false, false, false, false, false, false]) rfl (by kernel_rfl) rfl (fun _ _ _ h => h) rfl hA (by decide) (by decide) rfl rfl (fun _ => hS) ?_; clear hA; intro a hA
          refine d_takef (i := 35) (L' := #[true, true, true, true, true, true, true, true, true, true, true, true, true, true, true, true, true, true, true, true, true, true, true, true, true, true, true, true, true, true, true, true, true, true, true, true, false, false, false, false, false, false, false, false, false, false, false, false]) rfl (by kernel_rfl) rfl (fun _ _ _ h => h) hA (by decide) (fun _ => hS) (fun a w' hA => run_pick (hA.ev rfl) (fun h => Bool.noConfusion h) (fun _ => hA.ev rfl)) ?_; clear hA; intro a hA
          refine d_takef (i := 36) (L' := #[true, true, true, true, true, true, true, true, true, true, true, true, true, true, true, true, true, true, true, true, true, true, true, true, true, true, true, true, true, true, true, true, true, true, true, true, true, false, false, false, false, false, false, false, false, false, false, false]) rfl (by kernel_rfl) rfl (fun _ _ _ h => h) hA (by decide) (fun _ => hS) (fun a w' hA => run_move (hA.ev rfl)) ?_; clear hA; intro a hA
          refine d_skip (i := 37) (L' := #[true, true, true, true, true, true, true, true, true, true, true, true, true, true, true, true, true, true, true, true, true, true, true, true, true, true, true, true, true, true, true, true, true, true, true, true, true, true, false, false, false, false, false, false, false, false, false, false]) rfl (by kernel_rfl) rfl (fun _ _ _ h => h) rfl hA (by decide) (by decide) rfl rfl (fun _ => hS) ?_; clear hA; intro a hA
          refine d_one (i := 38) (L' := #[true, true, true, true, true, true, true, true, true, true, true, true, true, true, true, true, true, true, true, true, true, true, true, true, true, true, true, true, true, true, true, true, true, true, true, true, true, true, true, false, false, false, false, false, false, false, false, false]) (by kernel_rfl) rfl rfl (gate_off rfl (by decide) rfl hA (by decide) rfl rfl ?_); clear hA; intro a hA
          refine ⟨fun _ => hS, ?_⟩
          refine d_skip (i := 39) (L' := #[true, true, true, true, true, true, true, true, true, true, true, true, true, true, true, true, true, true, true, true, true, true, true, true, true, true, true, true, true, true, true, true, true, true, true, true, true, true, true, true, false, false, false, false, false, false, false, false]) rfl (by kernel_rfl) rfl (fun _ _ _ h => h) rfl hA (by decide) (by decide) rfl rfl (fun _ => hS) ?_; clear hA; intro a hA
          refine d_takef (i := 40) (L' := #[true, true, true, true, true, true, true, true, true, true, true, true, true, true, true, true, true, true, true, true, true, true, true, true, true, true, true, true, true, true, true, true, true, true, true, true, true, true, true, true, true, false, false, false, false, false, false, false]) rfl (by kernel_rfl) rfl (fun _ _ _ h => h) hA (by decide) (fun _ => hS) (fun a w' hA => run_pick (hA.ev rfl) (fun h => Bool.noConfusion h) (fun _ => hA.ev rfl)) ?_; clear hA; intro a hA
          refine d_takef (i := 41) (L' := #[true, true, true, true, true, true, true, true, true, true, true, true, true, true, true, true, true, true, true, true, true, true, true, true, true, true, true, true, true, true, true, true, true, true, true, true, true, true, true, true, true, true, false, false, false, false, false, false]) rfl (by kernel_rfl) rfl (fun _ _ _ h => h) hA (by decide) (fun _ => hS) (fun a w' hA => run_move (hA.ev rfl)) ?_; clear hA; intro a hA
          refine d_skip (i := 42) (L' := #[true, true, true, true, true, true, true, true, true, true, true, true, true, true, true, true, true, true, true, true, true, true, true, true, true, true, true, true, true, true, true, true, true, true, true, true, true, true, true, true, true, true, true, false, false, false, false, false]) rfl (by kernel_rfl) rfl (fun _ _ _ h => h) rfl hA (by decide) (by decide) rfl rfl (fun _ => hS) ?_; clear hA; intro a hA
          refine d_one (i := 43) (L' := #[true, true, true, true, true, true, true, true, true, true, true, true, true, true, true, true, true, true, true, true, true, true, true, true, true, true, true, true, true, true, true, true, true, true, true, true, true, true, true, true, true, true, true, true, false, false, false, false]) (by kernel_rfl) rfl rfl (gate_off rfl (by decide) rfl hA (by decide) rfl rfl ?_); clear hA; intro a hA
          refine ⟨fun _ => hS, ?_⟩
          refine d_skip (i := 44) (L' := #[true, true, true, true, true, true, true, true, true, true, true, true, true, true, true, true, true, true, true, true, true, true, true, true, true, true, true, true, true, true, true, true, true, true, true, true, true, true, true, true, true, true, true, true, true, false, false, false]) rfl (by kernel_rfl) rfl (fun _ _ _ h => h) rfl hA (by decide) (by decide) rfl rfl (fun _ => hS) ?_; clear hA; intro a hA
          refine d_skip (i := 45) (L' := #[true, true, true, true, true, true, true, true, true, true, true, true, true, true, true, true, true, true, true, true, true, true, true, true, true, true, true, true, true, true, true, true, true, true, true, true, true, true, true, true, true, true, true, true, true, true, false, false]) rfl (by kernel_rfl) rfl (fun _ _ _ h => h) rfl hA (by decide) (by decide) rfl rfl (fun _ => hS) ?_; clear hA; intro a hA
          refine d_takef (i := 46) (L' := #[true, true, true, true, true, true, true, true, true, true, true, true, true, true, true, true, true, true, true, true, true, true, true, true, true, true, true, true, true, true, true, true, true, true, true, true, true, true, true, true, true, true, true, true, true, true, true, false]) rfl (by kernel_rfl) rfl (fun _ _ _ h => h) hA (by decide) (fun _ => hS) (fun a w' hA => run_pick (hA.ev rfl) (fun h => Bool.noConfusion h) (fun _ => hA.ev rfl)) ?_; clear hA; intro a hA
          refine d_takef (i := 47) (L' := #[true, true, true, true, true, true, true, true, true, true, true, true, true, true, true, true, true, true, true, true, true, true, true, true, true, true, true, true, true, true, true, true, true, true, true, true, true, true, true, true, true, true, true, true, true, true, true, true]) rfl (by kernel_rfl) rfl (fun _ _ _ h => h) hA (by decide) (fun _ => hS) (fun a w' hA => run_assign (hA.ev rfl)) ?_; clear hA; intro a hA
          refine d_done (by kernel_rfl) ?_
          exact ⟨false, Option.some.inj H192, (hM.sel [] rfl (by decide)), (hA.nil.cons (hA.get 0 _ rfl))⟩
      · replace H192 := ite_f hb207 H192
        have hA := hA.re (t := 21) rfl (congrArg Value.bool hb207)
        refine d_skip (i := 15) (L' := #[true, true, true, true, true, true, true, true, true, true, true, true, true, true, true, true, false, false, false, false, false, false, false, false, false, false, false, false, false, false, false, false, false, false, false, false, false, false, false, false, false, false, false, false, false, false, false, false]) rfl (by kernel_rfl) rfl (fun _ _ _ h => h) rfl hA (by decide) (by decide) rfl rfl (fun _ => hS) ?_; clear hA; intro a hA
        refine d_skip (i := 16) (L' := #[true, true, true, true, true, true, true, true, true, true, true, true, true, true, true, true, true, false, false, false, false, false, false, false, false, false, false, false, false, false, false, false, false, false, false, false, false, false, false, false, false, false, false, false, false, false, false, false]) rfl (by kernel_rfl) rfl (fun _ _ _ h => h) rfl hA (by decide) (by decide) rfl rfl (fun _ => hS) ?_; clear hA; intro a hA
        refine d_skip (i := 17) (L' := #[true, true, true, true, true, true, true, true, true, true, true, true, true, true, true, true, true, true, false, false, false, false, false, false, false, false, false, false, false, false, false, false, false, false, false, false, false, false, false, false, false, false, false, false, false, false, false, false]) rfl (by kernel_rfl) rfl (fun _ _ _ h => h) rfl hA (by decide) (by decide) rfl rfl (fun _ => hS) ?_; clear hA; intro a hA
        refine d_skip (i := 18) (L' := #[true, true, true, true, true, true, true, true, true, true, true, true, true, true, true, true, true, true, true, false, false, false, false, false, false, false, false, false, false, false, false, false, false, false, false, false, false, false, false, false, false, false, false, false, false, false, false, false]) rfl (by kernel_rfl) rfl (fun _ _ _ h => h) rfl hA (by decide) (by decide) rfl rfl (fun _ => hS) ?_; clear hA; intro a hA
        refine d_skip (i := 19) (L' := #[true, true, true, true, true, true, true, true, true, true, true, true, true, true, true, true, true, true, true, true, false, false, false, false, false, false, false, false, false, false, false, false, false, false, false, false, false, false, false, false, false, false, false, false, false, false, false, false]) rfl (by kernel_rfl) rfl (fun _ _ _ h => h) rfl hA (by decide) (by decide) rfl rfl (fun _ => hS) ?_; clear hA; intro a hA
        refine d_skip (i := 20) (L' := #[true, true, true, true, true, true, true, true, true, true, true, true, true, true, true, true, true, true, true, true, true, false, false, false, false, false, false, false, false, false, false, false, false, false, false, false, false, false, false, false, false, false, false, false, false, false, false, false]) rfl (by kernel_rfl) rfl (fun _ _ _ h => h) rfl hA (by decide) (by decide) rfl rfl (fun _ => hS) ?_; clear hA; intro a hA
        refine d_skip (i := 21) (L' := #[true, true, true, true, true, true, true, true, true, true, true, true, true, true, true, true, true, true, true, true, true, true, false, false, false, false, false, false, false, false, false, false, false, false, false, false, false, false, false, false, false, false, false, false, false, false, false, false]) rfl (by kernel_rfl) rfl (fun _ _ _ h => h) rfl hA (by decide) (by decide) rfl rfl (fun _ => hS) ?_; clear hA; intro a hA
        refine d_skip (i := 22) (L' := #[true, true, true, true, true, true, true, true, true, true, true, true, true, true, true, true, true, true, true, true, true, true, true, false, false, false, false, false, false, false, false, false, false, false, false, false, false, false, false, false, false, false, false, false, false, false, false, false]) rfl (by kernel_rfl) rfl (fun _ _ _ h => h) rfl hA (by decide) (by decide) rfl rfl (fun _ => hS) ?_; clear hA; intro a hA
        refine d_skip (i := 23) (L' := #[true, true, true, true, true, true, true, true, true, true, true, true, true, true, true, true, true, true, true, true, true, true, true, true, false, false, false, false, false, false, false, false, false, false, false, false, false, false, false, false, false, false, false, false, false, false, false, false]) rfl (by kernel_rfl) rfl (fun _ _ _ h => h) rfl hA (by decide) (by decide) rfl rfl (fun _ => hS) ?_; clear hA; intro a hA
        refine d_takef (i := 24) (L' := #[true, true, true, true, true, true, true, true, true, true, true, true, true, true, true, true, true, true, true, true, true, true, true, true, true, false, false, false, false, false, false, false, false, false, false, false, false, false, false, false, false, false, false, false, false, false, false, false]) rfl (by kernel_rfl) rfl (fun _ _ _ h => h) hA (by decide) (fun _ => hS) (fun a w' hA => run_pick (hA.ev rfl) (fun h => Bool.noConfusion h) (fun _ => hA.ev rfl)) ?_; clear hA; intro a hA
        refine d_takef (i := 25) (L' := #[true, true, true, true, true, true, true, true, true, true, true, true, true, true, true, true, true, true, true, true, true, true, true, true, true, true, false, false, false, false, false, false, false, false, false, false, false, false, false, false, false, false, false, false, false, false, false, false]) rfl (by kernel_rfl) rfl (fun _ _ _ h => h) hA (by decide) (fun _ => hS) (fun a w' hA => run_move (hA.ev rfl)) ?_; clear hA; intro a hA
        refine d_skip (i := 26) (L' := #[true, true, true, true, true, true, true, true, true, true, true, true, true, true, true, true, true, true, true, true, true, true, true, true, true, true, true, false, false, false, false, false, false, false, false, false, false, false, false, false, false, false, false, false, false, false, false, false]) rfl (by kernel_rfl) rfl (fun _ _ _ h => h) rfl hA (by decide) (by decide) rfl rfl (fun _ => hS) ?_; clear hA; intro a hA
        refine d_skip (i := 27) (L' := #[true, true, true, true, true, true, true, true, true, true, true, true, true, true, true, true, true, true, true, true, true, true, true, true, true, true, true, true, false, false, false, false, false, false, false, false, false, false, false, false, false, false, false, false, false, false, false, false]) rfl (by kernel_rfl) rfl (fun _ _ _ h => h) rfl hA (by decide) (by decide) rfl rfl (fun _ => hS) ?_; clear hA; intro a hA
        refine d_skip (i := 28) (L' := #[true, true, true, true, true, true, true, true, true, true, true, true, true, true, true, true, true, true, true, true, true, true, true, true, true, true, true, true, true, false, false, false, false, false, false, false, false, false, false, false, false, false, false, false, false, false, false, false]) rfl (by kernel_rfl) rfl (fun _ _ _ h => h) rfl hA (by decide) (by decide) rfl rfl (fun _ => hS) ?_; clear hA; intro a hA
        refine d_skip (i := 29) (L' := #[true, true, true, true, true, true, true, true, true, true, true, true, true, true, true, true, true, true, true, true, true, true, true, true, true, true, true, true, true, true, false, false, false, false, false, false, false, false, false, false, false, false, false, false, false, false, false, false]) rfl (by kernel_rfl) rfl (fun _ _ _ h => h) rfl hA (by decide) (by decide) rfl rfl (fun _ => hS) ?_; clear hA; intro a hA
        refine d_skip (i := 30) (L' := #[true, true, true, true, true, true, true, true, true, true, true, true, true, true, true, true, true, true, true, true, true, true, true, true, true, true, true, true, true, true, true, false, false, false, false, false, false, false, false, false, false, false, false, false, false, false, false, false]) rfl (by kernel_rfl) rfl (fun _ _ _ h => h) rfl hA (by decide) (by decide) rfl rfl (fun _ => hS) ?_; clear hA; intro a hA
        refine d_skip (i := 31) (L' := #[true, true, true, true, true, true, true, true, true, true, true, true, true, true, true, true, true, true, true, true, true, true, true, true, true, true, true, true, true, true, true, true, false, false, false, false, false, false, false, false, false, false, false, false, false, false, false, false]) rfl (by kernel_rfl) rfl (fun _ _ _ h => h) rfl hA (by decide) (by decide) rfl rfl (fun _ => hS) ?_; clear hA; intro a hA
        refine d_skip (i := 32) (L' := #[true, true, true, true, true, true, true, true, true, true, true, true, true, true, true, true, true, true, true, true, true, true, true, true, true, true, true, true, true, true, true, true, true, false, false, false, false, false, false, false, false, false, false, false, false, false, false, false]) rfl (by kernel_rfl) rfl (fun _ _ _ h => h) rfl hA (by decide) (by decide) rfl rfl (fun _ => hS) ?_; clear hA; intro a hA
        refine d_skip (i := 33) (L' := #[true, true, true, true, true, true, true, true, true, true, true, true, true, true, true, true, true, true, true, true, true, true, true, true, true, true, true, true, true, true, true, true, true, true, false, false, false, false, false, false, false, false, false, false, false, false, false, false]) rfl (by kernel_rfl) rfl (fun _ _ _ h => h) rfl hA (by decide) (by decide) rfl rfl (fun _ => hS) ?_; clear hA; intro a hA
        refine d_skip (i := 34) (L' := #[true, true, true, true, true, true, true, true, true, true, true, true, true, true, true, true, true, true, true, true, true, true, true, true, true, true, true, true, true, true, true, true, true, true, true, false, false, false, false, false, false, false, false, false, false, false, false, false]) rfl (by kernel_rfl) rfl (fun _ _ _ h => h) rfl hA (by decide) (by decide) rfl rfl (fun _ => hS) ?_; clear hA; intro a hA
        refine d_takef (i := 35) (L' := #[true, true, true, true, true, true, true, true, true, true, true, true, true, true, true, true, true, true, true, true, true, true, true, true, true, true, true, true, true, true, true, true, true, true, true, true, false, false, false, false, false, false, false, false, false, false, false, false]) rfl (by kernel_rfl) rfl (fun _ _ _ h => h) hA (by decide) (fun _ => hS) (fun a w' hA => run_pick (hA.ev rfl) (fun h => Bool.noConfusion h) (fun _ => hA.ev rfl)) ?_; clear hA; intro a hA
        refine d_takef (i := 36) (L' := #[true, true, true, true, true, true, true, true, true, true, true, true, true, true, true, true, true, true, true, true, true, true, true, true, true, true, true, true, true, true, true, true, true, true, true, true, true, false, false, false, false, false, false, false, false, false, false, false]) rfl (by kernel_rfl) rfl (fun _ _ _ h => h) hA (by decide) (fun _ => hS) (fun a w' hA => run_move (hA.ev rfl)) ?_; clear hA; intro a hA
        refine d_skip (i := 37) (L' := #[true, true, true, true, true, true, true, true, true, true, true, true, true, true, true, true, true, true, true, true, true, true, true, true, true, true, true, true, true, true, true, true, true, true, true, true, true, true, false, false, false, false, false, false, false, false, false, false]) rfl (by kernel_rfl) rfl (fun _ _ _ h => h) rfl hA (by decide) (by decide) rfl rfl (fun _ => hS) ?_; clear hA; intro a hA
        refine d_one (i := 38) (L' := #[true, true, true, true, true, true, true, true, true, true, true, true, true, true, true, true, true, true, true, true, true, true, true, true, true, true, true, true, true, true, true, true, true, true, true, true, true, true, true, false, false, false, false, false, false, false, false, false]) (by kernel_rfl) rfl rfl (gate_off rfl (by decide) rfl hA (by decide) rfl rfl ?_); clear hA; intro a hA
        refine ⟨fun _ => hS, ?_⟩
        refine d_skip (i := 39) (L' := #[true, true, true, true, true, true, true, true, true, true, true, true, true, true, true, true, true, true, true, true, true, true, true, true, true, true, true, true, true, true, true, true, true, true, true, true, true, true, true, true, false, false, false, false, false, false, false, false]) rfl (by kernel_rfl) rfl (fun _ _ _ h => h) rfl hA (by decide) (by decide) rfl rfl (fun _ => hS) ?_; clear hA; intro a hA
        refine d_takef (i := 40) (L' := #[true, true, true, true, true, true, true, true, true, true, true, true, true, true, true, true, true, true, true, true, true, true, true, true, true, true, true, true, true, true, true, true, true, true, true, true, true, true, true, true, true, false, false, false, false, false, false, false]) rfl (by kernel_rfl) rfl (fun _ _ _ h => h) hA (by decide) (fun _ => hS) (fun a w' hA => run_pick (hA.ev rfl) (fun h => Bool.noConfusion h) (fun _ => hA.ev rfl)) ?_; clear hA; intro a hA
        refine d_takef (i := 41) (L' := #[true, true, true, true, true, true, true, true, true, true, true, true, true, true, true, true, true, true, true, true, true, true, true, true, true, true, true, true, true, true, true, true, true, true, true, true, true, true, true, true, true, true, false, false, false, false, false, false]) rfl (by kernel_rfl) rfl (fun _ _ _ h => h) hA (by decide) (fun _ => hS) (fun a w' hA => run_move (hA.ev rfl)) ?_; clear hA; intro a hA
        refine d_skip (i := 42) (L' := #[true, true, true, true, true, true, true, true, true, true, true, true, true, true, true, true, true, true, true, true, true, true, true, true, true, true, true, true, true, true, true, true, true, true, true, true, true, true, true, true, true, true, true, false, false, false, false, false]) rfl (by kernel_rfl) rfl (fun _ _ _ h => h) rfl hA (by decide) (by decide) rfl rfl (fun _ => hS) ?_; clear hA; intro a hA
        refine d_one (i := 43) (L' := #[true, true, true, true, true, true, true, true, true, true, true, true, true, true, true, true, true, true, true, true, true, true, true, true, true, true, true, true, true, true, true, true, true, true, true, true, true, true, true, true, true, true, true, true, false, false, false, false]) (by kernel_rfl) rfl rfl (gate_off rfl (by decide) rfl hA (by decide) rfl rfl ?_); clear hA; intro a hA
        refine ⟨fun _ => hS, ?_⟩
        refine d_skip (i := 44) (L' := #[true, true, true, true, true, true, true, true, true, true, true, true, true, true, true, true, true, true, true, true, true, true, true, true, true, true, true, true, true, true, true, true, true, true, true, true, true, true, true, true, true, true, true, true, true, false, false, false]) rfl (by kernel_rfl) rfl (fun _ _ _ h => h) rfl hA (by decide) (by decide) rfl rfl (fun _ => hS) ?_; clear hA; intro a hA
        refine d_skip (i := 45) (L' := #[true, true, true, true, true, true, true, true, true, true, true, true, true, true, true, true, true, true, true, true, true, true, true, true, true, true, true, true, true, true, true, true, true, true, true, true, true, true, true, true, true, true, true, true, true, true, false, false]) rfl (by kernel_rfl) rfl (fun _ _ _ h => h) rfl hA (by decide) (by decide) rfl rfl (fun _ => hS) ?_; clear hA; intro a hA
        refine d_takef (i := 46) (L' := #[true, true, true, true, true, true, true, true, true, true, true, true, true, true, true, true, true, true, true, true, true, true, true, true, true, true, true, true, true, true, true, true, true, true, true, true, true, true, true, true, true, true, true, true, true, true, true, false]) rfl (by kernel_rfl) rfl (fun _ _ _ h => h) hA (by decide) (fun _ => hS) (fun a w' hA => run_pick (hA.ev rfl) (fun h => Bool.noConfusion h) (fun _ => hA.ev rfl)) ?_; clear hA; intro a hA
        refine d_takef (i := 47) (L' := #[true, true, true, true, true, true, true, true, true, true, true, true, true, true, true, true, true, true, true, true, true, true, true, true, true, true, true, true, true, true, true, true, true, true, true, true, true, true, true, true, true, true, true, true, true, true, true, true]) rfl (by kernel_rfl) rfl (fun _ _ _ h => h) hA (by decide) (fun _ => hS) (fun a w' hA => run_assign (hA.ev rfl)) ?_; clear hA; intro a hA
        refine d_done (by kernel_rfl) ?_
        exact ⟨false, Option.some.inj H192, (hM.sel [] rfl (by decide)), (hA.nil.cons (hA.get 0 _ rfl))⟩
    · replace H192 := ite_f hb196 H192
      have hA := hA.re (t := 10) rfl (congrArg Value.bool hb196)
      refine d_skip (i := 4) (L' := #[true, true, true, true, true, false, false, false, false, false, false, false, false, false, false, false, false, false, false, false, false, false, false, false, false, false, false, false, false, false, false, false, false, false, false, false, false, false, false, false, false, false, false, false, false, false, false, false]) rfl (by kernel_rfl) rfl (fun _ _ _ h => h) rfl hA (by decide) (by decide) rfl rfl (fun _ => hS) ?_; clear hA; intro a hA
      refine d_skip (i := 5) (L' := #[true, true, true, true, true, true, false, false, false, false, false, false, false, false, false, false, false, false, false, false, false, false, false, false, false, false, false, false, false, false, false, false, false, false, false, false, false, false, false, false, false, false, false, false, false, false, false, false]) rfl (by kernel_rfl) rfl (fun _ _ _ h => h) rfl hA (by decide) (by decide) rfl rfl (fun _ => hS) ?_; clear hA; intro a hA
      refine d_skip (i := 6) (L' := #[true, true, true, true, true, true, true, false, false, false, false, false, false, false, false, false, false, false, false, false, false, false, false, false, false, false, false, false, false, false, false, false, false, false, false, false, false, false, false, false, false, false, false, false, false, false, false, false]) rfl (by kernel_rfl) rfl (fun _ _ _ h => h) rfl hA (by decide) (by decide) rfl rfl (fun _ => hS) ?_; clear hA; intro a hA
      refine d_skip (i := 7) (L' := #[true, true, true, true, true, true, true, true, false, false, false, false, false, false, false, false, false, false, false, false, false, false, false, false, false, false, false, false, false, false, false, false, false, false, false, false, false, false, false, false, false, false, false, false, false, false, false, false]) rfl (by kernel_rfl) rfl (fun _ _ _ h => h) rfl hA (by decide) (by decide) rfl rfl (fun _ => hS) ?_; clear hA; intro a hA
      refine d_skip (i := 8) (L' := #[true, true, true, true, true, true, true, true, true, false, false, false, false, false, false, false, false, false, false, false, false, false, false, false, false, false, false, false, false, false, false, false, false, false, false, false, false, false, false, false, false, false, false, false, false, false, false, false]) rfl (by kernel_rfl) rfl (fun _ _ _ h => h) rfl hA (by decide) (by decide) rfl rfl (fun _ => hS) ?_; clear hA; intro a hA
      refine d_skip (i := 9) (L' := #[true, true, true, true, true, true, true, true, true, true, false, false, false, false, false, false, false, false, false, false, false, false, false, false, false, false, false, false, false, false, false, false, false, false, false, false, false, false, false, false, false, false, false, false, false, false, false, false]) rfl (by kernel_rfl) rfl (fun _ _ _ h => h) rfl hA (by decide) (by decide) rfl rfl (fun _ => hS) ?_; clear hA; intro a hA
      refine d_skip (i := 10) (L' := #[true, true, true, true, true, true, true, true, true, true, true, false, false, false, false, false, false, false, false, false, false, false, false, false, false, false, false, false, false, false, false, false, false, false, false, false, false, false, false, false, false, false, false, false, false, false, false, false]) rfl (by kernel_rfl) rfl (fun _ _ _ h => h) rfl hA (by decide) (by decide) rfl rfl (fun _ => hS) ?_; clear hA; intro a hA
      refine d_skip (i := 11) (L' := #[true, true, true, true, true, true, true, true, true, true, true, true, false, false, false, false, false, false, false, false, false, false, false, false, false, false, false, false, false, false, false, false, false, false, false, false, false, false, false, false, false, false, false, false, false, false, false, false]) rfl (by kernel_rfl) rfl (fun _ _ _ h => h) rfl hA (by decide) (by decide) rfl rfl (fun _ => hS) ?_; clear hA; intro a hA
      refine d_skip (i := 12) (L' := #[true, true, true, true, true, true, true, true, true, true, true, true, true, false, false, false, false, false, false, false, false, false, false, false, false, false, false, false, false, false, false, false, false, false, false, false, false, false, false, false, false, false, false, false, false, false, false, false]) rfl (by kernel_rfl) rfl (fun _ _ _ h => h) rfl hA (by decide) (by decide) rfl rfl (fun _ => hS) ?_; clear hA; intro a hA
      refine d_takef (i := 13) (L' := #[true, true, true, true, true, true, true, true, true, true, true, true, true, true, false, false, false, false, false, false, false, false, false, false, false, false, false, false, false, false, false, false, false, false, false, false, false, false, false, false, false, false, false, false, false, false, false, false]) rfl (by kernel_rfl) rfl (fun _ _ _ h => h) hA (by decide) (fun _ => hS) (fun a w' hA => run_pick (hA.ev rfl) (fun h => Bool.noConfusion h) (fun _ => hA.ev rfl)) ?_; clear hA; intro a hA
      refine d_takef (i := 14) (L' := #[true, true, true, true, true, true, true, true, true, true, true, true, true, true, true, false, false, false, false, false, false, false, false, false, false, false, false, false, false, false, false, false, false, false, false, false, false, false, false, false, false, false, false, false, false, false, false, false]) rfl (by kernel_rfl) rfl (fun _ _ _ h => h) hA (by decide) (fun _ => hS) (fun a w' hA => run_move (hA.ev rfl)) ?_; clear hA; intro a hA
      refine d_skip (i := 15) (L' := #[true, true, true, true, true, true, true, true, true, true, true, true, true, true, true, true, false, false, false, false, false, false, false, false, false, false, false, false, false, false, false, false, false, false, false, false, false, false, false, false, false, false, false, false, false, false, false, false]) rfl (by kernel_rfl) rfl (fun _ _ _ h => h) rfl hA (by decide) (by decide) rfl rfl (fun _ => hS) ?_; clear hA; intro a hA
      refine d_skip (i := 16) (L' := #[true, true, true, true, true, true, true, true, true, true, true, true, true, true, true, true, true, false, false, false, false, false, false, false, false, false, false, false, false, false, false, false, false, false, false, false, false, false, false, false, false, false, false, false, false, false, false, false]) rfl (by kernel_rfl) rfl (fun _ _ _ h => h) rfl hA (by decide) (by decide) rfl rfl (fun _ => hS) ?_; clear hA; intro a hA
      refine d_skip (i := 17) (L' := #[true, true, true, true, true, true, true, true, true, true, true, true, true, true, true, true, true, true, false, false, false, false, false, false, false, false, false, false, false, false, false, false, false, false, false, false, false, false, false, false, false, false, false, false, false, false, false, false]) rfl (by kernel_rfl) rfl (fun _ _ _ h => h) rfl hA (by decide) (by decide) rfl rfl (fun _ => hS) ?_; clear hA; intro a hA
      refine d_skip (i := 18) (L' := #[true, true, true, true, true, true, true, true, true, true, true, true, true, true, true, true, true, true, true, false, false, false, false, false, false, false, false, false, false, false, false, false, false, false, false, false, false, false, false, false, false, false, false, false, false, false, false, false]) rfl (by kernel_rfl) rfl (fun _ _ _ h => h) rfl hA (by decide) (by decide) rfl rfl (fun _ => hS) ?_; clear hA; intro a hA
      refine d_skip (i := 19) (L' := #[true, true, true, true, true, true, true, true, true, true, true, true, true, true, true, true, true, true, true, true, false, false, false, false, false, false, false, false, false, false, false, false, false, false, false, false, false, false, false, false, false, false, false, false, false, false, false, false]) rfl (by kernel_rfl) rfl (fun _ _ _ h => h) rfl hA (by decide) (by decide) rfl rfl (fun _ => hS) ?_; clear hA; intro a hA
      refine d_skip (i := 20) (L' := #[true, true, true, true, true, true, true, true, true, true, true, true, true, true, true, true, true, true, true, true, true, false, false, false, false, false, false, false, false, false, false, false, false, false, false, false, false, false, false, false, false, false, false, false, false, false, false, false]) rfl (by kernel_rfl) rfl (fun _ _ _ h => h) rfl hA (by decide) (by decide) rfl rfl (fun _ => hS) ?_; clear hA; intro a hA
      refine d_skip (i := 21) (L' := #[true, true, true, true, true, true, true, true, true, true, true, true, true, true, true, true, true, true, true, true, true, true, false, false, false, false, false, false, false, false, false, false, false, false, false, false, false, false, false, false, false, false, false, false, false, false, false, false]) rfl (by kernel_rfl) rfl (fun _ _ _ h => h) rfl hA (by decide) (by decide) rfl rfl (fun _ => hS) ?_; clear hA; intro a hA
      refine d_skip (i := 22) (L' := #[true, true, true, true, true, true, true, true, true, true, true, true, true, true, true, true, true, true, true, true, true, true, true, false, false, false, false, false, false, false, false, false, false, false, false, false, false, false, false, false, false, false, false, false, false, false, false, false]) rfl (by kernel_rfl) rfl (fun _ _ _ h => h) rfl hA (by decide) (by decide) rfl rfl (fun _ => hS) ?_; clear hA; intro a hA
      refine d_skip (i := 23) (L' := #[true, true, true, true, true, true, true, true, true, true, true, true, true, true, true, true, true, true, true, true, true, true, true, true, false, false, false, false, false, false, false, false, false, false, false, false, false, false, false, false, false, false, false, false, false, false, false, false]) rfl (by kernel_rfl) rfl (fun _ _ _ h => h) rfl hA (by decide) (by decide) rfl rfl (fun _ => hS) ?_; clear hA; intro a hA
      refine d_takef (i := 24) (L' := #[true, true, true, true, true, true, true, true, true, true, true, true, true, true, true, true, true, true, true, true, true, true, true, true, true, false, false, false, false, false, false, false, false, false, false, false, false, false, false, false, false, false, false, false, false, false, false, false]) rfl (by kernel_rfl) rfl (fun _ _ _ h => h) hA (by decide) (fun _ => hS) (fun a w' hA => run_pick (hA.ev rfl) (fun h => Bool.noConfusion h) (fun _ => hA.ev rfl)) ?_; clear hA; intro a hA
      refine d_takef (i := 25) (L' := #[true, true, true, true, true, true, true, true, true, true, true, true, true, true, true, true, true, true, true, true, true, true, true, true, true, true, false, false, false, false, false, false, false, false, false, false, false, false, false, false, false, false, false, false, false, false, false, false]) rfl (by kernel_rfl) rfl (fun _ _ _ h => h) hA (by decide) (fun _ => hS) (fun a w' hA => run_move (hA.ev rfl)) ?_; clear hA; intro a hA
      refine d_skip (i := 26) (L' := #[true, true, true, true, true, true, true, true, true, true, true, true, true, true, true, true, true, true, true, true, true, true, true, true, true, true, true, false, false, false, false, false, false, false, false, false, false, false, false, false, false, false, false, false, false, false, false, false]) rfl (by kernel_rfl) rfl (fun _ _ _ h => h) rfl hA (by decide) (by decide) rfl rfl (fun _ => hS) ?_; clear hA; intro a hA
      refine d_skip (i := 27) (L' := #[true, true, true, true, true, true, true, true, true, true, true, true, true, true, true, true, true, true, true, true, true, true, true, true, true, true, true, true, false, false, false, false, false, false, false, false, false, false, false, false, false, false, false, false, false, false, false, false]) rfl (by kernel_rfl) rfl (fun _ _ _ h => h) rfl hA (by decide) (by decide) rfl rfl (fun _ => hS) ?_; clear hA; intro a hA
      refine d_skip (i := 28) (L' := #[true, true, true, true, true, true, true, true, true, true, true, true, true, true, true, true, true, true, true, true, true, true, true, true, true, true, true, true, true, false, false, false, false, false, false, false, false, false, false, false, false, false, false, false, false, false, false, false]) rfl (by kernel_rfl) rfl (fun _ _ _ h => h) rfl hA (by decide) (by decide) rfl rfl (fun _ => hS) ?_; clear hA; intro a hA
      refine d_skip (i := 29) (L' := #[true, true, true, true, true, true, true, true, true, true, true, true, true, true, true, true, true, true, true, true, true, true, true, true, true, true, true, true, true, true, false, false, false, false, false, false, false, false, false, false, false, false, false, false, false, false, false, false]) rfl (by kernel_rfl) rfl (fun _ _ _ h => h) rfl hA (by decide) (by decide) rfl rfl (fun _ => hS) ?_; clear hA; intro a hA
      refine d_skip (i := 30) (L' := #[true, true, true, true, true, true, true, true, true, true, true, true, true, true, true, true, true, true, true, true, true, true, true, true, true, true, true, true, true, true, true, false, false, false, false, false, false, false, false, false, false, false, false, false, false, false, false, false]) rfl (by kernel_rfl) rfl (fun _ _ _ h => h) rfl hA (by decide) (by decide) rfl rfl (fun _ => hS) ?_; clear hA; intro a hA
      refine d_skip (i := 31) (L' := #[true, true, true, true, true, true, true, true, true, true, true, true, true, true, true, true, true, true, true, true, true, true, true, true, true, true, true, true, true, true, true, true, false, false, false, false, false, false, false, false, false, false, false, false, false, false, false, false]) rfl (by kernel_rfl) rfl (fun _ _ _ h => h) rfl hA (by decide) (by decide) rfl rfl (fun _ => hS) ?_; clear hA; intro a hA
      refine d_skip (i := 32) (L' := #[true, true, true, true, true, true, true, true, true, true, true, true, true, true, true, true, true, true, true, true, true, true, true, true, true, true, true, true, true, true, true, true, true, false, false, false, false, false, false, false, false, false, false, false, false, false, false, false]) rfl (by kernel_rfl) rfl (fun _ _ _ h => h) rfl hA (by decide) (by decide) rfl rfl (fun _ => hS) ?_; clear hA; intro a hA
      refine d_skip (i := 33) (L' := #[true, true, true, true, true, true, true, true, true, true, true, true, true, true, true, true, true, true, true, true, true, true, true, true, true, true, true, true, true, true, true, true, true, true, false, false, false, false, false, false, false, false, false, false, false, false, false, false]) rfl (by kernel_rfl) rfl (fun _ _ _ h => h) rfl hA (by decide) (by decide) rfl rfl (fun _ => hS) ?_; clear hA; intro a hA
      refine d_skip (i := 34) (L' := #[true, true, true, true, true, true, true, true, true, true, true, true, true, true, true, true, true, true, true, true, true, true, true, true, true, true, true, true, true, true, true, true, true, true, true, false, false, false, false, false, false, false, false, false, false, false, false, false]) rfl (by kernel_rfl) rfl (fun _ _ _ h => h) rfl hA (by decide) (by decide) rfl rfl (fun _ => hS) ?_; clear hA; intro a hA
      refine d_takef (i := 35) (L' := #[true, true, true, true, true, true, true, true, true, true, true, true, true, true, true, true, true, true, true, true, true, true, true, true, true, true, true, true, true, true, true, true, true, true, true, true, false, false, false, false, false, false, false, false, false, false, false, false]) rfl (by kernel_rfl) rfl (fun _ _ _ h => h) hA (by decide) (fun _ => hS) (fun a w' hA => run_pick (hA.ev rfl) (fun h => Bool.noConfusion h) (fun _ => hA.ev rfl)) ?_; clear hA; intro a hA
      refine d_takef (i := 36) (L' := #[true, true, true, true, true, true, true, true, true, true, true, true, true, true, true, true, true, true, true, true, true, true, true, true, true, true, true, true, true, true, true, true, true, true, true, true, true, false, false, false, false, false, false, false, false, false, false, false]) rfl (by kernel_rfl) rfl (fun _ _ _ h => h) hA (by decide) (fun _ => hS) (fun a w' hA => run_move (hA.ev rfl)) ?_; clear hA; intro a hA
      refine d_skip (i := 37) (L' := #[true, true, true, true, true, true, true, true, true, true, true, true, true, true, true, true, true, true, true, true, true, true, true, true, true, true, true, true, true, true, true, true, true, true, true, true, true, true, false, false, false, false, false, false, false, false, false, false]) rfl (by kernel_rfl) rfl (fun _ _ _ h => h) rfl hA (by decide) (by decide) rfl rfl (fun _ => hS) ?_; clear hA; intro a hA
      refine d_one (i := 38) (L' := #[true, true, true, true, true, true, true, true, true, true, true, true, true, true, true, true, true, true, true, true, true, true, true, true, true, true, true, true, true, true, true, true, true, true, true, true, true, true, true, false, false, false, false, false, false, false, false, false]) (by kernel_rfl) rfl rfl (gate_off rfl (by decide) rfl hA (by decide) rfl rfl ?_); clear hA; intro a hA
      refine ⟨fun _ => hS, ?_⟩
      refine d_skip (i := 39) (L' := #[true, true, true, true, true, true, true, true, true, true, true, true, true, true, true, true, true, true, true, true, true, true, true, true, true, true, true, true, true, true, true, true, true, true, true, true, true, true, true, true, false, false, false, false, false, false, false, false]) rfl (by kernel_rfl) rfl (fun _ _ _ h => h) rfl hA (by decide) (by decide) rfl rfl (fun _ => hS) ?_; clear hA; intro a hA
      refine d_takef (i := 40) (L' := #[true, true, true, true, true, true, true, true, true, true, true, true, true, true, true, true, true, true, true, true, true, true, true, true, true, true, true, true, true, true, true, true, true, true, true, true, true, true, true, true, true, false, false, false, false, false, false, false]) rfl (by kernel_rfl) rfl (fun _ _ _ h => h) hA (by decide) (fun _ => hS) (fun a w' hA => run_pick (hA.ev rfl) (fun h => Bool.noConfusion h) (fun _ => hA.ev rfl)) ?_; clear hA; intro a hA
      refine d_takef (i := 41) (L' := #[true, true, true, true, true, true, true, true, true, true, true, true, true, true, true, true, true, true, true, true, true, true, true, true, true, true, true, true, true, true, true, true, true, true, true, true, true, true, true, true, true, true, false, false, false, false, false, false]) rfl (by kernel_rfl) rfl (fun _ _ _ h => h) hA (by decide) (fun _ => hS) (fun a w' hA => run_move (hA.ev rfl)) ?_; clear hA; intro a hA
      refine d_skip (i := 42) (L' := #[true, true, true, true, true, true, true, true, true, true, true, true, true, true, true, true, true, true, true, true, true, true, true, true, true, true, true, true, true, true, true, true, true, true, true, true, true, true, true, true, true, true, true, false, false, false, false, false]) rfl (by kernel_rfl) rfl (fun _ _ _ h => h) rfl hA (by decide) (by decide) rfl rfl (fun _ => hS) ?_; clear hA; intro a hA
      refine d_one (i := 43) (L' := #[true, true, true, true, true, true, true, true, true, true, true, true, true, true, true, true, true, true, true, true, true, true, true, true, true, true, true, true, true, true, true, true, true, true, true, true, true, true, true, true, true, true, true, true, false, false, false, false]) (by kernel_rfl) rfl rfl (gate_off rfl (by decide) rfl hA (by decide) rfl rfl ?_); clear hA; intro a hA
      refine ⟨fun _ => hS, ?_⟩
      refine d_skip (i := 44) (L' := #[true, true, true, true, true, true, true, true, true, true, true, true, true, true, true, true, true, true, true, true, true, true, true, true, true, true, true, true, true, true, true, true, true, true, true, true, true, true, true, true, true, true, true, true, true, false, false, false]) rfl (by kernel_rfl) rfl (fun _ _ _ h => h) rfl hA (by decide) (by decide) rfl rfl (fun _ => hS) ?_; clear hA; intro a hA
      refine d_skip (i := 45) (L' := #[true, true, true, true, true, true, true, true, true, true, true, true, true, true, true, true, true, true, true, true, true, true, true, true, true, true, true, true, true, true, true, true, true, true, true, true, true, true, true, true, true, true, true, true, true, true, false, false]) rfl (by kernel_rfl) rfl (fun _ _ _ h => h) rfl hA (by decide) (by decide) rfl rfl (fun _ => hS) ?_; clear hA; intro a hA
      refine d_takef (i := 46) (L' := #[true, true, true, true, true, true, true, true, true, true, true, true, true, true, true, true, true, true, true, true, true, true, true, true, true, true, true, true, true, true, true, true, true, true, true, true, true, true, true, true, true, true, true, true, true, true, true, false]) rfl (by kernel_rfl) rfl (fun _ _ _ h => h) hA (by decide) (fun _ => hS) (fun a w' hA => run_pick (hA.ev rfl) (fun h => Bool.noConfusion h) (fun _ => hA.ev rfl)) ?_; clear hA; intro a hA
      refine d_takef (i := 47) (L' := #[true, true, true, true, true, true, true, true, true, true, true, true, true, true, true, true, true, true, true, true, true, true, true, true, true, true, true, true, true, true, true, true, true, true, true, true, true, true, true, true, true, true, true, true, true, true, true, true]) rfl (by kernel_rfl) rfl (fun _ _ _ h => h) hA (by decide) (fun _ => hS) (fun a w' hA => run_assign (hA.ev rfl)) ?_; clear hA; intro a hA
      refine d_done (by kernel_rfl) ?_
      exact ⟨false, Option.some.inj H192, (hM.sel [] rfl (by decide)), (hA.nil.cons (hA.get 0 _ rfl))⟩
  clear hM hA
  rintro a w240 ⟨t191, rfl, hM, hA⟩
  try dsimp only at H
  refine TN ?_
  refine wp_ret ?_
  obtain rfl := Option.some.inj H
  exact ret_post1 (fn := Try.f8) hA rfl rfl ⟨_, rfl, rfl, hM⟩

def branch_Ancestor.f (k : Nat) (t_0 : Tree) (n_1 : Int) (height_2 : Int) : Option Int := (Option.bind (α := Bool) ((branch_has.f k (Tree.mk t_0.Nodes t_0.Best) [n_1]).bind fun r77 => (if (!r77) = true then (some true) else (if (decide (height_2 < 0)) = true then (some true) else (if 0 ≤ n_1 ∧ n_1 < ((t_0.Nodes.length : Nat) : Int) then (some (decide (height_2 > ((t_0.Nodes.getD n_1.toNat Node.z).Height)))) else none)))) (fun t71 => (if t71 = true then (some (-1)) else ((branch_chain.f k (Tree.mk t_0.Nodes t_0.Best) n_1).bind fun r89 => (if 0 ≤ height_2 ∧ height_2 < ((r89.length : Nat) : Int) then (some (r89.getD height_2.toNat (0 : Int))) else none)))))
set_option maxRecDepth 100000 in
theorem branch_Ancestor.calls (k : Nat) (t_0 : Tree) (n_1 : Int) (height_2 : Int) (F : List (Option Nat)) (v0_0 : Value) (r : Int) (w0 : World) (h0_0 : RoV F pNode w0 v0_0 t_0.Nodes) (hM : Mem F w0 w0 []) (H : branch_Ancestor.f k t_0 n_1 height_2 = some r) :
    Calls Try.prog 14 #[(.agg #[v0_0, (.int .i64 t_0.Best)]), (.int .i64 n_1), (.int .i64 height_2)] w0 fun e w' => ∃ v, e = .returned v ∧ v = (.int .i64 r) ∧ Mem F w0 w' [] := by
  unfold branch_Ancestor.f at H
  obtain ⟨A0_0, c0_0, rfl, hr0_0, hc0_0⟩ := h0_0
  refine enterL (n := 32) [(.agg #[(.slice A0_0 t_0.Nodes.length c0_0), (.int .i64 t_0.Best)]), (.int .i64 n_1), (.int .i64 height_2)] Try.func14 rfl rfl rfl ?_
  intro a hA
  refine wp_seq ?_
  refine wp_region_lit ?_
  refine L1 (e_box (cs := [(.slice A0_0 t_0.Nodes.length c0_0), (.int .i64 t_0.Best)]) hM hA rfl rfl (by decide) ?_)
  clear hM hA; intro w52 g51 hM hE a hA
  refine L1 (stv hA (by decide) (run_assign (hA.ev rfl)) ?_)
  clear hA; intro a hA
  refine LQ ?_
  refine TN ?_
  refine wp_seq ?_
  refine wp_seq ?_
  obtain ⟨o73, H72, H⟩ := Option.bind_eq_some_iff.1 H
  refine cutC (fun a w => ∃ (t71 : Bool), t71 = o73 ∧ Mem F w0 w [.box g51 24 [(.slice A0_0 t_0.Nodes.length c0_0), (.int .i64 t_0.Best)]] ∧ Has 32 [(1, (.int .i64 n_1)), (2, (.int .i64 height_2)), (3, (.pointer (some (⟨g51, 0, none⟩)))), (25, (.bool t71))] a) ?_ ?_
  · refine wp_region_lit ?_
    refine L1 (stv hA (by decide) (run_ld (hA.ev rfl) (run_loadW Try.isAgg24 Try.sizeOf24 (by simp [Pl.len]; try rfl) (hM.box .z))) ?_)
    clear hA; intro a hA
    refine L1 (stv hA (by decide) (run_move (hA.ev rfl)) ?_)
    clear hA; intro a hA
    refine L1 (e_litN [n_1] [(.int .i64 n_1)] elt31 hM rfl (by decide) hA rfl rfl (List.cons_ne_nil _ _) (by decide) ?_)
    clear hM hA; intro w75 g74 hM hE a hA
    obtain ⟨r77, H78, H72⟩ := Option.bind_eq_some_iff.1 H72
    refine L1 (st_call Try.call27 hA [(.agg #[(.slice A0_0 t_0.Nodes.length c0_0), (.int .i64 t_0.Best)]), (.slice (some ⟨g74, 0, none⟩) 1 1)] rfl (by decide) (branch_has.calls _ _ _ _ _ _ _ _ ((RoV.mk (hM.roC (Ms := []) hr0_0) (Eq.refl t_0.Nodes.length) hc0_0)) ((RoV.mk (hM.rowC (p := (Pl.int .i64)) (Ms := []) .z) (RowOk.len (hM.row (p := (Pl.int .i64)) .z)) (RowOk.cap (hM.row (p := (Pl.int .i64)) .z)))) (hM.front (Ms := [])) H78) ?_)
    clear hA; rintro _ w79 ⟨rfl, hMc⟩ a hA
    have hE := hMc.below; have hM := hM.call (Ms := []) hMc
    clear hMc; simp only [List.cons_append, List.nil_append] at hM
    refine L1 (stv hA (by decide) (run_not (hA.ev rfl)) ?_)
    clear hA; intro a hA
    refine L1 (stv hA (by decide) (run_move (hA.ev rfl)) ?_)
    clear hA; intro a hA
    refine bsplit (b := (!r77)) (fun hb80 => ?_) (fun hb80 => ?_)
    · replace H72 := ite_t hb80 H72
      have hA := hA.re (t := 12) rfl (congrArg Value.bool hb80)
      refine L1 (gate_off rfl (by decide) rfl hA (by decide) rfl rfl ?_); clear hA; intro a hA
      refine L1 (gate_off rfl (by decide) rfl hA (by decide) rfl rfl ?_); clear hA; intro a hA
      refine L1 (stv hA (by decide) (run_pick (hA.ev rfl) (fun _ => hA.ev rfl) (fun h => Bool.noConfusion h)) ?_)
      clear hA; intro a hA
      refine L1 (stv hA (by decide) (run_move (hA.ev rfl)) ?_)
      clear hA; intro a hA
      refine L1 (gate_off rfl (by decide) rfl hA (by decide) rfl rfl ?_); clear hA; intro a hA
      refine L1 (gate_off rfl (by decide) rfl hA (by decide) rfl rfl ?_); clear hA; intro a hA
      refine L1 (gate_off rfl (by decide) rfl hA (by decide) rfl rfl ?_); clear hA; intro a hA
      refine L1 (gate_off rfl (by decide) rfl hA (by decide) rfl rfl ?_); clear hA; intro a hA
      refine L1 (gate_off rfl (by decide) rfl hA (by decide) rfl rfl ?_); clear hA; intro a hA
      refine L1 (gate_off rfl (by decide) rfl hA (by decide) rfl rfl ?_); clear hA; intro a hA
      refine L1 (gate_off rfl (by decide) rfl hA (by decide) rfl rfl ?_); clear hA; intro a hA
      refine L1 (gate_off rfl (by decide) rfl hA (by decide) rfl rfl ?_); clear hA; intro a hA
      refine L1 (stv hA (by decide) (run_pick (hA.ev rfl) (fun _ => hA.ev rfl) (fun h => Bool.noConfusion h)) ?_)
      clear hA; intro a hA
      refine LQ ?_
      exact ⟨true, Option.some.inj H72, (hM.sel [1] rfl (by decide)), ((((hA.nil.cons (hA.get 25 _ rfl)).cons (hA.get 3 _ rfl)).cons (hA.get 2 _ rfl)).cons (hA.get 1 _ rfl))⟩
    · replace H72 := ite_f hb80 H72
      have hA := hA.re (t := 12) rfl (congrArg Value.bool hb80)
      refine L1 (gate_on rfl rfl hA (by decide) rfl (stv hA (by decide) (run_move (hA.ev rfl)) ?_))
      clear hA; intro a hA
      refine L1 (gate_on rfl rfl hA (by decide) rfl (stv hA (by decide) (run_bin (hA.ev rfl) (hA.ev rfl) (bin_lss _ _ _ _)) ?_))
      clear hA; intro a hA
      refine L1 (stv hA (by decide) (run_pick (hA.ev rfl) (fun h => Bool.noConfusion h) (fun _ => hA.ev rfl)) ?_)
      clear hA; intro a hA
      refine L1 (stv hA (by decide) (run_move (hA.ev rfl)) ?_)
      clear hA; intro a hA
      refine bsplit (b := (decide (height_2 < 0))) (fun hb81 => ?_) (fun hb81 => ?_)
      · replace H72 := ite_t hb81 H72
        have hA := hA.re (t := 16) rfl (congrArg Value.bool hb81)
        refine L1 (gate_off rfl (by decide) rfl hA (by decide) rfl rfl ?_); clear hA; intro a hA
        refine L1 (gate_off rfl (by decide) rfl hA (by decide) rfl rfl ?_); clear hA; intro a hA
        refine L1 (gate_off rfl (by decide) rfl hA (by decide) rfl rfl ?_); clear hA; intro a hA
        refine L1 (gate_off rfl (by decide) rfl hA (by decide) rfl rfl ?_); clear hA; intro a hA
        refine L1 (gate_off rfl (by decide) rfl hA (by decide) rfl rfl ?_); clear hA; intro a hA
        refine L1 (gate_off rfl (by decide) rfl hA (by decide) rfl rfl ?_); clear hA; intro a hA
        refine L1 (gate_off rfl (by decide) rfl hA (by decide) rfl rfl ?_); clear hA; intro a hA
        refine L1 (gate_off rfl (by decide) rfl hA (by decide) rfl rfl ?_); clear hA; intro a hA
        refine L1 (stv hA (by decide) (run_pick (hA.ev rfl) (fun _ => hA.ev rfl) (fun h => Bool.noConfusion h)) ?_)
        clear hA; intro a hA
        refine LQ ?_
        exact ⟨true, Option.some.inj H72, (hM.sel [1] rfl (by decide)), ((((hA.nil.cons (hA.get 25 _ rfl)).cons (hA.get 3 _ rfl)).cons (hA.get 2 _ rfl)).cons (hA.get 1 _ rfl))⟩
      · replace H72 := ite_f hb81 H72
        have hA := hA.re (t := 16) rfl (congrArg Value.bool hb81)
        refine L1 (gate_on rfl rfl hA (by decide) rfl (stv hA (by decide) (run_move (hA.ev rfl)) ?_))
        clear hA; intro a hA
        refine L1 (gate_on rfl rfl hA (by decide) rfl (stv hA (by decide) (run_field' Try.underlying24 rfl rfl Try.sizeOf22 (by decide) (hA.ev rfl)) ?_))
        clear hA; intro a hA
        refine L1 (gate_on rfl rfl hA (by decide) rfl (stv hA (by decide) (run_ld (hA.ev rfl) (run_loadS Try.isAgg22 (At.seg1 (hM.box (.s .z)) 0 rfl))) ?_))
        clear hA; intro a hA
        refine L1 (gate_on rfl rfl hA (by decide) rfl (stv hA (by decide) (run_move (hA.ev rfl)) ?_))
        clear hA; intro a hA
        obtain ⟨⟨hi82, hj83⟩, H72⟩ := ite_some H72
        obtain ⟨ad84, hq85, hat86⟩ := Row.elem' (p := pNode) (hM.ro hr0_0) (Eq.refl t_0.Nodes.length) Node.z n_1 hi82 hj83
        refine L1 (gate_on rfl rfl hA (by decide) rfl (stv hA (by decide) (run_idx Try.underlying22 Try.sizeOf46 (hA.ev rfl) hq85 (hA.ev rfl) hi82 hj83) ?_))
        clear hA; intro a hA
        refine L1 (gate_on rfl rfl hA (by decide) rfl (stv hA (by decide) (run_field' Try.underlying46 rfl rfl Try.sizeOf3 (by decide) (hA.ev rfl)) ?_))
        clear hA; intro a hA
        refine L1 (gate_on rfl rfl hA (by decide) rfl (stv hA (by decide) (run_ld (hA.ev rfl) (run_loadS Try.isAgg3 (Node.at_Height (hat86)))) ?_))
        clear hA; intro a hA
        refine L1 (gate_on rfl rfl hA (by decide) rfl (stv hA (by decide) (run_bin (hA.ev rfl) (hA.ev rfl) (bin_gtr _ _ _ _)) ?_))
        clear hA; intro a hA
        refine L1 (stv hA (by decide) (run_pick (hA.ev rfl) (fun h => Bool.noConfusion h) (fun _ => hA.ev rfl)) ?_)
        clear hA; intro a hA
        refine LQ ?_
        exact ⟨(decide (height_2 > ((t_0.Nodes.getD n_1.toNat Node.z).Height))), Option.some.inj H72, (hM.sel [1] rfl (by decide)), ((((hA.nil.cons (hA.get 25 _ rfl)).cons (hA.get 3 _ rfl)).cons (hA.get 2 _ rfl)).cons (hA.get 1 _ rfl))⟩
  clear hM hA
  rintro a w87 ⟨t71, rfl, hM, hA⟩
  try dsimp only at H
  refine TN ?_
  refine tcond (b := t71) hA rfl (fun hb88 => ?_) (fun hb88 => ?_)
  · replace H := ite_t hb88 H
    refine wp_seq ?_
    refine wp_region_lit ?_
    refine L1 (stv hA (by decide) (run_assign (hA.ev rfl)) ?_)
    clear hA; intro a hA
    refine LQ ?_
    refine TN ?_
    refine wp_ret ?_
    obtain rfl := Option.some.inj H
    refine TR ?_
    exact ret_post1 (fn := Try.f14) hA rfl rfl ⟨_, rfl, rfl, (hM.sel [] rfl (by decide))⟩
  · replace H := ite_f hb88 H
    refine wp_skip ?_
    refine TN ?_
    refine wp_seq ?_
    refine wp_region_lit ?_
    refine L1 (stv hA (by decide) (run_ld (hA.ev rfl) (run_loadW Try.isAgg24 Try.sizeOf24 (by simp [Pl.len]; try rfl) (hM.box .z))) ?_)
    clear hA; intro a hA
    refine L1 (stv hA (by decide) (run_move (hA.ev rfl)) ?_)
    clear hA; intro a hA
    obtain ⟨r89, H90, H⟩ := Option.bind_eq_some_iff.1 H
    refine L1 (st_call Try.call24 hA [(.agg #[(.slice A0_0 t_0.Nodes.length c0_0), (.int .i64 t_0.Best)]), (.int .i64 n_1)] rfl (by decide) (branch_chain.calls _ _ _ _ _ _ _ ((RoV.mk (hM.roC (Ms := []) hr0_0) (Eq.refl t_0.Nodes.length) hc0_0)) (hM.front (Ms := [])) H90) ?_)
    clear hA; rintro _ w91 ⟨v92, rfl, hMc⟩ a hA
    have hE := hMc.below; have hM := hM.call (Ms := []) hMc
    clear hMc; simp only [List.cons_append, List.nil_append] at hM
    obtain ⟨A94, c95, rfl⟩ := RowOk.form (hM.row (p := (Pl.int .i64)) .z)
    refine L1 (stv hA (by decide) (run_move (hA.ev rfl)) ?_)
    clear hA; intro a hA
    obtain ⟨⟨hi96, hj97⟩, H⟩ := ite_some H
    obtain ⟨ad98, hq99, hat100⟩ := Row.elem' (p := (Pl.int .i64)) (RowOk.row (hM.row (p := (Pl.int .i64)) .z)) (RowOk.len (hM.row (p := (Pl.int .i64)) .z)) (0 : Int) height_2 hi96 hj97
    refine L1 (stv hA (by decide) (run_idx Try.underlying31 Try.sizeOf3 (hA.ev rfl) hq99 (hA.ev rfl) hi96 hj97) ?_)
    clear hA; intro a hA
    refine L1 (stv hA (by decide) (run_ld (hA.ev rfl) (run_loadS Try.isAgg3 hat100)) ?_)
    clear hA; intro a hA
    refine L1 (stv hA (by decide) (run_assign (hA.ev rfl)) ?_)
    clear hA; intro a hA
    refine LQ ?_
    refine TN ?_
    refine wp_ret ?_
    obtain rfl := Option.some.inj H
    exact ret_post1 (fn := Try.f14) hA rfl rfl ⟨_, rfl, rfl, (hM.sel [] rfl (by decide))⟩

def law16_BranchShort.l1 (n_1 : Int) (r1095 : Tree) (r1107 : (List (Vector Int 32))) (t1933 : Int) : Nat → Int → Bool → Int → Option (Int × Bool)
  | 0, _, _, _ => none
  | k + 1, height2113, found2116, i2118 => (Option.bind (α := Bool) (if (decide (i2118 ≥ 0)) = true then (some (!found2116)) else (some false)) (fun t2146 => (if t2146 = true then ((branch_Ancestor.f k (Tree.mk r1095.Nodes r1095.Best) ((IntKind.i64.wrap n_1).tmod ((r1095.Nodes.length : Nat) : Int)) i2118).bind fun r2154 => (if 0 ≤ r2154 ∧ r2154 < ((r1095.Nodes.length : Nat) : Int) then (Option.bind (α := Int × Bool) (if (((r1095.Nodes.getD r2154.toNat Node.z).Hash) == (r1107.getD t1933.toNat (Vector.replicate 32 0 : Vector Int 32))) = true then (some (i2118, true)) else (some (height2113, found2116))) (fun st => match st with | (height2166, found2169) => (law16_BranchShort.l1 n_1 r1095 r1107 t1933 k height2166 found2169 (IntKind.i64.wrap (i2118 - 1))))) else none)) else (some (height2113, found2116)))))
def law16_BranchShort.l0 (n_1 : Int) (r1095 : Tree) (r1107 : (List (Vector Int 32))) : Nat → Int → Int → Option (Out Bool (Unit))
  | 0, _, _ => none
  | k + 1, height1929, t1933 => (if (decide (t1933 < ((r1107.length : Nat) : Int))) = true then (if 0 ≤ t1933 ∧ t1933 < ((r1107.length : Nat) : Int) then (Option.bind (α := Int × Bool) (law16_BranchShort.l1 n_1 r1095 r1107 t1933 k height1929 false (IntKind.i64.wrap (height1929 - 1))) (fun st => match st with | (height2125, found2127) => (if (!found2127) = true then (some (.ret false)) else (law16_BranchShort.l0 n_1 r1095 r1107 k height2125 (IntKind.i64.wrap (t1933 + 1)))))) else none) else (some (.go ())))
def law16_BranchShort.f (k : Nat) (l_0 : (List Int)) (n_1 : Int) : Option Bool := ((law16_sane.f k ).bind fun r1091 => (if (!r1091) = true then (some false) else ((law16_line.f k l_0).bind fun r1095 => (if ¬ ((r1095.Nodes.length : Nat) : Int) = 0 then ((branch_Locator.f k (Tree.mk r1095.Nodes r1095.Best) ((IntKind.i64.wrap n_1).tmod ((r1095.Nodes.length : Nat) : Int))).bind fun r1107 => (Option.bind (α := Bool) (if (((r1107.length : Nat) : Int) == 0) = true then (some true) else (if (decide (((r1107.length : Nat) : Int) > 18)) = true then (some true) else (if 0 ≤ (0 : Int) ∧ (0 : Int) < ((r1107.length : Nat) : Int) then (if 0 ≤ ((IntKind.i64.wrap n_1).tmod ((r1095.Nodes.length : Nat) : Int)) ∧ ((IntKind.i64.wrap n_1).tmod ((r1095.Nodes.length : Nat) : Int)) < ((r1095.Nodes.length : Nat) : Int) then (if (!((r1107.getD (0 : Int).toNat (Vector.replicate 32 0 : Vector Int 32)) == ((r1095.Nodes.getD ((IntKind.i64.wrap n_1).tmod ((r1095.Nodes.length : Nat) : Int)).toNat Node.z).Hash))) = true then (some true) else (if 0 ≤ (IntKind.i64.wrap (((r1107.length : Nat) : Int) - 1)) ∧ (IntKind.i64.wrap (((r1107.length : Nat) : Int) - 1)) < ((r1107.length : Nat) : Int) then (if 0 ≤ (0 : Int) ∧ (0 : Int) < ((r1095.Nodes.length : Nat) : Int) then (some (!((r1107.getD (IntKind.i64.wrap (((r1107.length : Nat) : Int) - 1)).toNat (Vector.replicate 32 0 : Vector Int 32)) == ((r1095.Nodes.getD (0 : Int).toNat Node.z).Hash)))) else none) else none)) else none) else none))) (fun t1143 => (if t1143 = true then (some false) else (if 0 ≤ ((IntKind.i64.wrap n_1).tmod ((r1095.Nodes.length : Nat) : Int)) ∧ ((IntKind.i64.wrap n_1).tmod ((r1095.Nodes.length : Nat) : Int)) < ((r1095.Nodes.length : Nat) : Int) then (Option.bind (α := Out Bool (Unit)) (law16_BranchShort.l0 n_1 r1095 r1107 k (IntKind.i64.wrap (((r1095.Nodes.getD ((IntKind.i64.wrap n_1).tmod ((r1095.Nodes.length : Nat) : Int)).toNat Node.z).Height) + 1)) 0) (fun o => match o with | .ret r => some r | .go _ => (some true))) else none))))) else none))))
set_option maxRecDepth 100000 in
theorem law16_BranchShort.calls (k : Nat) (l_0 : (List Int)) (n_1 : Int) (F : List (Option Nat)) (v0 : Value) (r : Bool) (w0 : World) (h0 : RoV F (Pl.int .u8) w0 v0 l_0) (hM : Mem F w0 w0 []) (H : law16_BranchShort.f k l_0 n_1 = some r) :
    Calls Try.prog 4 #[v0, (.int .u8 n_1)] w0 fun e w' => ∃ v, e = .returned v ∧ v = (.bool r) ∧ Mem F w0 w' [] := by
  unfold law16_BranchShort.f at H
  obtain ⟨A0, c0, rfl, hr0, hc0⟩ := h0
  refine enterL (n := 98) [(.slice A0 l_0.length c0), (.int .u8 n_1)] Try.func4 rfl rfl rfl ?_
  intro a hA
  refine wp_seq ?_
  refine wp_region_lit ?_
  refine L1 (stv hA (by decide) (run_assign (hA.ev rfl)) ?_)
  clear hA; intro a hA
  refine LQ ?_
  refine TN ?_
  refine wp_seq ?_
  refine wp_seq ?_
  refine wp_region_lit ?_
  obtain ⟨r1091, H1092, H⟩ := Option.bind_eq_some_iff.1 H
  refine L1 (st_call Try.call8 hA [] rfl (by decide) (law16_sane.calls _ _ _ _ (hM.front (Ms := [])) H1092) ?_)
  clear hA; rintro _ w1093 ⟨rfl, hMc⟩ a hA
  have hE := hMc.below; have hM := hM.call (Ms := []) hMc
  clear hMc; simp only [List.cons_append, List.nil_append] at hM
  refine L1 (stv hA (by decide) (run_not (hA.ev rfl)) ?_)
  clear hA; intro a hA
  refine LQ ?_
  refine TN ?_
  refine tcond (b := (!r1091)) hA rfl (fun hb1094 => ?_) (fun hb1094 => ?_)
  · replace H := ite_t hb1094 H
    refine wp_seq ?_
    refine wp_region_lit ?_
    refine L1 (stv hA (by decide) (run_assign (hA.ev rfl)) ?_)
    clear hA; intro a hA
    refine LQ ?_
    refine TN ?_
    refine wp_ret ?_
    obtain rfl := Option.some.inj H
    refine TR ?_
    exact ret_post1 (fn := Try.f4) hA rfl rfl ⟨_, rfl, rfl, hM⟩
  · replace H := ite_f hb1094 H
    refine wp_skip ?_
    refine TN ?_
    refine wp_seq ?_
    refine wp_region_lit ?_
    refine L1 (stv hA (by decide) (run_move (hA.ev rfl)) ?_)
    clear hA; intro a hA
    obtain ⟨r1095, H1096, H⟩ := Option.bind_eq_some_iff.1 H
    refine L1 (st_call Try.call10 hA [(.slice A0 l_0.length c0)] rfl (by decide) (law16_line.calls _ _ _ _ _ _ ((RoV.mk (hM.roC (Ms := []) hr0) (Eq.refl l_0.length) hc0)) (hM.front (Ms := [])) H1096) ?_)
    clear hA; rintro _ w1097 ⟨v1098, rfl, hMc⟩ a hA
    have hE := hMc.below; have hM := hM.call (Ms := []) hMc
    clear hMc; simp only [List.cons_append, List.nil_append] at hM
    obtain ⟨A1100, c1101, rfl⟩ := RowOk.form (hM.row (p := pNode) .z)
    refine L1 (e_alloc (cs := [(.slice none 0 0), (.int .i64 0)]) hM zero24 rfl hA (by decide) ?_)
    clear hM hA; intro w1103 g1102 hM hE a hA
    refine L1 (e_store (g := g1102) (off := 0) (cur := [(.slice none 0 0), (.int .i64 0)]) (cs' := [(.slice A1100 r1095.Nodes.length c1101), (.int .i64 r1095.Best)]) hM .z Try.sizeOf24 hA rfl (by simp [add_mk]) rfl (by first | rfl | simp [Value.cells, Pl.len]) (by simp [Value.cells, Value.oneCell']) (by first | exact Nat.le_of_ble_eq_true rfl | (simp [Pl.len]; done)) (spl_all (by first | rfl | simp [Value.cells, Pl.len])) ?_)
    clear hM hA; intro w1105 hM hE a hA
    refine LQ ?_
    refine TN ?_
    refine wp_seq ?_
    refine wp_region_lit ?_
    refine L1 (stv hA (by decide) (run_move (hA.ev rfl)) ?_)
    clear hA; intro a hA
    refine L1 (stv hA (by decide) (run_conv Try.underlying5 Try.underlying3 (hA.ev rfl)) ?_)
    clear hA; intro a hA
    refine L1 (stv hA (by decide) (run_field' Try.underlying24 rfl rfl Try.sizeOf22 (by decide) (hA.ev rfl)) ?_)
    clear hA; intro a hA
    refine L1 (stv hA (by decide) (run_ld (hA.ev rfl) (run_loadS Try.isAgg22 (At.seg1 (hM.box .z) 0 rfl))) ?_)
    clear hA; intro a hA
    refine L1 (stv hA (by decide) (run_len_slice Try.underlying22 (hA.ev rfl)) ?_)
    clear hA; intro a hA
    obtain ⟨hd1106, H⟩ := ite_some H
    refine L1 (stv hA (by decide) (run_bin (hA.ev rfl) (hA.ev rfl) (bin_rem _ _ _ _ hd1106)) ?_)
    clear hA; intro a hA
    refine L1 (stv hA (by decide) (run_assign (hA.ev rfl)) ?_)
    clear hA; intro a hA
    refine LQ ?_
    refine TN ?_
    refine wp_seq ?_
    refine wp_region_lit ?_
    refine L1 (stv hA (by decide) (run_ld (hA.ev rfl) (run_loadW Try.isAgg24 Try.sizeOf24 (by simp [Pl.len]; try rfl) (hM.box .z))) ?_)
    clear hA; intro a hA
    refine L1 (stv hA (by decide) (run_move (hA.ev rfl)) ?_)
    clear hA; intro a hA
    obtain ⟨r1107, H1108, H⟩ := Option.bind_eq_some_iff.1 H
    refine L1 (st_call Try.call18 hA [(.agg #[(.slice A1100 r1095.Nodes.length c1101), (.int .i64 r1095.Best)]), (.int .i64 ((IntKind.i64.wrap n_1).tmod ((r1095.Nodes.length : Nat) : Int)))] rfl (by decide) (branch_Locator.calls _ _ _ _ _ _ _ ((RoV.mk (hM.rowC (p := pNode) (Ms := []) (.s .z)) (RowOk.len (hM.row (p := pNode) (.s .z))) (RowOk.cap (hM.row (p := pNode) (.s .z))))) (hM.front (Ms := [])) H1108) ?_)
    clear hA; rintro _ w1109 ⟨v1110, rfl, hMc⟩ a hA
    have hE := hMc.below; have hM := hM.call (Ms := []) hMc
    clear hMc; simp only [List.cons_append, List.nil_append] at hM
    obtain ⟨A1112, c1113, rfl⟩ := RowOk.form (hM.row (p := pHash) .z)
    refine L1 (stv hA (by decide) (run_assign (hA.ev rfl)) ?_)
    clear hA; intro a hA
    refine LQ ?_
    refine TN ?_
    refine wp_seq ?_
    refine wp_seq ?_
    obtain ⟨o1145, H1144, H⟩ := Option.bind_eq_some_iff.1 H
    refine cutC (fun a w => ∃ (t1143 : Bool), t1143 = o1145 ∧ Mem F w0 w [.box g1102 24 [(.slice A1100 r1095.Nodes.length c1101), (.int .i64 r1095.Best)], .row 46 pNode.sz (.slice A1100 r1095.Nodes.length c1101) (pNode.flat r1095.Nodes), .row 38 pHash.sz (.slice A1112 r1107.length c1113) (pHash.flat r1107)] ∧ Has 98 [(5, (.pointer (some (⟨g1102, 0, none⟩)))), (6, (.int .i64 ((IntKind.i64.wrap n_1).tmod ((r1095.Nodes.length : Nat) : Int)))), (7, (.slice A1112 r1107.length c1113)), (59, (.bool t1143))] a) ?_ ?_
    · refine draw (fun w' => Below w1109.heap.size w1109 w') [] rfl ?_
      intro w1146 hw hS; replace hM := hM.ext hS; clear hw
      refine d_takef (i := 0) (L' := #[true, false, false, false, false, false, false, false, false, false, false, false, false, false, false, false, false, false, false, false, false, false, false, false, false, false, false, false, false, false, false, false, false, false]) rfl (by kernel_rfl) rfl (fun _ _ _ h => h) hA (by decide) (fun _ => hS) (fun a w' hA => run_move (hA.ev rfl)) ?_; clear hA; intro a hA
      refine d_takef (i := 1) (L' := #[true, true, false, false, false, false, false, false, false, false, false, false, false, false, false, false, false, false, false, false, false, false, false, false, false, false, false, false, false, false, false, false, false, false]) rfl (by kernel_rfl) rfl (fun _ _ _ h => h) hA (by decide) (fun _ => hS) (fun a w' hA => run_len_slice Try.underlying35 (hA.ev rfl)) ?_; clear hA; intro a hA
      refine d_takef (i := 2) (L' := #[true, true, true, false, false, false, false, false, false, false, false, false, false, false, false, false, false, false, false, false, false, false, false, false, false, false, false, false, false, false, false, false, false, false]) rfl (by kernel_rfl) rfl (fun _ _ _ h => h) hA (by decide) (fun _ => hS) (fun a w' hA => run_bin (hA.ev rfl) (hA.ev rfl) (bin_eql _ _ _ _)) ?_; clear hA; intro a hA
      refine d_takef (i := 3) (L' := #[true, true, true, true, false, false, false, false, false, false, false, false, false, false, false, false, false, false, false, false, false, false, false, false, false, false, false, false, false, false, false, false, false, false]) rfl (by kernel_rfl) rfl (fun _ _ _ h => h) hA (by decide) (fun _ => hS) (fun a w' hA => run_move (hA.ev rfl)) ?_; clear hA; intro a hA
      refine bsplit (b := (((r1107.length : Nat) : Int) == 0)) (fun hb1148 => ?_) (fun hb1148 => ?_)
      · replace H1144 := ite_t hb1148 H1144
        have hA := hA.re (t := 29) rfl (congrArg Value.bool hb1148)
        refine d_skip (i := 4) (L' := #[true, true, true, true, true, false, false, false, false, false, false, false, false, false, false, false, false, false, false, false, false, false, false, false, false, false, false, false, false, false, false, false, false, false]) rfl (by kernel_rfl) rfl (fun _ _ _ h => h) rfl hA (by decide) (by decide) rfl rfl (fun _ => hS) ?_; clear hA; intro a hA
        refine d_skip (i := 5) (L' := #[true, true, true, true, true, true, false, false, false, false, false, false, false, false, false, false, false, false, false, false, false, false, false, false, false, false, false, false, false, false, false, false, false, false]) rfl (by kernel_rfl) rfl (fun _ _ _ h => h) rfl hA (by decide) (by decide) rfl rfl (fun _ => hS) ?_; clear hA; intro a hA
        refine d_skip (i := 6) (L' := #[true, true, true, true, true, true, true, false, false, false, false, false, false, false, false, false, false, false, false, false, false, false, false, false, false, false, false, false, false, false, false, false, false, false]) rfl (by kernel_rfl) rfl (fun _ _ _ h => h) rfl hA (by decide) (by decide) rfl rfl (fun _ => hS) ?_; clear hA; intro a hA
        refine d_takef (i := 7) (L' := #[true, true, true, true, true, true, true, true, false, false, false, false, false, false, false, false, false, false, false, false, false, false, false, false, false, false, false, false, false, false, false, false, false, false]) rfl (by kernel_rfl) rfl (fun _ _ _ h => h) hA (by decide) (fun _ => hS) (fun a w' hA => run_pick (hA.ev rfl) (fun _ => hA.ev rfl) (fun h => Bool.noConfusion h)) ?_; clear hA; intro a hA
        refine d_takef (i := 8) (L' := #[true, true, true, true, true, true, true, true, true, false, false, false, false, false, false, false, false, false, false, false, false, false, false, false, false, false, false, false, false, false, false, false, false, false]) rfl (by kernel_rfl) rfl (fun _ _ _ h => h) hA (by decide) (fun _ => hS) (fun a w' hA => run_move (hA.ev rfl)) ?_; clear hA; intro a hA
        refine d_skip (i := 9) (L' := #[true, true, true, true, true, true, true, true, true, true, false, false, false, false, false, false, false, false, false, false, false, false, false, false, false, false, false, false, false, false, false, false, false, false]) rfl (by kernel_rfl) rfl (fun _ _ _ h => h) rfl hA (by decide) (by decide) rfl rfl (fun _ => hS) ?_; clear hA; intro a hA
        refine d_skip (i := 10) (L' := #[true, true, true, true, true, true, true, true, true, true, true, false, false, false, false, false, false, false, false, false, false, false, false, false, false, false, false, false, false, false, false, false, false, false]) rfl (by kernel_rfl) rfl (fun _ _ _ h => h) rfl hA (by decide) (by decide) rfl rfl (fun _ => hS) ?_; clear hA; intro a hA
        refine d_skip (i := 11) (L' := #[true, true, true, true, true, true, true, true, true, true, true, true, false, false, false, false, false, false, false, false, false, false, false, false, false, false, false, false, false, false, false, false, false, false]) rfl (by kernel_rfl) rfl (fun _ _ _ h => h) rfl hA (by decide) (by decide) rfl rfl (fun _ => hS) ?_; clear hA; intro a hA
        refine d_skip (i := 12) (L' := #[true, true, true, true, true, true, true, true, true, true, true, true, true, false, false, false, false, false, false, false, false, false, false, false, false, false, false, false, false, false, false, false, false, false]) rfl (by kernel_rfl) rfl (fun _ _ _ h => h) rfl hA (by decide) (by decide) rfl rfl (fun _ => hS) ?_; clear hA; intro a hA
        refine d_skip (i := 13) (L' := #[true, true, true, true, true, true, true, true, true, true, true, true, true, true, false, false, false, false, false, false, false, false, false, false, false, false, false, false, false, false, false, false, false, false]) rfl (by kernel_rfl) rfl (fun _ _ _ h => h) rfl hA (by decide) (by decide) rfl rfl (fun _ => hS) ?_; clear hA; intro a hA
        refine d_skip (i := 14) (L' := #[true, true, true, true, true, true, true, true, true, true, true, true, true, true, true, false, false, false, false, false, false, false, false, false, false, false, false, false, false, false, false, false, false, false]) rfl (by kernel_rfl) rfl (fun _ _ _ h => h) rfl hA (by decide) (by decide) rfl rfl (fun _ => hS) ?_; clear hA; intro a hA
        refine d_skip (i := 15) (L' := #[true, true, true, true, true, true, true, true, true, true, true, true, true, true, true, true, false, false, false, false, false, false, false, false, false, false, false, false, false, false, false, false, false, false]) rfl (by kernel_rfl) rfl (fun _ _ _ h => h) rfl hA (by decide) (by decide) rfl rfl (fun _ => hS) ?_; clear hA; intro a hA
        refine d_skip (i := 16) (L' := #[true, true, true, true, true, true, true, true, true, true, true, true, true, true, true, true, true, false, false, false, false, false, false, false, false, false, false, false, false, false, false, false, false, false]) rfl (by kernel_rfl) rfl (fun _ _ _ h => h) rfl hA (by decide) (by decide) rfl rfl (fun _ => hS) ?_; clear hA; intro a hA
        refine d_skip (i := 17) (L' := #[true, true, true, true, true, true, true, true, true, true, true, true, true, true, true, true, true, true, false, false, false, false, false, false, false, false, false, false, false, false, false, false, false, false]) rfl (by kernel_rfl) rfl (fun _ _ _ h => h) rfl hA (by decide) (by decide) rfl rfl (fun _ => hS) ?_; clear hA; intro a hA
        refine d_skip (i := 18) (L' := #[true, true, true, true, true, true, true, true, true, true, true, true, true, true, true, true, true, true, true, false, false, false, false, false, false, false, false, false, false, false, false, false, false, false]) rfl (by kernel_rfl) rfl (fun _ _ _ h => h) rfl hA (by decide) (by decide) rfl rfl (fun _ => hS) ?_; clear hA; intro a hA
        refine d_takef (i := 19) (L' := #[true, true, true, true, true, true, true, true, true, true, true, true, true, true, true, true, true, true, true, true, false, false, false, false, false, false, false, false, false, false, false, false, false, false]) rfl (by kernel_rfl) rfl (fun _ _ _ h => h) hA (by decide) (fun _ => hS) (fun a w' hA => run_pick (hA.ev rfl) (fun _ => hA.ev rfl) (fun h => Bool.noConfusion h)) ?_; clear hA; intro a hA
        refine d_takef (i := 20) (L' := #[true, true, true, true, true, true, true, true, true, true, true, true, true, true, true, true, true, true, true, true, true, false, false, false, false, false, false, false, false, false, false, false, false, false]) rfl (by kernel_rfl) rfl (fun _ _ _ h => h) hA (by decide) (fun _ => hS) (fun a w' hA => run_move (hA.ev rfl)) ?_; clear hA; intro a hA
        refine d_skip (i := 21) (L' := #[true, true, true, true, true, true, true, true, true, true, true, true, true, true, true, true, true, true, true, true, true, true, false, false, false, false, false, false, false, false, false, false, false, false]) rfl (by kernel_rfl) rfl (fun _ _ _ h => h) rfl hA (by decide) (by decide) rfl rfl (fun _ => hS) ?_; clear hA; intro a hA
        refine d_skip (i := 22) (L' := #[true, true, true, true, true, true, true, true, true, true, true, true, true, true, true, true, true, true, true, true, true, true, true, false, false, false, false, false, false, false, false, false, false, false]) rfl (by kernel_rfl) rfl (fun _ _ _ h => h) rfl hA (by decide) (by decide) rfl rfl (fun _ => hS) ?_; clear hA; intro a hA
        refine d_skip (i := 23) (L' := #[true, true, true, true, true, true, true, true, true, true, true, true, true, true, true, true, true, true, true, true, true, true, true, true, false, false, false, false, false, false, false, false, false, false]) rfl (by kernel_rfl) rfl (fun _ _ _ h => h) rfl hA (by decide) (by decide) rfl rfl (fun _ => hS) ?_; clear hA; intro a hA
        refine d_skip (i := 24) (L' := #[true, true, true, true, true, true, true, true, true, true, true, true, true, true, true, true, true, true, true, true, true, true, true, true, true, false, false, false, false, false, false, false, false, false]) rfl (by kernel_rfl) rfl (fun _ _ _ h => h) rfl hA (by decide) (by decide) rfl rfl (fun _ => hS) ?_; clear hA; intro a hA
        refine d_skip (i := 25) (L' := #[true, true, true, true, true, true, true, true, true, true, true, true, true, true, true, true, true, true, true, true, true, true, true, true, true, true, false, false, false, false, false, false, false, false]) rfl (by kernel_rfl) rfl (fun _ _ _ h => h) rfl hA (by decide) (by decide) rfl rfl (fun _ => hS) ?_; clear hA; intro a hA
        refine d_skip (i := 26) (L' := #[true, true, true, true, true, true, true, true, true, true, true, true, true, true, true, true, true, true, true, true, true, true, true, true, true, true, true, false, false, false, false, false, false, false]) rfl (by kernel_rfl) rfl (fun _ _ _ h => h) rfl hA (by decide) (by decide) rfl rfl (fun _ => hS) ?_; clear hA; intro a hA
        refine d_skip (i := 27) (L' := #[true, true, true, true, true, true, true, true, true, true, true, true, true, true, true, true, true, true, true, true, true, true, true, true, true, true, true, true, false, false, false, false, false, false]) rfl (by kernel_rfl) rfl (fun _ _ _ h => h) rfl hA (by decide) (by decide) rfl rfl (fun _ => hS) ?_; clear hA; intro a hA
        refine d_skip (i := 28) (L' := #[true, true, true, true, true, true, true, true, true, true, true, true, true, true, true, true, true, true, true, true, true, true, true, true, true, true, true, true, true, false, false, false, false, false]) rfl (by kernel_rfl) rfl (fun _ _ _ h => h) rfl hA (by decide) (by decide) rfl rfl (fun _ => hS) ?_; clear hA; intro a hA
        refine d_skip (i := 29) (L' := #[true, true, true, true, true, true, true, true, true, true, true, true, true, true, true, true, true, true, true, true, true, true, true, true, true, true, true, true, true, true, false, false, false, false]) rfl (by kernel_rfl) rfl (fun _ _ _ h => h) rfl hA (by decide) (by decide) rfl rfl (fun _ => hS) ?_; clear hA; intro a hA
        refine d_skip (i := 30) (L' := #[true, true, true, true, true, true, true, true, true, true, true, true, true, true, true, true, true, true, true, true, true, true, true, true, true, true, true, true, true, true, true, false, false, false]) rfl (by kernel_rfl) rfl (fun _ _ _ h => h) rfl hA (by decide) (by decide) rfl rfl (fun _ => hS) ?_; clear hA; intro a hA
        refine d_skip (i := 31) (L' := #[true, true, true, true, true, true, true, true, true, true, true, true, true, true, true, true, true, true, true, true, true, true, true, true, true, true, true, true, true, true, true, true, false, false]) rfl (by kernel_rfl) rfl (fun _ _ _ h => h) rfl hA (by decide) (by decide) rfl rfl (fun _ => hS) ?_; clear hA; intro a hA
        refine d_skip (i := 32) (L' := #[true, true, true, true, true, true, true, true, true, true, true, true, true, true, true, true, true, true, true, true, true, true, true, true, true, true, true, true, true, true, true, true, true, false]) rfl (by kernel_rfl) rfl (fun _ _ _ h => h) rfl hA (by decide) (by decide) rfl rfl (fun _ => hS) ?_; clear hA; intro a hA
        refine d_takef (i := 33) (L' := #[true, true, true, true, true, true, true, true, true, true, true, true, true, true, true, true, true, true, true, true, true, true, true, true, true, true, true, true, true, true, true, true, true, true]) rfl (by kernel_rfl) rfl (fun _ _ _ h => h) hA (by decide) (fun _ => hS) (fun a w' hA => run_pick (hA.ev rfl) (fun _ => hA.ev rfl) (fun h => Bool.noConfusion h)) ?_; clear hA; intro a hA
        refine d_done (by kernel_rfl) ?_
        exact ⟨true, Option.some.inj H1144, (hM.sel [1, 2, 0] rfl (by decide)), ((((hA.nil.cons (hA.get 59 _ rfl)).cons (hA.get 7 _ rfl)).cons (hA.get 6 _ rfl)).cons (hA.get 5 _ rfl))⟩
      · replace H1144 := ite_f hb1148 H1144
        have hA := hA.re (t := 29) rfl (congrArg Value.bool hb1148)
        refine d_takegf (i := 4) (L' := #[true, true, true, true, true, false, false, false, false, false, false, false, false, false, false, false, false, false, false, false, false, false, false, false, false, false, false, false, false, false, false, false, false, false]) rfl (by kernel_rfl) rfl (fun _ _ _ h => h) rfl hA (by decide) (by decide) rfl (fun _ => hS) (fun a w' hA => run_move (hA.ev rfl)) ?_; clear hA; intro a hA
        refine d_takegf (i := 5) (L' := #[true, true, true, true, true, true, false, false, false, false, false, false, false, false, false, false, false, false, false, false, false, false, false, false, false, false, false, false, false, false, false, false, false, false]) rfl (by kernel_rfl) rfl (fun _ _ _ h => h) rfl hA (by decide) (by decide) rfl (fun _ => hS) (fun a w' hA => run_len_slice Try.underlying35 (hA.ev rfl)) ?_; clear hA; intro a hA
        refine d_takegf (i := 6) (L' := #[true, true, true, true, true, true, true, false, false, false, false, false, false, false, false, false, false, false, false, false, false, false, false, false, false, false, false, false, false, false, false, false, false, false]) rfl (by kernel_rfl) rfl (fun _ _ _ h => h) rfl hA (by decide) (by decide) rfl (fun _ => hS) (fun a w' hA => run_bin (hA.ev rfl) (hA.ev rfl) (bin_gtr _ _ _ _)) ?_; clear hA; intro a hA
        refine d_takef (i := 7) (L' := #[true, true, true, true, true, true, true, true, false, false, false, false, false, false, false, false, false, false, false, false, false, false, false, false, false, false, false, false, false, false, false, false, false, false]) rfl (by kernel_rfl) rfl (fun _ _ _ h => h) hA (by decide) (fun _ => hS) (fun a w' hA => run_pick (hA.ev rfl) (fun h => Bool.noConfusion h) (fun _ => hA.ev rfl)) ?_; clear hA; intro a hA
        refine d_takef (i := 8) (L' := #[true, true, true, true, true, true, true, true, true, false, false, false, false, false, false, false, false, false, false, false, false, false, false, false, false, false, false, false, false, false, false, false, false, false]) rfl (by kernel_rfl) rfl (fun _ _ _ h => h) hA (by decide) (fun _ => hS) (fun a w' hA => run_move (hA.ev rfl)) ?_; clear hA; intro a hA
        refine bsplit (b := (decide (((r1107.length : Nat) : Int) > 18))) (fun hb1149 => ?_) (fun hb1149 => ?_)
        · replace H1144 := ite_t hb1149 H1144
          have hA := hA.re (t := 34) rfl (congrArg Value.bool hb1149)
          refine d_skip (i := 9) (L' := #[true, true, true, true, true, true, true, true, true, true, false, false, false, false, false, false, false, false, false, false, false, false, false, false, false, false, false, false, false, false, false, false, false, false]) rfl (by kernel_rfl) rfl (fun _ _ _ h => h) rfl hA (by decide) (by decide) rfl rfl (fun _ => hS) ?_; clear hA; intro a hA
          refine d_skip (i := 10) (L' := #[true, true, true, true, true, true, true, true, true, true, true, false, false, false, false, false, false, false, false, false, false, false, false, false, false, false, false, false, false, false, false, false, false, false]) rfl (by kernel_rfl) rfl (fun _ _ _ h => h) rfl hA (by decide) (by decide) rfl rfl (fun _ => hS) ?_; clear hA; intro a hA
          refine d_skip (i := 11) (L' := #[true, true, true, true, true, true, true, true, true, true, true, true, false, false, false, false, false, false, false, false, false, false, false, false, false, false, false, false, false, false, false, false, false, false]) rfl (by kernel_rfl) rfl (fun _ _ _ h => h) rfl hA (by decide) (by decide) rfl rfl (fun _ => hS) ?_; clear hA; intro a hA
          refine d_skip (i := 12) (L' := #[true, true, true, true, true, true, true, true, true, true, true, true, true, false, false, false, false, false, false, false, false, false, false, false, false, false, false, false, false, false, false, false, false, false]) rfl (by kernel_rfl) rfl (fun _ _ _ h => h) rfl hA (by decide) (by decide) rfl rfl (fun _ => hS) ?_; clear hA; intro a hA
          refine d_skip (i := 13) (L' := #[true, true, true, true, true, true, true, true, true, true, true, true, true, true, false, false, false, false, false, false, false, false, false, false, false, false, false, false, false, false, false, false, false, false]) rfl (by kernel_rfl) rfl (fun _ _ _ h => h) rfl hA (by decide) (by decide) rfl rfl (fun _ => hS) ?_; clear hA; intro a hA
          refine d_skip (i := 14) (L' := #[true, true, true, true, true, true, true, true, true, true, true, true, true, true, true, false, false, false, false, false, false, false, false, false, false, false, false, false, false, false, false, false, false, false]) rfl (by kernel_rfl) rfl (fun _ _ _ h => h) rfl hA (by decide) (by decide) rfl rfl (fun _ => hS) ?_; clear hA; intro a hA
          refine d_skip (i := 15) (L' := #[true, true, true, true, true, true, true, true, true, true, true, true, true, true, true, true, false, false, false, false, false, false, false, false, false, false, false, false, false, false, false, false, false, false]) rfl (by kernel_rfl) rfl (fun _ _ _ h => h) rfl hA (by decide) (by decide) rfl rfl (fun _ => hS) ?_; clear hA; intro a hA
          refine d_skip (i := 16) (L' := #[true, true, true, true, true, true, true, true, true, true, true, true, true, true, true, true, true, false, false, false, false, false, false, false, false, false, false, false, false, false, false, false, false, false]) rfl (by kernel_rfl) rfl (fun _ _ _ h => h) rfl hA (by decide) (by decide) rfl rfl (fun _ => hS) ?_; clear hA; intro a hA
          refine d_skip (i := 17) (L' := #[true, true, true, true, true, true, true, true, true, true, true, true, true, true, true, true, true, true, false, false, false, false, false, false, false, false, false, false, false, false, false, false, false, false]) rfl (by kernel_rfl) rfl (fun _ _ _ h => h) rfl hA (by decide) (by decide) rfl rfl (fun _ => hS) ?_; clear hA; intro a hA
          refine d_skip (i := 18) (L' := #[true, true, true, true, true, true, true, true, true, true, true, true, true, true, true, true, true, true, true, false, false, false, false, false, false, false, false, false, false, false, false, false, false, false]) rfl (by kernel_rfl) rfl (fun _ _ _ h => h) rfl hA (by decide) (by decide) rfl rfl (fun _ => hS) ?_; clear hA; intro a hA
          refine d_takef (i := 19) (L' := #[true, true, true, true, true, true, true, true, true, true, true, true, true, true, true, true, true, true, true, true, false, false, false, false, false, false, false, false, false, false, false, false, false, false]) rfl (by kernel_rfl) rfl (fun _ _ _ h => h) hA (by decide) (fun _ => hS) (fun a w' hA => run_pick (hA.ev rfl) (fun _ => hA.ev rfl) (fun h => Bool.noConfusion h)) ?_; clear hA; intro a hA
          refine d_takef (i := 20) (L' := #[true, true, true, true, true, true, true, true, true, true, true, true, true, true, true, true, true, true, true, true, true, false, false, false, false, false, false, false, false, false, false, false, false, false]) rfl (by kernel_rfl) rfl (fun _ _ _ h => h) hA (by decide) (fun _ => hS) (fun a w' hA => run_move (hA.ev rfl)) ?_; clear hA; intro a hA
          refine d_skip (i := 21) (L' := #[true, true, true, true, true, true, true, true, true, true, true, true, true, true, true, true, true, true, true, true, true, true, false, false, false, false, false, false, false, false, false, false, false, false]) rfl (by kernel_rfl) rfl (fun _ _ _ h => h) rfl hA (by decide) (by decide) rfl rfl (fun _ => hS) ?_; clear hA; intro a hA
          refine d_skip (i := 22) (L' := #[true, true, true, true, true, true, true, true, true, true, true, true, true, true, true, true, true, true, true, true, true, true, true, false, false, false, false, false, false, false, false, false, false, false]) rfl (by kernel_rfl) rfl (fun _ _ _ h => h) rfl hA (by decide) (by decide) rfl rfl (fun _ => hS) ?_; clear hA; intro a hA
          refine d_skip (i := 23) (L' := #[true, true, true, true, true, true, true, true, true, true, true, true, true, true, true, true, true, true, true, true, true, true, true, true, false, false, false, false, false, false, false, false, false, false]) rfl (by kernel_rfl) rfl (fun _ _ _ h => h) rfl hA (by decide) (by decide) rfl rfl (fun _ => hS) ?_; clear hA; intro a hA
          refine d_skip (i := 24) (L' := #[true, true, true, true, true, true, true, true, true, true, true, true, true, true, true, true, true, true, true, true, true, true, true, true, true, false, false, false, false, false, false, false, false, false]) rfl (by kernel_rfl) rfl (fun _ _ _ h => h) rfl hA (by decide) (by decide) rfl rfl (fun _ => hS) ?_; clear hA; intro a hA
          refine d_skip (i := 25) (L' := #[true, true, true, true, true, true, true, true, true, true, true, true, true, true, true, true, true, true, true, true, true, true, true, true, true, true, false, false, false, false, false, false, false, false]) rfl (by kernel_rfl) rfl (fun _ _ _ h => h) rfl hA (by decide) (by decide) rfl rfl (fun _ => hS) ?_; clear hA; intro a hA
          refine d_skip (i := 26) (L' := #[true, true, true, true, true, true, true, true, true, true, true, true, true, true, true, true, true, true, true, true, true, true, true, true, true, true, true, false, false, false, false, false, false, false]) rfl (by kernel_rfl) rfl (fun _ _ _ h => h) rfl hA (by decide) (by decide) rfl rfl (fun _ => hS) ?_; clear hA; intro a hA
          refine d_skip (i := 27) (L' := #[true, true, true, true, true, true, true, true, true, true, true, true, true, true, true, true, true, true, true, true, true, true, true, true, true, true, true, true, false, false, false, false, false, false]) rfl (by kernel_rfl) rfl (fun _ _ _ h => h) rfl hA (by decide) (by decide) rfl rfl (fun _ => hS) ?_; clear hA; intro a hA
          refine d_skip (i := 28) (L' := #[true, true, true, true, true, true, true, true, true, true, true, true, true, true, true, true, true, true, true, true, true, true, true, true, true, true, true, true, true, false, false, false, false, false]) rfl (by kernel_rfl) rfl (fun _ _ _ h => h) rfl hA (by decide) (by decide) rfl rfl (fun _ => hS) ?_; clear hA; intro a hA
          refine d_skip (i := 29) (L' := #[true, true, true, true, true, true, true, true, true, true, true, true, true, true, true, true, true, true, true, true, true, true, true, true, true, true, true, true, true, true, false, false, false, false]) rfl (by kernel_rfl) rfl (fun _ _ _ h => h) rfl hA (by decide) (by decide) rfl rfl (fun _ => hS) ?_; clear hA; intro a hA
          refine d_skip (i := 30) (L' := #[true, true, true, true, true, true, true, true, true, true, true, true, true, true, true, true, true, true, true, true, true, true, true, true, true, true, true, true, true, true, true, false, false, false]) rfl (by kernel_rfl) rfl (fun _ _ _ h => h) rfl hA (by decide) (by decide) rfl rfl (fun _ => hS) ?_; clear hA; intro a hA
          refine d_skip (i := 31) (L' := #[true, true, true, true, true, true, true, true, true, true, true, true, true, true, true, true, true, true, true, true, true, true, true, true, true, true, true, true, true, true, true, true, false, false]) rfl (by kernel_rfl) rfl (fun _ _ _ h => h) rfl hA (by decide) (by decide) rfl rfl (fun _ => hS) ?_; clear hA; intro a hA
          refine d_skip (i := 32) (L' := #[true, true, true, true, true, true, true, true, true, true, true, true, true, true, true, true, true, true, true, true, true, true, true, true, true, true, true, true, true, true, true, true, true, false]) rfl (by kernel_rfl) rfl (fun _ _ _ h => h) rfl hA (by decide) (by decide) rfl rfl (fun _ => hS) ?_; clear hA; intro a hA
          refine d_takef (i := 33) (L' := #[true, true, true, true, true, true, true, true, true, true, true, true, true, true, true, true, true, true, true, true, true, true, true, true, true, true, true, true, true, true, true, true, true, true]) rfl (by kernel_rfl) rfl (fun _ _ _ h => h) hA (by decide) (fun _ => hS) (fun a w' hA => run_pick (hA.ev rfl) (fun _ => hA.ev rfl) (fun h => Bool.noConfusion h)) ?_; clear hA; intro a hA
          refine d_done (by kernel_rfl) ?_
          exact ⟨true, Option.some.inj H1144, (hM.sel [1, 2, 0] rfl (by decide)), ((((hA.nil.cons (hA.get 59 _ rfl)).cons (hA.get 7 _ rfl)).cons (hA.get 6 _ rfl)).cons (hA.get 5 _ rfl))⟩
        · replace H1144 := ite_f hb1149 H1144
          have hA := hA.re (t := 34) rfl (congrArg Value.bool hb1149)
          refine d_takegf (i := 9) (L' := #[true, true, true, true, true, true, true, true, true, true, false, false, false, false, false, false, false, false, false, false, false, false, false, false, false, false, false, false, false, false, false, false, false, false]) rfl (by kernel_rfl) rfl (fun _ _ _ h => h) rfl hA (by decide) (by decide) rfl (fun _ => hS) (fun a w' hA => run_move (hA.ev rfl)) ?_; clear hA; intro a hA
          obtain ⟨⟨hi1150, hj1151⟩, H1144⟩ := ite_some H1144
          obtain ⟨ad1152, hq1153, hat1154⟩ := Row.elem' (p := pHash) (RowOk.row (hM.row (p := pHash) .z)) (RowOk.len (hM.row (p := pHash) .z)) (Vector.replicate 32 0 : Vector Int 32) (0 : Int) hi1150 hj1151
          refine d_takegf (i := 10) (L' := #[true, true, true, true, true, true, true, true, true, true, true, false, false, false, false, false, false, false, false, false, false, false, false, false, false, false, false, false, false, false, false, false, false, false]) rfl (by kernel_rfl) rfl (fun _ _ _ h => h) rfl hA (by decide) (by decide) rfl (fun _ => hS) (fun a w' hA => run_idx Try.underlying35 Try.sizeOf38 (hA.ev rfl) hq1153 (hA.ev rfl) hi1150 hj1151) ?_; clear hA; intro a hA
          refine rebase hS ?_; clear hS; intro hS
          refine d_takeg (i := 11) (L' := #[true, true, true, true, true, true, true, true, true, true, true, true, false, false, false, false, false, false, false, false, false, false, false, false, false, false, false, false, false, false, false, false, false, false]) rfl (by kernel_rfl) rfl (fun _ _ _ h => h) rfl hA (by decide) (by decide) rfl rfl hS (fun a w' hA hS' => run_ld (hA.ev rfl) (run_loadP Try.isAgg38 Try.sizeOf38 ((hat1154).extB hS'))) ?_; clear hA; intro a hA
          refine d_takegf (i := 12) (L' := #[true, true, true, true, true, true, true, true, true, true, true, true, true, false, false, false, false, false, false, false, false, false, false, false, false, false, false, false, false, false, false, false, false, false]) rfl (by kernel_rfl) rfl (fun _ _ _ h => h) rfl hA (by decide) (by decide) rfl (fun _ => hS) (fun a w' hA => run_field' Try.underlying24 rfl rfl Try.sizeOf22 (by decide) (hA.ev rfl)) ?_; clear hA; intro a hA
          refine d_takeg (i := 13) (L' := #[true, true, true, true, true, true, true, true, true, true, true, true, true, true, false, false, false, false, false, false, false, false, false, false, false, false, false, false, false, false, false, false, false, false]) rfl (by kernel_rfl) rfl (fun _ _ _ h => h) rfl hA (by decide) (by decide) rfl rfl hS (fun a w' hA hS' => run_ld (hA.ev rfl) (run_loadS Try.isAgg22 ((At.seg1 (hM.box (.s .z)) 0 rfl).extB hS'))) ?_; clear hA; intro a hA
          refine d_takegf (i := 14) (L' := #[true, true, true, true, true, true, true, true, true, true, true, true, true, true, true, false, false, false, false, false, false, false, false, false, false, false, false, false, false, false, false, false, false, false]) rfl (by kernel_rfl) rfl (fun _ _ _ h => h) rfl hA (by decide) (by decide) rfl (fun _ => hS) (fun a w' hA => run_move (hA.ev rfl)) ?_; clear hA; intro a hA
          obtain ⟨⟨hi1155, hj1156⟩, H1144⟩ := ite_some H1144
          obtain ⟨ad1157, hq1158, hat1159⟩ := Row.elem' (p := pNode) (RowOk.row (hM.row (p := pNode) (.s (.s .z)))) (RowOk.len (hM.row (p := pNode) (.s (.s .z)))) Node.z ((IntKind.i64.wrap n_1).tmod ((r1095.Nodes.length : Nat) : Int)) hi1155 hj1156
          refine d_takegf (i := 15) (L' := #[true, true, true, true, true, true, true, true, true, true, true, true, true, true, true, true, false, false, false, false, false, false, false, false, false, false, false, false, false, false, false, false, false, false]) rfl (by kernel_rfl) rfl (fun _ _ _ h => h) rfl hA (by decide) (by decide) rfl (fun _ => hS) (fun a w' hA => run_idx Try.underlying22 Try.sizeOf46 (hA.ev rfl) hq1158 (hA.ev rfl) hi1155 hj1156) ?_; clear hA; intro a hA
          refine d_takegf (i := 16) (L' := #[true, true, true, true, true, true, true, true, true, true, true, true, true, true, true, true, true, false, false, false, false, false, false, false, false, false, false, false, false, false, false, false, false, false]) rfl (by kernel_rfl) rfl (fun _ _ _ h => h) rfl hA (by decide) (by decide) rfl (fun _ => hS) (fun a w' hA => run_field' Try.underlying46 rfl rfl Try.sizeOf38 (by decide) (hA.ev rfl)) ?_; clear hA; intro a hA
          refine d_takeg (i := 17) (L' := #[true, true, true, true, true, true, true, true, true, true, true, true, true, true, true, true, true, true, false, false, false, false, false, false, false, false, false, false, false, false, false, false, false, false]) rfl (by kernel_rfl) rfl (fun _ _ _ h => h) rfl hA (by decide) (by decide) rfl rfl hS (fun a w' hA hS' => run_ld (hA.ev rfl) (run_loadP Try.isAgg38 Try.sizeOf38 ((Node.at_Hash (hat1159)).extB hS'))) ?_; clear hA; intro a hA
          refine d_takegf (i := 18) (L' := #[true, true, true, true, true, true, true, true, true, true, true, true, true, true, true, true, true, true, true, false, false, false, false, false, false, false, false, false, false, false, false, false, false, false]) rfl (by kernel_rfl) rfl (fun _ _ _ h => h) rfl hA (by decide) (by decide) rfl (fun _ => hS) (fun a w' hA => run_aggneq eq_Hash rfl (by kernel_rfl) (hA.ev rfl) (hA.ev rfl)) ?_; clear hA; intro a hA
          refine d_takef (i := 19) (L' := #[true, true, true, true, true, true, true, true, true, true, true, true, true, true, true, true, true, true, true, true, false, false, false, false, false, false, false, false, false, false, false, false, false, false]) rfl (by kernel_rfl) rfl (fun _ _ _ h => h) hA (by decide) (fun _ => hS) (fun a w' hA => run_pick (hA.ev rfl) (fun h => Bool.noConfusion h) (fun _ => hA.ev rfl)) ?_; clear hA; intro a hA
          refine d_takef (i := 20) (L' := #[true, true, true, true, true, true, true, true, true, true, true, true, true, true, true, true, true, true, true, true, true, false, false, false, false, false, false, false, false, false, false, false, false, false]) rfl (by kernel_rfl) rfl (fun _ _ _ h => h) hA (by decide) (fun _ => hS) (fun a w' hA => run_move (hA.ev rfl)) ?_; clear hA; intro a hA
          refine bsplit (b := (!((r1107.getD (0 : Int).toNat (Vector.replicate 32 0 : Vector Int 32)) == ((r1095.Nodes.getD ((IntKind.i64.wrap n_1).tmod ((r1095.Nodes.length : Nat) : Int)).toNat Node.z).Hash)))) (fun hb1160 => ?_) (fun hb1160 => ?_)
          · replace H1144 := ite_t hb1160 H1144
            have hA := hA.re (t := 46) rfl (congrArg Value.bool hb1160)
            refine d_skip (i := 21) (L' := #[true, true, true, true, true, true, true, true, true, true, true, true, true, true, true, true, true, true, true, true, true, true, false, false, false, false, false, false, false, false, false, false, false, false]) rfl (by kernel_rfl) rfl (fun _ _ _ h => h) rfl hA (by decide) (by decide) rfl rfl (fun _ => hS) ?_; clear hA; intro a hA
            refine d_skip (i := 22) (L' := #[true, true, true, true, true, true, true, true, true, true, true, true, true, true, true, true, true, true, true, true, true, true, true, false, false, false, false, false, false, false, false, false, false, false]) rfl (by kernel_rfl) rfl (fun _ _ _ h => h) rfl hA (by decide) (by decide) rfl rfl (fun _ => hS) ?_; clear hA; intro a hA
            refine d_skip (i := 23) (L' := #[true, true, true, true, true, true, true, true, true, true, true, true, true, true, true, true, true, true, true, true, true, true, true, true, false, false, false, false, false, false, false, false, false, false]) rfl (by kernel_rfl) rfl (fun _ _ _ h => h) rfl hA (by decide) (by decide) rfl rfl (fun _ => hS) ?_; clear hA; intro a hA
            refine d_skip (i := 24) (L' := #[true, true, true, true, true, true, true, true, true, true, true, true, true, true, true, true, true, true, true, true, true, true, true, true, true, false, false, false, false, false, false, false, false, false]) rfl (by kernel_rfl) rfl (fun _ _ _ h => h) rfl hA (by decide) (by decide) rfl rfl (fun _ => hS) ?_; clear hA; intro a hA
            refine d_skip (i := 25) (L' := #[true, true, true, true, true, true, true, true, true, true, true, true, true, true, true, true, true, true, true, true, true, true, true, true, true, true, false, false, false, false, false, false, false, false]) rfl (by kernel_rfl) rfl (fun _ _ _ h => h) rfl hA (by decide) (by decide) rfl rfl (fun _ => hS) ?_; clear hA; intro a hA
            refine d_skip (i := 26) (L' := #[true, true, true, true, true, true, true, true, true, true, true, true, true, true, true, true, true, true, true, true, true, true, true, true, true, true, true, false, false, false, false, false, false, false]) rfl (by kernel_rfl) rfl (fun _ _ _ h => h) rfl hA (by decide) (by decide) rfl rfl (fun _ => hS) ?_; clear hA; intro a hA
            refine d_skip (i := 27) (L' := #[true, true, true, true, true, true, true, true, true, true, true, true, true, true, true, true, true, true, true, true, true, true, true, true, true, true, true, true, false, false, false, false, false, false]) rfl (by kernel_rfl) rfl (fun _ _ _ h => h) rfl hA (by decide) (by decide) rfl rfl (fun _ => hS) ?_; clear hA; intro a hA
            refine d_skip (i := 28) (L' := #[true, true, true, true, true, true, true, true, true, true, true, true, true, true, true, true, true, true, true, true, true, true, true, true, true, true, true, true, true, false, false, false, false, false]) rfl (by kernel_rfl) rfl (fun _ _ _ h => h) rfl hA (by decide) (by decide) rfl rfl (fun _ => hS) ?_; clear hA; intro a hA
            refine d_skip (i := 29) (L' := #[true, true, true, true, true, true, true, true, true, true, true, true, true, true, true, true, true, true, true, true, true, true, true, true, true, true, true, true, true, true, false, false, false, false]) rfl (by kernel_rfl) rfl (fun _ _ _ h => h) rfl hA (by decide) (by decide) rfl rfl (fun _ => hS) ?_; clear hA; intro a hA
            refine d_skip (i := 30) (L' := #[true, true, true, true, true, true, true, true, true, true, true, true, true, true, true, true, true, true, true, true, true, true, true, true, true, true, true, true, true, true, true, false, false, false]) rfl (by kernel_rfl) rfl (fun _ _ _ h => h) rfl hA (by decide) (by decide) rfl rfl (fun _ => hS) ?_; clear hA; intro a hA
            refine d_skip (i := 31) (L' := #[true, true, true, true, true, true, true, true, true, true, true, true, true, true, true, true, true, true, true, true, true, true, true, true, true, true, true, true, true, true, true, true, false, false]) rfl (by kernel_rfl) rfl (fun _ _ _ h => h) rfl hA (by decide) (by decide) rfl rfl (fun _ => hS) ?_; clear hA; intro a hA
            refine d_skip (i := 32) (L' := #[true, true, true, true, true, true, true, true, true, true, true, true, true, true, true, true, true, true, true, true, true, true, true, true, true, true, true, true, true, true, true, true, true, false]) rfl (by kernel_rfl) rfl (fun _ _ _ h => h) rfl hA (by decide) (by decide) rfl rfl (fun _ => hS) ?_; clear hA; intro a hA
            refine d_takef (i := 33) (L' := #[true, true, true, true, true, true, true, true, true, true, true, true, true, true, true, true, true, true, true, true, true, true, true, true, true, true, true, true, true, true, true, true, true, true]) rfl (by kernel_rfl) rfl (fun _ _ _ h => h) hA (by decide) (fun _ => hS) (fun a w' hA => run_pick (hA.ev rfl) (fun _ => hA.ev rfl) (fun h => Bool.noConfusion h)) ?_; clear hA; intro a hA
            refine d_done (by kernel_rfl) ?_
            exact ⟨true, Option.some.inj H1144, (hM.sel [1, 2, 0] rfl (by decide)), ((((hA.nil.cons (hA.get 59 _ rfl)).cons (hA.get 7 _ rfl)).cons (hA.get 6 _ rfl)).cons (hA.get 5 _ rfl))⟩
          · replace H1144 := ite_f hb1160 H1144
            have hA := hA.re (t := 46) rfl (congrArg Value.bool hb1160)
            refine d_takegf (i := 21) (L' := #[true, true, true, true, true, true, true, true, true, true, true, true, true, true, true, true, true, true, true, true, true, true, false, false, false, false, false, false, false, false, false, false, false, false]) rfl (by kernel_rfl) rfl (fun _ _ _ h => h) rfl hA (by decide) (by decide) rfl (fun _ => hS) (fun a w' hA => run_move (hA.ev rfl)) ?_; clear hA; intro a hA
            refine d_takegf (i := 22) (L' := #[true, true, true, true, true, true, true, true, true, true, true, true, true, true, true, true, true, true, true, true, true, true, true, false, false, false, false, false, false, false, false, false, false, false]) rfl (by kernel_rfl) rfl (fun _ _ _ h => h) rfl hA (by decide) (by decide) rfl (fun _ => hS) (fun a w' hA => run_move (hA.ev rfl)) ?_; clear hA; intro a hA
            refine d_takegf (i := 23) (L' := #[true, true, true, true, true, true, true, true, true, true, true, true, true, true, true, true, true, true, true, true, true, true, true, true, false, false, false, false, false, false, false, false, false, false]) rfl (by kernel_rfl) rfl (fun _ _ _ h => h) rfl hA (by decide) (by decide) rfl (fun _ => hS) (fun a w' hA => run_len_slice Try.underlying35 (hA.ev rfl)) ?_; clear hA; intro a hA
            refine d_takegf (i := 24) (L' := #[true, true, true, true, true, true, true, true, true, true, true, true, true, true, true, true, true, true, true, true, true, true, true, true, true, false, false, false, false, false, false, false, false, false]) rfl (by kernel_rfl) rfl (fun _ _ _ h => h) rfl hA (by decide) (by decide) rfl (fun _ => hS) (fun a w' hA => run_bin (hA.ev rfl) (hA.ev rfl) (bin_sub _ _ _ _)) ?_; clear hA; intro a hA
            obtain ⟨⟨hi1161, hj1162⟩, H1144⟩ := ite_some H1144
            obtain ⟨ad1163, hq1164, hat1165⟩ := Row.elem' (p := pHash) (RowOk.row (hM.row (p := pHash) .z)) (RowOk.len (hM.row (p := pHash) .z)) (Vector.replicate 32 0 : Vector Int 32) (IntKind.i64.wrap (((r1107.length : Nat) : Int) - 1)) hi1161 hj1162
            refine d_takegf (i := 25) (L' := #[true, true, true, true, true, true, true, true, true, true, true, true, true, true, true, true, true, true, true, true, true, true, true, true, true, true, false, false, false, false, false, false, false, false]) rfl (by kernel_rfl) rfl (fun _ _ _ h => h) rfl hA (by decide) (by decide) rfl (fun _ => hS) (fun a w' hA => run_idx Try.underlying35 Try.sizeOf38 (hA.ev rfl) hq1164 (hA.ev rfl) hi1161 hj1162) ?_; clear hA; intro a hA
            refine d_takeg (i := 26) (L' := #[true, true, true, true, true, true, true, true, true, true, true, true, true, true, true, true, true, true, true, true, true, true, true, true, true, true, true, false, false, false, false, false, false, false]) rfl (by kernel_rfl) rfl (fun _ _ _ h => h) rfl hA (by decide) (by decide) rfl rfl hS (fun a w' hA hS' => run_ld (hA.ev rfl) (run_loadP Try.isAgg38 Try.sizeOf38 ((hat1165).extB hS'))) ?_; clear hA; intro a hA
            refine d_takegf (i := 27) (L' := #[true, true, true, true, true, true, true, true, true, true, true, true, true, true, true, true, true, true, true, true, true, true, true, true, true, true, true, true, false, false, false, false, false, false]) rfl (by kernel_rfl) rfl (fun _ _ _ h => h) rfl hA (by decide) (by decide) rfl (fun _ => hS) (fun a w' hA => run_field' Try.underlying24 rfl rfl Try.sizeOf22 (by decide) (hA.ev rfl)) ?_; clear hA; intro a hA
            refine d_takeg (i := 28) (L' := #[true, true, true, true, true, true, true, true, true, true, true, true, true, true, true, true, true, true, true, true, true, true, true, true, true, true, true, true, true, false, false, false, false, false]) rfl (by kernel_rfl) rfl (fun _ _ _ h => h) rfl hA (by decide) (by decide) rfl rfl hS (fun a w' hA hS' => run_ld (hA.ev rfl) (run_loadS Try.isAgg22 ((At.seg1 (hM.box (.s .z)) 0 rfl).extB hS'))) ?_; clear hA; intro a hA
            obtain ⟨⟨hi1166, hj1167⟩, H1144⟩ := ite_some H1144
            obtain ⟨ad1168, hq1169, hat1170⟩ := Row.elem' (p := pNode) (RowOk.row (hM.row (p := pNode) (.s (.s .z)))) (RowOk.len (hM.row (p := pNode) (.s (.s .z)))) Node.z (0 : Int) hi1166 hj1167
            refine d_takegf (i := 29) (L' := #[true, true, true, true, true, true, true, true, true, true, true, true, true, true, true, true, true, true, true, true, true, true, true, true, true, true, true, true, true, true, false, false, false, false]) rfl (by kernel_rfl) rfl (fun _ _ _ h => h) rfl hA (by decide) (by decide) rfl (fun _ => hS) (fun a w' hA => run_idx Try.underlying22 Try.sizeOf46 (hA.ev rfl) hq1169 (hA.ev rfl) hi1166 hj1167) ?_; clear hA; intro a hA
            refine d_takegf (i := 30) (L' := #[true, true, true, true, true, true, true, true, true, true, true, true, true, true, true, true, true, true, true, true, true, true, true, true, true, true, true, true, true, true, true, false, false, false]) rfl (by kernel_rfl) rfl (fun _ _ _ h => h) rfl hA (by decide) (by decide) rfl (fun _ => hS) (fun a w' hA => run_field' Try.underlying46 rfl rfl Try.sizeOf38 (by decide) (hA.ev rfl)) ?_; clear hA; intro a hA
            refine d_takeg (i := 31) (L' := #[true, true, true, true, true, true, true, true, true, true, true, true, true, true, true, true, true, true, true, true, true, true, true, true, true, true, true, true, true, true, true, true, false, false]) rfl (by kernel_rfl) rfl (fun _ _ _ h => h) rfl hA (by decide) (by decide) rfl rfl hS (fun a w' hA hS' => run_ld (hA.ev rfl) (run_loadP Try.isAgg38 Try.sizeOf38 ((Node.at_Hash (hat1170)).extB hS'))) ?_; clear hA; intro a hA
            refine d_takegf (i := 32) (L' := #[true, true, true, true, true, true, true, true, true, true, true, true, true, true, true, true, true, true, true, true, true, true, true, true, true, true, true, true, true, true, true, true, true, false]) rfl (by kernel_rfl) rfl (fun _ _ _ h => h) rfl hA (by decide) (by decide) rfl (fun _ => hS) (fun a w' hA => run_aggneq eq_Hash rfl (by kernel_rfl) (hA.ev rfl) (hA.ev rfl)) ?_; clear hA; intro a hA
            refine d_takef (i := 33) (L' := #[true, true, true, true, true, true, true, true, true, true, true, true, true, true, true, true, true, true, true, true, true, true, true, true, true, true, true, true, true, true, true, true, true, true]) rfl (by kernel_rfl) rfl (fun _ _ _ h => h) hA (by decide) (fun _ => hS) (fun a w' hA => run_pick (hA.ev rfl) (fun h => Bool.noConfusion h) (fun _ => hA.ev rfl)) ?_; clear hA; intro a hA
            refine d_done (by kernel_rfl) ?_
            exact ⟨(!((r1107.getD (IntKind.i64.wrap (((r1107.length : Nat) : Int) - 1)).toNat (Vector.replicate 32 0 : Vector Int 32)) == ((r1095.Nodes.getD (0 : Int).toNat Node.z).Hash))), Option.some.inj H1144, (hM.sel [1, 2, 0] rfl (by decide)), ((((hA.nil.cons (hA.get 59 _ rfl)).cons (hA.get 7 _ rfl)).cons (hA.get 6 _ rfl)).cons (hA.get 5 _ rfl))⟩
    clear hM hA
    rintro a w1171 ⟨t1143, rfl, hM, hA⟩
    try dsimp only at H
    refine TN ?_
    refine tcond (b := t1143) hA rfl (fun hb1172 => ?_) (fun hb1172 => ?_)
    · replace H := ite_t hb1172 H
      refine wp_seq ?_
      refine wp_region_lit ?_
      refine L1 (stv hA (by decide) (run_assign (hA.ev rfl)) ?_)
      clear hA; intro a hA
      refine LQ ?_
      refine TN ?_
      refine wp_ret ?_
      obtain rfl := Option.some.inj H
      refine TR ?_
      exact ret_post1 (fn := Try.f4) hA rfl rfl ⟨_, rfl, rfl, (hM.sel [] rfl (by decide))⟩
    · replace H := ite_f hb1172 H
      refine wp_skip ?_
      refine TN ?_
      refine wp_seq ?_
      refine wp_region_lit ?_
      refine L1 (stv hA (by decide) (run_field' Try.underlying24 rfl rfl Try.sizeOf22 (by decide) (hA.ev rfl)) ?_)
      clear hA; intro a hA
      refine L1 (stv hA (by decide) (run_ld (hA.ev rfl) (run_loadS Try.isAgg22 (At.seg1 (hM.box .z) 0 rfl))) ?_)
      clear hA; intro a hA
      refine L1 (stv hA (by decide) (run_move (hA.ev rfl)) ?_)
      clear hA; intro a hA
      obtain ⟨⟨hi1173, hj1174⟩, H⟩ := ite_some H
      obtain ⟨ad1175, hq1176, hat1177⟩ := Row.elem' (p := pNode) (RowOk.row (hM.row (p := pNode) (.s .z))) (RowOk.len (hM.row (p := pNode) (.s .z))) Node.z ((IntKind.i64.wrap n_1).tmod ((r1095.Nodes.length : Nat) : Int)) hi1173 hj1174
      refine L1 (stv hA (by decide) (run_idx Try.underlying22 Try.sizeOf46 (hA.ev rfl) hq1176 (hA.ev rfl) hi1173 hj1174) ?_)
      clear hA; intro a hA
      refine L1 (stv hA (by decide) (run_field' Try.underlying46 rfl rfl Try.sizeOf3 (by decide) (hA.ev rfl)) ?_)
      clear hA; intro a hA
      refine L1 (stv hA (by decide) (run_ld (hA.ev rfl) (run_loadS Try.isAgg3 (Node.at_Height (hat1177)))) ?_)
      clear hA; intro a hA
      refine L1 (stv hA (by decide) (run_bin (hA.ev rfl) (hA.ev rfl) (bin_add _ _ _ _)) ?_)
      clear hA; intro a hA
      refine L1 (stv hA (by decide) (run_assign (hA.ev rfl)) ?_)
      clear hA; intro a hA
      refine LQ ?_
      refine TN ?_
      refine wp_seq ?_
      refine wp_seq ?_
      refine wp_region_lit ?_
      refine L1 (stv hA (by decide) (run_move (hA.ev rfl)) ?_)
      clear hA; intro a hA
      refine L1 (stv hA (by decide) (run_len_slice Try.underlying35 (hA.ev rfl)) ?_)
      clear hA; intro a hA
      refine L1 (stv hA (by decide) (run_move (hA.ev rfl)) ?_)
      clear hA; intro a hA
      refine LQ ?_
      refine TN ?_
      obtain ⟨o1935, H1934, H⟩ := Option.bind_eq_some_iff.1 H
      refine cutC (fun a w => (.go ()) = o1935 ∧ Mem F w0 w [] ∧ Has 98 [] a) ?_ ?_
      · refine wp_block ?_
        refine wp_loop_ghost (fun m a w => ∃ (height1929 : Int) (t1933 : Int), law16_BranchShort.l0 n_1 r1095 r1107 m height1929 t1933 = some o1935 ∧ Mem F w0 w [.box g1102 24 [(.slice A1100 r1095.Nodes.length c1101), (.int .i64 r1095.Best)], .row 46 pNode.sz (.slice A1100 r1095.Nodes.length c1101) (pNode.flat r1095.Nodes), .row 38 pHash.sz (.slice A1112 r1107.length c1113) (pHash.flat r1107)] ∧ Has 98 [(5, (.pointer (some (⟨g1102, 0, none⟩)))), (6, (.int .i64 ((IntKind.i64.wrap n_1).tmod ((r1095.Nodes.length : Nat) : Int)))), (8, (.int .i64 height1929)), (67, (.slice A1112 r1107.length c1113)), (68, (.int .i64 ((r1107.length : Nat) : Int))), (69, (.int .i64 t1933))] a) k ⟨IntKind.i64.wrap (((r1095.Nodes.getD ((IntKind.i64.wrap n_1).tmod ((r1095.Nodes.length : Nat) : Int)).toNat Node.z).Height) + 1), 0, H1934, hM, ((((((hA.nil.cons (hA.get 69 _ rfl)).cons (hA.get 68 _ rfl)).cons (hA.get 67 _ rfl)).cons (hA.get 8 _ rfl)).cons (hA.get 6 _ rfl)).cons (hA.get 5 _ rfl))⟩ ?_
        clear hM hA; rintro m1936 a w1937 ⟨height1929, t1933, H1934, hM, hA⟩
        cases m1936 with
        | zero => exact absurd H1934 (by simp [law16_BranchShort.l0])
        | succ m1936 =>
        rw [law16_BranchShort.l0] at H1934
        refine wp_seq ?_
        refine wp_region_lit ?_
        refine L1 (stv hA (by decide) (run_bin (hA.ev rfl) (hA.ev rfl) (bin_lss _ _ _ _)) ?_)
        clear hA; intro a hA
        refine LQ ?_
        refine TN ?_
        refine wp_seq ?_
        refine tcond (b := (decide (t1933 < ((r1107.length : Nat) : Int)))) hA rfl (fun hb1938 => ?_) (fun hb1938 => ?_)
        · replace H1934 := ite_t hb1938 H1934
          refine wp_skip ?_
          refine TN ?_
          refine wp_seq ?_
          refine wp_block ?_
          refine wp_seq ?_
          refine wp_region_lit ?_
          obtain ⟨⟨hi1939, hj1940⟩, H1934⟩ := ite_some H1934
          obtain ⟨ad1941, hq1942, hat1943⟩ := Row.elem' (p := pHash) (RowOk.row (hM.row (p := pHash) (.s (.s .z)))) (RowOk.len (hM.row (p := pHash) (.s (.s .z)))) (Vector.replicate 32 0 : Vector Int 32) t1933 hi1939 hj1940
          refine L1 (stv hA (by decide) (run_idx Try.underlying35 Try.sizeOf38 (hA.ev rfl) hq1942 (hA.ev rfl) hi1939 hj1940) ?_)
          clear hA; intro a hA
          refine L1 (stv hA (by decide) (run_ld (hA.ev rfl) (run_loadP Try.isAgg38 Try.sizeOf38 hat1943)) ?_)
          clear hA; intro a hA
          refine L1 (e_alloc (cs := (pHash.enc (Vector.replicate 32 0 : Vector Int 32))) hM zero38 rfl hA (by decide) ?_)
          clear hM hA; intro w1945 g1944 hM hE a hA
          refine L1 (e_store (g := g1944) (off := 0) (cur := (pHash.enc (Vector.replicate 32 0 : Vector Int 32))) (cs' := (pHash.enc (r1107.getD t1933.toNat (Vector.replicate 32 0 : Vector Int 32)))) hM .z Try.sizeOf38 hA rfl (by simp [add_mk]) rfl (agg_size _ _) (agg_one _ _) (Nat.le_of_ble_eq_true (enc_fitL _ _ rfl)) (spl_all (by first | rfl | simp [Value.cells, Pl.len])) ?_)
          clear hM hA; intro w1947 hM hE a hA
          refine LQ ?_
          refine TN ?_
          refine wp_seq ?_
          refine wp_region_lit ?_
          refine L1 (stv hA (by decide) (run_assign (hA.ev rfl)) ?_)
          clear hA; intro a hA
          refine LQ ?_
          refine TN ?_
          refine wp_seq ?_
          refine wp_seq ?_
          refine wp_region_lit ?_
          refine L1 (stv hA (by decide) (run_move (hA.ev rfl)) ?_)
          clear hA; intro a hA
          refine L1 (stv hA (by decide) (run_bin (hA.ev rfl) (hA.ev rfl) (bin_sub _ _ _ _)) ?_)
          clear hA; intro a hA
          refine L1 (stv hA (by decide) (run_assign (hA.ev rfl)) ?_)
          clear hA; intro a hA
          refine LQ ?_
          refine TN ?_
          obtain ⟨o2132, H2131, H1934⟩ := Option.bind_eq_some_iff.1 H1934
          refine cutC (fun a w => ∃ (height2125 : Int) (found2127 : Bool), (height2125, found2127) = o2132 ∧ Mem F w0 w [.box g1102 24 [(.slice A1100 r1095.Nodes.length c1101), (.int .i64 r1095.Best)], .row 46 pNode.sz (.slice A1100 r1095.Nodes.length c1101) (pNode.flat r1095.Nodes), .row 38 pHash.sz (.slice A1112 r1107.length c1113) (pHash.flat r1107)] ∧ Has 98 [(5, (.pointer (some (⟨g1102, 0, none⟩)))), (6, (.int .i64 ((IntKind.i64.wrap n_1).tmod ((r1095.Nodes.length : Nat) : Int)))), (8, (.int .i64 height2125)), (11, (.bool found2127)), (67, (.slice A1112 r1107.length c1113)), (68, (.int .i64 ((r1107.length : Nat) : Int))), (69, (.int .i64 t1933))] a) ?_ ?_
          · refine wp_block ?_
            refine wp_loop_ghost (fun m a w => ∃ (height2113 : Int) (found2116 : Bool) (i2118 : Int), law16_BranchShort.l1 n_1 r1095 r1107 t1933 m height2113 found2116 i2118 = some o2132 ∧ Mem F w0 w [.box g1102 24 [(.slice A1100 r1095.Nodes.length c1101), (.int .i64 r1095.Best)], .row 46 pNode.sz (.slice A1100 r1095.Nodes.length c1101) (pNode.flat r1095.Nodes), .box g1944 38 (pHash.enc (r1107.getD t1933.toNat (Vector.replicate 32 0 : Vector Int 32))), .row 38 pHash.sz (.slice A1112 r1107.length c1113) (pHash.flat r1107)] ∧ Has 98 [(5, (.pointer (some (⟨g1102, 0, none⟩)))), (6, (.int .i64 ((IntKind.i64.wrap n_1).tmod ((r1095.Nodes.length : Nat) : Int)))), (8, (.int .i64 height2113)), (10, (.pointer (some (⟨g1944, 0, none⟩)))), (11, (.bool found2116)), (12, (.int .i64 i2118)), (67, (.slice A1112 r1107.length c1113)), (68, (.int .i64 ((r1107.length : Nat) : Int))), (69, (.int .i64 t1933))] a) m1936 ⟨height1929, false, IntKind.i64.wrap (height1929 - 1), H2131, (hM.sel [1, 2, 0, 3] rfl (by decide)), (((((((((hA.nil.cons (hA.get 69 _ rfl)).cons (hA.get 68 _ rfl)).cons (hA.get 67 _ rfl)).cons (hA.get 12 _ rfl)).cons (hA.get 11 _ rfl)).cons (hA.get 10 _ rfl)).cons (hA.get 8 _ rfl)).cons (hA.get 6 _ rfl)).cons (hA.get 5 _ rfl))⟩ ?_
            clear hM hA; rintro m2133 a w2134 ⟨height2113, found2116, i2118, H2131, hM, hA⟩
            cases m2133 with
            | zero => exact absurd H2131 (by simp [law16_BranchShort.l1])
            | succ m2133 =>
            rw [law16_BranchShort.l1] at H2131
            refine wp_seq ?_
            refine wp_seq ?_
            obtain ⟨o2148, H2147, H2131⟩ := Option.bind_eq_some_iff.1 H2131
            refine cutC (fun a w => ∃ (t2146 : Bool), t2146 = o2148 ∧ Mem F w0 w [.box g1102 24 [(.slice A1100 r1095.Nodes.length c1101), (.int .i64 r1095.Best)], .row 46 pNode.sz (.slice A1100 r1095.Nodes.length c1101) (pNode.flat r1095.Nodes), .box g1944 38 (pHash.enc (r1107.getD t1933.toNat (Vector.replicate 32 0 : Vector Int 32))), .row 38 pHash.sz (.slice A1112 r1107.length c1113) (pHash.flat r1107)] ∧ Has 98 [(5, (.pointer (some (⟨g1102, 0, none⟩)))), (6, (.int .i64 ((IntKind.i64.wrap n_1).tmod ((r1095.Nodes.length : Nat) : Int)))), (8, (.int .i64 height2113)), (10, (.pointer (some (⟨g1944, 0, none⟩)))), (11, (.bool found2116)), (12, (.int .i64 i2118)), (67, (.slice A1112 r1107.length c1113)), (68, (.int .i64 ((r1107.length : Nat) : Int))), (69, (.int .i64 t1933)), (80, (.bool t2146))] a) ?_ ?_
            · refine wp_region_lit ?_
              refine L1 (stv hA (by decide) (run_move (hA.ev rfl)) ?_)
              clear hA; intro a hA
              refine L1 (stv hA (by decide) (run_bin (hA.ev rfl) (hA.ev rfl) (bin_geq _ _ _ _)) ?_)
              clear hA; intro a hA
              refine L1 (stv hA (by decide) (run_move (hA.ev rfl)) ?_)
              clear hA; intro a hA
              refine bsplit (b := (decide (i2118 ≥ 0))) (fun hb2149 => ?_) (fun hb2149 => ?_)
              · replace H2147 := ite_t hb2149 H2147
                have hA := hA.re (t := 77) rfl (congrArg Value.bool hb2149)
                refine L1 (gate_on rfl rfl hA (by decide) rfl (stv hA (by decide) (run_move (hA.ev rfl)) ?_))
                clear hA; intro a hA
                refine L1 (gate_on rfl rfl hA (by decide) rfl (stv hA (by decide) (run_not (hA.ev rfl)) ?_))
                clear hA; intro a hA
                refine L1 (stv hA (by decide) (run_pick (hA.ev rfl) (fun _ => hA.ev rfl) (fun h => Bool.noConfusion h)) ?_)
                clear hA; intro a hA
                refine LQ ?_
                exact ⟨(!found2116), Option.some.inj H2147, hM, ((((((((((hA.nil.cons (hA.get 80 _ rfl)).cons (hA.get 69 _ rfl)).cons (hA.get 68 _ rfl)).cons (hA.get 67 _ rfl)).cons (hA.get 12 _ rfl)).cons (hA.get 11 _ rfl)).cons (hA.get 10 _ rfl)).cons (hA.get 8 _ rfl)).cons (hA.get 6 _ rfl)).cons (hA.get 5 _ rfl))⟩
              · replace H2147 := ite_f hb2149 H2147
                have hA := hA.re (t := 77) rfl (congrArg Value.bool hb2149)
                refine L1 (gate_off rfl (by decide) rfl hA (by decide) rfl rfl ?_); clear hA; intro a hA
                refine L1 (gate_off rfl (by decide) rfl hA (by decide) rfl rfl ?_); clear hA; intro a hA
                refine L1 (stv hA (by decide) (run_pick (hA.ev rfl) (fun h => Bool.noConfusion h) (fun _ => hA.ev rfl)) ?_)
                clear hA; intro a hA
                refine LQ ?_
                exact ⟨false, Option.some.inj H2147, hM, ((((((((((hA.nil.cons (hA.get 80 _ rfl)).cons (hA.get 69 _ rfl)).cons (hA.get 68 _ rfl)).cons (hA.get 67 _ rfl)).cons (hA.get 12 _ rfl)).cons (hA.get 11 _ rfl)).cons (hA.get 10 _ rfl)).cons (hA.get 8 _ rfl)).cons (hA.get 6 _ rfl)).cons (hA.get 5 _ rfl))⟩
            clear hM hA
            rintro a w2150 ⟨t2146, rfl, hM, hA⟩
            try dsimp only at H2131
            refine TN ?_
            refine tcond (b := t2146) hA rfl (fun hb2151 => ?_) (fun hb2151 => ?_)
            · replace H2131 := ite_t hb2151 H2131
              refine wp_skip ?_
              refine TN ?_
              refine wp_seq ?_
              refine wp_block ?_
              refine wp_seq ?_
              refine draw (fun w' => Below w2150.heap.size w2150 w') [] rfl ?_
              intro w2152 hw hS; replace hM := hM.ext hS; clear hw
              refine d_takef (i := 0) (L' := #[true, false, false, false, false, false, false, false, false, false, false]) rfl (by kernel_rfl) rfl (fun _ _ _ h => h) hA (by decide) (fun _ => hS) (fun a w' hA => run_field' Try.underlying24 rfl rfl Try.sizeOf22 (by decide) (hA.ev rfl)) ?_; clear hA; intro a hA
              refine rebase hS ?_; clear hS; intro hS
              refine d_take (i := 1) (L' := #[true, true, false, false, false, false, false, false, false, false, false]) rfl (by kernel_rfl) rfl (fun _ _ _ h => h) hA (by decide) rfl hS (fun a w' hA hS' => run_ld (hA.ev rfl) (run_loadS Try.isAgg22 ((At.seg1 (hM.box .z) 0 rfl).extB hS'))) ?_; clear hA; intro a hA
              refine d_take (i := 2) (L' := #[true, true, true, false, false, false, false, false, false, false, false]) rfl (by kernel_rfl) rfl (fun _ _ _ h => h) hA (by decide) rfl hS (fun a w' hA hS' => run_ld (hA.ev rfl) (run_loadW Try.isAgg24 Try.sizeOf24 (by simp [Pl.len]; try rfl) ((hM.box .z).extB hS'))) ?_; clear hA; intro a hA
              refine d_takef (i := 3) (L' := #[true, true, true, true, false, false, false, false, false, false, false]) rfl (by kernel_rfl) rfl (fun _ _ _ h => h) hA (by decide) (fun _ => hS) (fun a w' hA => run_move (hA.ev rfl)) ?_; clear hA; intro a hA
              refine d_takef (i := 4) (L' := #[true, true, true, true, true, false, false, false, false, false, false]) rfl (by kernel_rfl) rfl (fun _ _ _ h => h) hA (by decide) (fun _ => hS) (fun a w' hA => run_move (hA.ev rfl)) ?_; clear hA; intro a hA
              refine d_take (i := 9) (L' := #[true, true, true, true, true, false, false, false, false, true, false]) rfl (by kernel_rfl) rfl (fun _ _ _ h => h) hA (by decide) rfl hS (fun a w' hA hS' => run_ld (hA.ev rfl) (run_loadP Try.isAgg38 Try.sizeOf38 ((hM.box (.s (.s .z))).extB hS'))) ?_; clear hA; intro a hA
              obtain ⟨r2154, H2155, H2131⟩ := Option.bind_eq_some_iff.1 H2131
              refine d_one (i := 5) (L' := #[true, true, true, true, true, true, false, false, false, true, false]) (by kernel_rfl) rfl rfl (st_call Try.call14 hA [(.agg #[(.slice A1100 r1095.Nodes.length c1101), (.int .i64 r1095.Best)]), (.int .i64 ((IntKind.i64.wrap n_1).tmod ((r1095.Nodes.length : Nat) : Int))), (.int .i64 i2118)] rfl (by decide) (branch_Ancestor.calls _ _ _ _ _ _ _ _ ((RoV.mk (hM.rowC (p := pNode) (Ms := []) (.s .z)) (RowOk.len (hM.row (p := pNode) (.s .z))) (RowOk.cap (hM.row (p := pNode) (.s .z))))) (hM.front (Ms := [])) H2155) ?_)
              clear hA; rintro _ w2156 ⟨rfl, hMc⟩ a hA
              have hE := hMc.below; have hM := hM.call (Ms := []) hMc
              clear hMc; simp only [List.cons_append, List.nil_append] at hM
              replace hS := hS.trans (hE.mono hS.size)
              refine ⟨fun _ => hS, ?_⟩
              obtain ⟨⟨hi2157, hj2158⟩, H2131⟩ := ite_some H2131
              obtain ⟨ad2159, hq2160, hat2161⟩ := Row.elem' (p := pNode) (RowOk.row (hM.row (p := pNode) (.s .z))) (RowOk.len (hM.row (p := pNode) (.s .z))) Node.z r2154 hi2157 hj2158
              refine d_takef (i := 6) (L' := #[true, true, true, true, true, true, true, false, false, true, false]) rfl (by kernel_rfl) rfl (fun _ _ _ h => h) hA (by decide) (fun _ => hS) (fun a w' hA => run_idx Try.underlying22 Try.sizeOf46 (hA.ev rfl) hq2160 (hA.ev rfl) hi2157 hj2158) ?_; clear hA; intro a hA
              refine d_takef (i := 7) (L' := #[true, true, true, true, true, true, true, true, false, true, false]) rfl (by kernel_rfl) rfl (fun _ _ _ h => h) hA (by decide) (fun _ => hS) (fun a w' hA => run_field' Try.underlying46 rfl rfl Try.sizeOf38 (by decide) (hA.ev rfl)) ?_; clear hA; intro a hA
              refine rebase hS ?_; clear hS; intro hS
              refine d_take (i := 8) (L' := #[true, true, true, true, true, true, true, true, true, true, false]) rfl (by kernel_rfl) rfl (fun _ _ _ h => h) hA (by decide) rfl hS (fun a w' hA hS' => run_ld (hA.ev rfl) (run_loadP Try.isAgg38 Try.sizeOf38 ((Node.at_Hash (hat2161)).extB hS'))) ?_; clear hA; intro a hA
              refine d_takef (i := 10) (L' := #[true, true, true, true, true, true, true, true, true, true, true]) rfl (by kernel_rfl) rfl (fun _ _ _ h => h) hA (by decide) (fun _ => hS) (fun a w' hA => run_aggeql eq_Hash rfl (by kernel_rfl) (hA.ev rfl) (hA.ev rfl)) ?_; clear hA; intro a hA
              refine d_done (by kernel_rfl) ?_
              refine TN ?_
              obtain ⟨o2175, H2174, H2131⟩ := Option.bind_eq_some_iff.1 H2131
              refine cutC (fun a w => ∃ (height2166 : Int) (found2169 : Bool), (height2166, found2169) = o2175 ∧ Mem F w0 w [.box g1102 24 [(.slice A1100 r1095.Nodes.length c1101), (.int .i64 r1095.Best)], .row 46 pNode.sz (.slice A1100 r1095.Nodes.length c1101) (pNode.flat r1095.Nodes), .box g1944 38 (pHash.enc (r1107.getD t1933.toNat (Vector.replicate 32 0 : Vector Int 32))), .row 38 pHash.sz (.slice A1112 r1107.length c1113) (pHash.flat r1107)] ∧ Has 98 [(5, (.pointer (some (⟨g1102, 0, none⟩)))), (6, (.int .i64 ((IntKind.i64.wrap n_1).tmod ((r1095.Nodes.length : Nat) : Int)))), (8, (.int .i64 height2166)), (10, (.pointer (some (⟨g1944, 0, none⟩)))), (11, (.bool found2169)), (12, (.int .i64 i2118)), (67, (.slice A1112 r1107.length c1113)), (68, (.int .i64 ((r1107.length : Nat) : Int))), (69, (.int .i64 t1933))] a) ?_ ?_
              · refine tcond (b := (((r1095.Nodes.getD r2154.toNat Node.z).Hash) == (r1107.getD t1933.toNat (Vector.replicate 32 0 : Vector Int 32)))) hA rfl (fun hb2176 => ?_) (fun hb2176 => ?_)
                · replace H2174 := ite_t hb2176 H2174
                  refine wp_region_lit ?_
                  refine L1 (stv hA (by decide) (run_move (hA.ev rfl)) ?_)
                  clear hA; intro a hA
                  refine L1 (stv hA (by decide) (run_assign (hA.ev rfl)) ?_)
                  clear hA; intro a hA
                  refine L1 (stv hA (by decide) (run_assign (hA.ev rfl)) ?_)
                  clear hA; intro a hA
                  refine LQ ?_
                  exact ⟨i2118, true, Option.some.inj H2174, hM, (((((((((hA.nil.cons (hA.get 69 _ rfl)).cons (hA.get 68 _ rfl)).cons (hA.get 67 _ rfl)).cons (hA.get 12 _ rfl)).cons (hA.get 11 _ rfl)).cons (hA.get 10 _ rfl)).cons (hA.get 8 _ rfl)).cons (hA.get 6 _ rfl)).cons (hA.get 5 _ rfl))⟩
                · replace H2174 := ite_f hb2176 H2174
                  refine wp_skip ?_
                  exact ⟨height2113, found2116, Option.some.inj H2174, hM, (((((((((hA.nil.cons (hA.get 69 _ rfl)).cons (hA.get 68 _ rfl)).cons (hA.get 67 _ rfl)).cons (hA.get 12 _ rfl)).cons (hA.get 11 _ rfl)).cons (hA.get 10 _ rfl)).cons (hA.get 8 _ rfl)).cons (hA.get 6 _ rfl)).cons (hA.get 5 _ rfl))⟩
              clear hM hA
              rintro a w2177 ⟨height2166, found2169, rfl, hM, hA⟩
              try dsimp only at H2131
              refine BN ?_
              refine TN ?_
              refine wp_region_lit ?_
              refine L1 (stv hA (by decide) (run_move (hA.ev rfl)) ?_)
              clear hA; intro a hA
              refine L1 (stv hA (by decide) (run_bin (hA.ev rfl) (hA.ev rfl) (bin_sub _ _ _ _)) ?_)
              clear hA; intro a hA
              refine L1 (stv hA (by decide) (run_assign (hA.ev rfl)) ?_)
              clear hA; intro a hA
              refine LQ ?_
              exact ⟨_, Nat.lt_succ_self m2133, height2166, found2169, IntKind.i64.wrap (i2118 - 1), H2131, hM, (((((((((hA.nil.cons (hA.get 69 _ rfl)).cons (hA.get 68 _ rfl)).cons (hA.get 67 _ rfl)).cons (hA.get 12 _ rfl)).cons (hA.get 11 _ rfl)).cons (hA.get 10 _ rfl)).cons (hA.get 8 _ rfl)).cons (hA.get 6 _ rfl)).cons (hA.get 5 _ rfl))⟩
            · replace H2131 := ite_f hb2151 H2131
              refine wp_exit ?_
              refine TX ?_
              refine TX ?_
              refine BX ?_
              exact ⟨height2113, found2116, Option.some.inj H2131, (hM.sel [0, 1, 3] rfl (by decide)), (((((((hA.nil.cons (hA.get 69 _ rfl)).cons (hA.get 68 _ rfl)).cons (hA.get 67 _ rfl)).cons (hA.get 11 _ rfl)).cons (hA.get 8 _ rfl)).cons (hA.get 6 _ rfl)).cons (hA.get 5 _ rfl))⟩
          clear hM hA
          rintro a w2178 ⟨height2125, found2127, rfl, hM, hA⟩
          try dsimp only at H1934
          refine TN ?_
          refine wp_seq ?_
          refine wp_region_lit ?_
          refine L1 (stv hA (by decide) (run_move (hA.ev rfl)) ?_)
          clear hA; intro a hA
          refine L1 (stv hA (by decide) (run_not (hA.ev rfl)) ?_)
          clear hA; intro a hA
          refine LQ ?_
          refine TN ?_
          refine tcond (b := (!found2127)) hA rfl (fun hb2179 => ?_) (fun hb2179 => ?_)
          · replace H1934 := ite_t hb2179 H1934
            refine wp_seq ?_
            refine wp_region_lit ?_
            refine L1 (stv hA (by decide) (run_assign (hA.ev rfl)) ?_)
            clear hA; intro a hA
            refine LQ ?_
            refine TN ?_
            refine wp_ret ?_
            obtain rfl := Option.some.inj H1934
            dsimp only at H
            obtain rfl := Option.some.inj H
            refine BR ?_
            refine TR ?_
            refine TR ?_
            refine BR ?_
            refine TR ?_
            refine TR ?_
            exact ret_post1 (fn := Try.f4) hA rfl rfl ⟨_, rfl, rfl, (hM.sel [] rfl (by decide))⟩
          · replace H1934 := ite_f hb2179 H1934
            refine wp_skip ?_
            refine BN ?_
            refine TN ?_
            refine wp_region_lit ?_
            refine L1 (stv hA (by decide) (run_bin (hA.ev rfl) (hA.ev rfl) (bin_add _ _ _ _)) ?_)
            clear hA; intro a hA
            refine L1 (stv hA (by decide) (run_move (hA.ev rfl)) ?_)
            clear hA; intro a hA
            refine LQ ?_
            exact ⟨_, Nat.lt_succ_self m1936, height2125, IntKind.i64.wrap (t1933 + 1), H1934, hM, ((((((hA.nil.cons (hA.get 69 _ rfl)).cons (hA.get 68 _ rfl)).cons (hA.get 67 _ rfl)).cons (hA.get 8 _ rfl)).cons (hA.get 6 _ rfl)).cons (hA.get 5 _ rfl))⟩
        · replace H1934 := ite_f hb1938 H1934
          refine wp_exit ?_
          refine TX ?_
          refine TX ?_
          refine BX ?_
          exact ⟨Option.some.inj H1934, (hM.sel [] rfl (by decide)), hA.nil⟩
      clear hM hA
      rintro a w2180 ⟨rfl, hM, hA⟩
      try dsimp only at H
      refine TN ?_
      refine wp_seq ?_
      refine wp_region_lit ?_
      refine L1 (stv hA (by decide) (run_assign (hA.ev rfl)) ?_)
      clear hA; intro a hA
      refine LQ ?_
      refine TN ?_
      refine wp_ret ?_
      obtain rfl := Option.some.inj H
      exact ret_post1 (fn := Try.f4) hA rfl rfl ⟨_, rfl, rfl, hM⟩

end Go.Proofs.Ytjjahfpamjmacaa.G
