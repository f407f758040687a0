/- The functions that a law of this seat reaches: what each comes to, as a plain function, and that its code comes to it. Conditions: the plain function gives a value (enough fuel, no panic). -/
import Derived.Test.YtoogcdmdbogkeaaChecked
import Derived.Test.YtoogcdmdbogkeaaD
set_option linter.unusedVariables false
set_option linter.unusedSimpArgs false
namespace Go.Proofs.Ytoogcdmdbogkeaa.G
open Go Go.RowKit Go.Proofs
structure sip_words where
  v0 : Int
  v1 : Int
  v2 : Int
  v3 : Int
def sip_words.z : sip_words := ⟨(0 : Int), (0 : Int), (0 : Int), (0 : Int)⟩
def sip_words.segs (x : sip_words) : List (List Value) := [(Pl.int .u64).enc x.v0, (Pl.int .u64).enc x.v1, (Pl.int .u64).enc x.v2, (Pl.int .u64).enc x.v3]
theorem sip_words.segs_len (x : sip_words) : x.segs.flatten.length = 4 := by
  simp only [sip_words.segs, List.flatten_cons, List.flatten_nil, List.length_append, List.length_nil, Pl.len]
  rfl
def psip_words : Pl sip_words := ⟨4, fun x => x.segs.flatten, sip_words.segs_len, fun x u hu => by
  simp only [sip_words.segs, List.mem_flatten, List.mem_cons, List.not_mem_nil, or_false] at hu
  obtain ⟨l, hl, hu⟩ := hu
  rcases hl with rfl | rfl | rfl | rfl
  all_goals exact Pl.one _ _ u hu, by decide⟩
def sip_words.eqb (x y : sip_words) : Bool := (x.v0 == y.v0 && (x.v1 == y.v1 && (x.v2 == y.v2 && (x.v3 == y.v3 && true))))
instance : BEq sip_words := ⟨sip_words.eqb⟩
theorem sip_words.eqb_iff (x y : sip_words) : (x == y) = true ↔ x = y := by
  show sip_words.eqb x y = true ↔ x = y
  cases x; cases y
  simp [sip_words.eqb, and_assoc]
theorem eq_sip_words : EqOk Try.prog 80 psip_words 2 := fun d x y w => eq_struct (P := Try.prog) (d := d + 1) Try.underlying80 (by kernel_rfl) (eqf_cons (by decide) (part_one Try.isAgg22 x.segs 0 rfl (by first | rfl | (simp only [sip_words.segs, List.take, List.flatten_cons, List.flatten_nil, List.length_append, List.length_nil, Pl.len]; rfl))) (part_one Try.isAgg22 y.segs 0 rfl (by first | rfl | (simp only [sip_words.segs, List.take, List.flatten_cons, List.flatten_nil, List.length_append, List.length_nil, Pl.len]; rfl))) (run_equalIn_int w (d + 0) _ _ _ _ _ Try.underlying22)
    (eqf_cons (by decide) (part_one Try.isAgg22 x.segs 1 rfl (by first | rfl | (simp only [sip_words.segs, List.take, List.flatten_cons, List.flatten_nil, List.length_append, List.length_nil, Pl.len]; rfl))) (part_one Try.isAgg22 y.segs 1 rfl (by first | rfl | (simp only [sip_words.segs, List.take, List.flatten_cons, List.flatten_nil, List.length_append, List.length_nil, Pl.len]; rfl))) (run_equalIn_int w (d + 0) _ _ _ _ _ Try.underlying22)
    (eqf_cons (by decide) (part_one Try.isAgg22 x.segs 2 rfl (by first | rfl | (simp only [sip_words.segs, List.take, List.flatten_cons, List.flatten_nil, List.length_append, List.length_nil, Pl.len]; rfl))) (part_one Try.isAgg22 y.segs 2 rfl (by first | rfl | (simp only [sip_words.segs, List.take, List.flatten_cons, List.flatten_nil, List.length_append, List.length_nil, Pl.len]; rfl))) (run_equalIn_int w (d + 0) _ _ _ _ _ Try.underlying22)
    (eqf_cons (by decide) (part_one Try.isAgg22 x.segs 3 rfl (by first | rfl | (simp only [sip_words.segs, List.take, List.flatten_cons, List.flatten_nil, List.length_append, List.length_nil, Pl.len]; rfl))) (part_one Try.isAgg22 y.segs 3 rfl (by first | rfl | (simp only [sip_words.segs, List.take, List.flatten_cons, List.flatten_nil, List.length_append, List.length_nil, Pl.len]; rfl))) (run_equalIn_int w (d + 0) _ _ _ _ _ Try.underlying22)
    (eqf_nil)))))
theorem sip_words.at_v0 {w : World} {ad : Addr} {x : sip_words} (h : At w ad (psip_words.enc x)) : At w (ad.add 0) ((Pl.int .u64).enc x.v0) := At.seg (segs := x.segs) h 0 rfl (by
  first | rfl | simp only [sip_words.segs, List.take, List.flatten_cons, List.flatten_nil, List.length_append, List.length_nil, Pl.len]; rfl)
theorem sip_words.spl_v0 (x : sip_words) (y : Int) : spl (psip_words.enc x) 0 ((Pl.int .u64).enc y) = psip_words.enc { x with v0 := y } := spl_seg x.segs 0 ((Pl.int .u64).enc y) 0 rfl (by
  first | rfl | simp only [sip_words.segs, List.take, List.flatten_cons, List.flatten_nil, List.length_append, List.length_nil, Pl.len]; rfl) (by simp [Pl.len])
theorem sip_words.at_v1 {w : World} {ad : Addr} {x : sip_words} (h : At w ad (psip_words.enc x)) : At w (ad.add 1) ((Pl.int .u64).enc x.v1) := At.seg (segs := x.segs) h 1 rfl (by
  first | rfl | simp only [sip_words.segs, List.take, List.flatten_cons, List.flatten_nil, List.length_append, List.length_nil, Pl.len]; rfl)
theorem sip_words.spl_v1 (x : sip_words) (y : Int) : spl (psip_words.enc x) 1 ((Pl.int .u64).enc y) = psip_words.enc { x with v1 := y } := spl_seg x.segs 1 ((Pl.int .u64).enc y) 1 rfl (by
  first | rfl | simp only [sip_words.segs, List.take, List.flatten_cons, List.flatten_nil, List.length_append, List.length_nil, Pl.len]; rfl) (by simp [Pl.len])
theorem sip_words.at_v2 {w : World} {ad : Addr} {x : sip_words} (h : At w ad (psip_words.enc x)) : At w (ad.add 2) ((Pl.int .u64).enc x.v2) := At.seg (segs := x.segs) h 2 rfl (by
  first | rfl | simp only [sip_words.segs, List.take, List.flatten_cons, List.flatten_nil, List.length_append, List.length_nil, Pl.len]; rfl)
theorem sip_words.spl_v2 (x : sip_words) (y : Int) : spl (psip_words.enc x) 2 ((Pl.int .u64).enc y) = psip_words.enc { x with v2 := y } := spl_seg x.segs 2 ((Pl.int .u64).enc y) 2 rfl (by
  first | rfl | simp only [sip_words.segs, List.take, List.flatten_cons, List.flatten_nil, List.length_append, List.length_nil, Pl.len]; rfl) (by simp [Pl.len])
theorem sip_words.at_v3 {w : World} {ad : Addr} {x : sip_words} (h : At w ad (psip_words.enc x)) : At w (ad.add 3) ((Pl.int .u64).enc x.v3) := At.seg (segs := x.segs) h 3 rfl (by
  first | rfl | simp only [sip_words.segs, List.take, List.flatten_cons, List.flatten_nil, List.length_append, List.length_nil, Pl.len]; rfl)
theorem sip_words.spl_v3 (x : sip_words) (y : Int) : spl (psip_words.enc x) 3 ((Pl.int .u64).enc y) = psip_words.enc { x with v3 := y } := spl_seg x.segs 3 ((Pl.int .u64).enc y) 3 rfl (by
  first | rfl | simp only [sip_words.segs, List.take, List.flatten_cons, List.flatten_nil, List.length_append, List.length_nil, Pl.len]; rfl) (by simp [Pl.len])
def pSipKey : Pl (Vector Int 2) := Pl.vec 2 .u64 (by decide)
theorem eq_SipKey : EqOk Try.prog 24 pSipKey 2 := fun d x y w => eq_vec (by decide) d Try.underlying24 Try.isAgg22 Try.underlying22 (by kernel_rfl) (by kernel_rfl) x y w
def pA4u64 : Pl (Vector Int 4) := Pl.vec 4 .u64 (by decide)
theorem eq_A4u64 : EqOk Try.prog 83 pA4u64 2 := fun d x y w => eq_vec (by decide) d Try.underlying83 Try.isAgg22 Try.underlying22 (by kernel_rfl) (by kernel_rfl) x y w
theorem zero24 : ∀ w, (zeroValue 24).run Try.prog w = .ok (.agg (pSipKey.enc (Vector.replicate 2 0 : Vector Int 2)).toArray) w := run_zero (by kernel_rfl)
theorem zero80 : ∀ w, (zeroValue 80).run Try.prog w = .ok (.agg (psip_words.enc sip_words.z).toArray) w := run_zero (by kernel_rfl)
theorem zero83 : ∀ w, (zeroValue 83).run Try.prog w = .ok (.agg (pA4u64.enc (Vector.replicate 4 0 : Vector Int 4)).toArray) w := run_zero (by kernel_rfl)
theorem elt25 : Elt Try.prog (Pl.int .u8) 25 5 (.int .u8 (0 : Int)) 1 := ⟨Try.underlying25, by kernel_rfl, by first | rfl | simp [Value.cells, Pl.len], by decide⟩
def bits_RotateLeft64.f (k : Nat) (x_0 : Int) (k_1 : Int) : Option Int := (if 0 ≤ (iand .u64 (IntKind.u64.wrap k_1) 63) then (if 0 ≤ (IntKind.u64.wrap (64 - (iand .u64 (IntKind.u64.wrap k_1) 63))) then (some (ior .u64 (ishl .u64 x_0 (iand .u64 (IntKind.u64.wrap k_1) 63)) (ishr .u64 x_0 (IntKind.u64.wrap (64 - (iand .u64 (IntKind.u64.wrap k_1) 63)))))) else none) else none)
set_option maxRecDepth 100000 in
theorem bits_RotateLeft64.calls (k : Nat) (x_0 : Int) (k_1 : Int) (F : List (Option Nat)) (r : Int) (w0 : World) (hM : Mem F w0 w0 []) (H : bits_RotateLeft64.f k x_0 k_1 = some r) :
    Calls Try.prog 69 #[(.int .u64 x_0), (.int .i64 k_1)] w0 fun e w' => ∃ v, e = .returned v ∧ v = (.int .u64 r) ∧ Mem F w0 w' [] := by
  unfold bits_RotateLeft64.f at H
  refine enterL (n := 17) [(.int .u64 x_0), (.int .i64 k_1)] Try.func69 rfl rfl rfl ?_
  intro a hA
  refine wp_seq ?_
  refine wp_region_lit ?_
  refine L1 (stv hA (by decide) (run_assign (hA.ev rfl)) ?_)
  clear hA; intro a hA
  refine LQ ?_
  refine TN ?_
  refine wp_seq ?_
  refine wp_region_lit ?_
  refine L1 (stv hA (by decide) (run_move (hA.ev rfl)) ?_)
  clear hA; intro a hA
  refine L1 (stv hA (by decide) (run_conv Try.underlying3 Try.underlying73 (hA.ev rfl)) ?_)
  clear hA; intro a hA
  refine L1 (stv hA (by decide) (run_bin (hA.ev rfl) (hA.ev rfl) (bin_and _ _ _ _)) ?_)
  clear hA; intro a hA
  refine L1 (stv hA (by decide) (run_assign (hA.ev rfl)) ?_)
  clear hA; intro a hA
  refine LQ ?_
  refine TN ?_
  refine wp_seq ?_
  refine wp_region_lit ?_
  refine L1 (stv hA (by decide) (run_move (hA.ev rfl)) ?_)
  clear hA; intro a hA
  refine L1 (stv hA (by decide) (run_move (hA.ev rfl)) ?_)
  clear hA; intro a hA
  obtain ⟨hs3, H⟩ := ite_some H
  refine L1 (stv hA (by decide) (run_shl (hA.ev rfl) (hA.ev rfl) hs3) ?_)
  clear hA; intro a hA
  refine L1 (stv hA (by decide) (run_move (hA.ev rfl)) ?_)
  clear hA; intro a hA
  refine L1 (stv hA (by decide) (run_move (hA.ev rfl)) ?_)
  clear hA; intro a hA
  refine L1 (stv hA (by decide) (run_bin (hA.ev rfl) (hA.ev rfl) (bin_sub _ _ _ _)) ?_)
  clear hA; intro a hA
  obtain ⟨hs4, H⟩ := ite_some H
  refine L1 (stv hA (by decide) (run_shr (hA.ev rfl) (hA.ev rfl) hs4) ?_)
  clear hA; intro a hA
  refine L1 (stv hA (by decide) (run_bin (hA.ev rfl) (hA.ev rfl) (bin_or _ _ _ _)) ?_)
  clear hA; intro a hA
  refine L1 (stv hA (by decide) (run_assign (hA.ev rfl)) ?_)
  clear hA; intro a hA
  refine LQ ?_
  refine TN ?_
  refine wp_ret ?_
  obtain rfl := Option.some.inj H
  exact ret_post1 (fn := Try.f69) hA rfl rfl ⟨_, rfl, rfl, hM⟩

def sip_words_round.f (k : Nat) (w_0 : sip_words) : Option sip_words := ((bits_RotateLeft64.f k w_0.v1 13).bind fun r50 => ((bits_RotateLeft64.f k (IntKind.u64.wrap (w_0.v0 + w_0.v1)) 32).bind fun r54 => ((bits_RotateLeft64.f k w_0.v3 16).bind fun r63 => ((bits_RotateLeft64.f k (ixor .u64 r63 (IntKind.u64.wrap (w_0.v2 + w_0.v3))) 21).bind fun r72 => ((bits_RotateLeft64.f k (ixor .u64 r50 (IntKind.u64.wrap (w_0.v0 + w_0.v1))) 17).bind fun r81 => ((bits_RotateLeft64.f k (IntKind.u64.wrap ((IntKind.u64.wrap (w_0.v2 + w_0.v3)) + (ixor .u64 r50 (IntKind.u64.wrap (w_0.v0 + w_0.v1))))) 32).bind fun r85 => (some (sip_words.mk (IntKind.u64.wrap (r54 + (ixor .u64 r63 (IntKind.u64.wrap (w_0.v2 + w_0.v3))))) (ixor .u64 r81 (IntKind.u64.wrap ((IntKind.u64.wrap (w_0.v2 + w_0.v3)) + (ixor .u64 r50 (IntKind.u64.wrap (w_0.v0 + w_0.v1)))))) r85 (ixor .u64 r72 (IntKind.u64.wrap (r54 + (ixor .u64 r63 (IntKind.u64.wrap (w_0.v2 + w_0.v3))))))))))))))
set_option maxRecDepth 100000 in
theorem sip_words_round.calls (k : Nat) (w_0 : sip_words) (F : List (Option Nat)) (g0 : Nat) (r : sip_words) (w0 : World) (hM : Mem F w0 w0 [.box g0 80 (psip_words.enc w_0)]) (H : sip_words_round.f k w_0 = some r) :
    Calls Try.prog 40 #[(.pointer (some (⟨g0, 0, none⟩)))] w0 fun e w' => ∃ v, e = .returned v ∧ v = (.tuple #[]) ∧ Mem F w0 w' [.box g0 80 (psip_words.enc r)] := by
  unfold sip_words_round.f at H
  refine enterL (n := 114) [(.pointer (some (⟨g0, 0, none⟩)))] Try.func40 rfl rfl rfl ?_
  intro a hA
  refine wp_seq ?_
  refine draw (fun w' => Below w0.heap.size w0 w') [11] rfl ?_
  intro w45 hw hS; replace hM := hM.ext hS; clear hw
  refine d_takef (i := 0) (L' := #[true, false, false, false, false, false, false, false, false, false, false, false]) rfl (by kernel_rfl) rfl (fun _ _ _ h => h) hA (by decide) (fun _ => hS) (fun a w' hA => run_move (hA.ev rfl)) ?_; clear hA; intro a hA
  refine d_takef (i := 1) (L' := #[true, true, false, false, false, false, false, false, false, false, false, false]) rfl (by kernel_rfl) rfl (fun _ _ _ h => h) hA (by decide) (fun _ => hS) (fun a w' hA => run_nilchk (hA.ev rfl)) ?_; clear hA; intro a hA
  refine d_takef (i := 2) (L' := #[true, true, true, false, false, false, false, false, false, false, false, false]) rfl (by kernel_rfl) rfl (fun _ _ _ h => h) hA (by decide) (fun _ => hS) (fun a w' hA => run_field' Try.underlying80 rfl rfl Try.sizeOf22 (by decide) (hA.ev rfl)) ?_; clear hA; intro a hA
  refine rebase hS ?_; clear hS; intro hS
  refine d_take (i := 3) (L' := #[true, true, true, true, false, false, false, false, false, false, false, false]) rfl (by kernel_rfl) rfl (fun _ _ _ h => h) hA (by decide) rfl hS (fun a w' hA hS' => run_ld (hA.ev rfl) (run_loadS Try.isAgg22 ((sip_words.at_v0 (hM.box .z)).extB hS'))) ?_; clear hA; intro a hA
  refine d_takef (i := 4) (L' := #[true, true, true, true, true, false, false, false, false, false, false, false]) rfl (by kernel_rfl) rfl (fun _ _ _ h => h) hA (by decide) (fun _ => hS) (fun a w' hA => run_move (hA.ev rfl)) ?_; clear hA; intro a hA
  refine d_takef (i := 5) (L' := #[true, true, true, true, true, true, false, false, false, false, false, false]) rfl (by kernel_rfl) rfl (fun _ _ _ h => h) hA (by decide) (fun _ => hS) (fun a w' hA => run_nilchk (hA.ev rfl)) ?_; clear hA; intro a hA
  refine d_takef (i := 6) (L' := #[true, true, true, true, true, true, true, false, false, false, false, false]) rfl (by kernel_rfl) rfl (fun _ _ _ h => h) hA (by decide) (fun _ => hS) (fun a w' hA => run_field' Try.underlying80 rfl rfl Try.sizeOf22 (by decide) (hA.ev rfl)) ?_; clear hA; intro a hA
  refine d_take (i := 7) (L' := #[true, true, true, true, true, true, true, true, false, false, false, false]) rfl (by kernel_rfl) rfl (fun _ _ _ h => h) hA (by decide) rfl hS (fun a w' hA hS' => run_ld (hA.ev rfl) (run_loadS Try.isAgg22 ((sip_words.at_v1 (hM.box .z)).extB hS'))) ?_; clear hA; intro a hA
  refine d_takef (i := 8) (L' := #[true, true, true, true, true, true, true, true, true, false, false, false]) rfl (by kernel_rfl) rfl (fun _ _ _ h => h) hA (by decide) (fun _ => hS) (fun a w' hA => run_bin (hA.ev rfl) (hA.ev rfl) (bin_add _ _ _ _)) ?_; clear hA; intro a hA
  refine d_takef (i := 9) (L' := #[true, true, true, true, true, true, true, true, true, true, false, false]) rfl (by kernel_rfl) rfl (fun _ _ _ h => h) hA (by decide) (fun _ => hS) (fun a w' hA => run_nilchk (hA.ev rfl)) ?_; clear hA; intro a hA
  refine d_takef (i := 10) (L' := #[true, true, true, true, true, true, true, true, true, true, true, false]) rfl (by kernel_rfl) rfl (fun _ _ _ h => h) hA (by decide) (fun _ => hS) (fun a w' hA => run_field' Try.underlying80 rfl rfl Try.sizeOf22 (by decide) (hA.ev rfl)) ?_; clear hA; intro a hA
  refine d_one (i := 11) (L' := #[true, true, true, true, true, true, true, true, true, true, true, true]) (by kernel_rfl) rfl rfl (e_store (g := g0) (off := 0) (cur := (psip_words.enc w_0)) (cs' := (psip_words.enc (sip_words.mk (IntKind.u64.wrap (w_0.v0 + w_0.v1)) w_0.v1 w_0.v2 w_0.v3))) hM .z Try.sizeOf22 hA rfl (by simp [add_mk]) rfl (by first | rfl | simp [Value.cells, Pl.len]) (one_val rfl) (Nat.le_of_ble_eq_true (enc_fitL _ _ rfl)) (sip_words.spl_v0 _ _) ?_)
  clear hM hA; intro w47 hM hE a hA
  refine ⟨fun h => absurd h (by decide), ?_⟩
  refine d_done (by kernel_rfl) ?_
  refine TN ?_
  refine wp_seq ?_
  refine draw (fun w' => Below w47.heap.size w47 w') [13] rfl ?_
  intro w48 hw hS; replace hM := hM.ext hS; clear hw
  refine d_takef (i := 0) (L' := #[true, false, false, false, false, false, false, false, false, false, false, false, false, false]) rfl (by kernel_rfl) rfl (fun _ _ _ h => h) hA (by decide) (fun _ => hS) (fun a w' hA => run_move (hA.ev rfl)) ?_; clear hA; intro a hA
  refine d_takef (i := 1) (L' := #[true, true, false, false, false, false, false, false, false, false, false, false, false, false]) rfl (by kernel_rfl) rfl (fun _ _ _ h => h) hA (by decide) (fun _ => hS) (fun a w' hA => run_move (hA.ev rfl)) ?_; clear hA; intro a hA
  refine d_takef (i := 2) (L' := #[true, true, true, false, false, false, false, false, false, false, false, false, false, false]) rfl (by kernel_rfl) rfl (fun _ _ _ h => h) hA (by decide) (fun _ => hS) (fun a w' hA => run_nilchk (hA.ev rfl)) ?_; clear hA; intro a hA
  refine d_takef (i := 3) (L' := #[true, true, true, true, false, false, false, false, false, false, false, false, false, false]) rfl (by kernel_rfl) rfl (fun _ _ _ h => h) hA (by decide) (fun _ => hS) (fun a w' hA => run_field' Try.underlying80 rfl rfl Try.sizeOf22 (by decide) (hA.ev rfl)) ?_; clear hA; intro a hA
  refine rebase hS ?_; clear hS; intro hS
  refine d_take (i := 4) (L' := #[true, true, true, true, true, false, false, false, false, false, false, false, false, false]) rfl (by kernel_rfl) rfl (fun _ _ _ h => h) hA (by decide) rfl hS (fun a w' hA hS' => run_ld (hA.ev rfl) (run_loadS Try.isAgg22 ((sip_words.at_v1 (hM.box .z)).extB hS'))) ?_; clear hA; intro a hA
  refine d_takef (i := 6) (L' := #[true, true, true, true, true, false, true, false, false, false, false, false, false, false]) rfl (by kernel_rfl) rfl (fun _ _ _ h => h) hA (by decide) (fun _ => hS) (fun a w' hA => run_move (hA.ev rfl)) ?_; clear hA; intro a hA
  refine d_takef (i := 7) (L' := #[true, true, true, true, true, false, true, true, false, false, false, false, false, false]) rfl (by kernel_rfl) rfl (fun _ _ _ h => h) hA (by decide) (fun _ => hS) (fun a w' hA => run_nilchk (hA.ev rfl)) ?_; clear hA; intro a hA
  refine d_takef (i := 8) (L' := #[true, true, true, true, true, false, true, true, true, false, false, false, false, false]) rfl (by kernel_rfl) rfl (fun _ _ _ h => h) hA (by decide) (fun _ => hS) (fun a w' hA => run_field' Try.underlying80 rfl rfl Try.sizeOf22 (by decide) (hA.ev rfl)) ?_; clear hA; intro a hA
  refine d_take (i := 9) (L' := #[true, true, true, true, true, false, true, true, true, true, false, false, false, false]) rfl (by kernel_rfl) rfl (fun _ _ _ h => h) hA (by decide) rfl hS (fun a w' hA hS' => run_ld (hA.ev rfl) (run_loadS Try.isAgg22 ((sip_words.at_v0 (hM.box .z)).extB hS'))) ?_; clear hA; intro a hA
  obtain ⟨r50, H51, H⟩ := Option.bind_eq_some_iff.1 H
  refine d_one (i := 5) (L' := #[true, true, true, true, true, true, true, true, true, true, false, false, false, false]) (by kernel_rfl) rfl rfl (st_call Try.call69 hA [(.int .u64 w_0.v1), (.int .i64 13)] rfl (by decide) (bits_RotateLeft64.calls _ _ _ _ _ _ (hM.front (Ms := [])) H51) ?_)
  clear hA; rintro _ w52 ⟨rfl, hMc⟩ a hA
  have hE := hMc.below; have hM := hM.call (Ms := []) hMc
  clear hMc; simp only [List.cons_append, List.nil_append] at hM
  replace hS := hS.trans (hE.mono hS.size)
  refine ⟨fun _ => hS, ?_⟩
  refine d_takef (i := 10) (L' := #[true, true, true, true, true, true, true, true, true, true, true, false, false, false]) rfl (by kernel_rfl) rfl (fun _ _ _ h => h) hA (by decide) (fun _ => hS) (fun a w' hA => run_bin (hA.ev rfl) (hA.ev rfl) (bin_xor _ _ _ _)) ?_; clear hA; intro a hA
  refine d_takef (i := 11) (L' := #[true, true, true, true, true, true, true, true, true, true, true, true, false, false]) rfl (by kernel_rfl) rfl (fun _ _ _ h => h) hA (by decide) (fun _ => hS) (fun a w' hA => run_nilchk (hA.ev rfl)) ?_; clear hA; intro a hA
  refine d_takef (i := 12) (L' := #[true, true, true, true, true, true, true, true, true, true, true, true, true, false]) rfl (by kernel_rfl) rfl (fun _ _ _ h => h) hA (by decide) (fun _ => hS) (fun a w' hA => run_field' Try.underlying80 rfl rfl Try.sizeOf22 (by decide) (hA.ev rfl)) ?_; clear hA; intro a hA
  refine d_one (i := 13) (L' := #[true, true, true, true, true, true, true, true, true, true, true, true, true, true]) (by kernel_rfl) rfl rfl (e_store (g := g0) (off := 1) (cur := (psip_words.enc (sip_words.mk (IntKind.u64.wrap (w_0.v0 + w_0.v1)) w_0.v1 w_0.v2 w_0.v3))) (cs' := (psip_words.enc (sip_words.mk (IntKind.u64.wrap (w_0.v0 + w_0.v1)) (ixor .u64 r50 (IntKind.u64.wrap (w_0.v0 + w_0.v1))) w_0.v2 w_0.v3))) hM .z Try.sizeOf22 hA rfl (by simp [add_mk]) rfl (by first | rfl | simp [Value.cells, Pl.len]) (one_val rfl) (Nat.le_of_ble_eq_true (enc_fitL _ _ rfl)) (sip_words.spl_v1 _ _) ?_)
  clear hM hA; intro w53 hM hE a hA
  refine ⟨fun h => absurd h (by decide), ?_⟩
  refine d_done (by kernel_rfl) ?_
  refine TN ?_
  refine wp_seq ?_
  refine wp_region_lit ?_
  refine L1 (stv hA (by decide) (run_move (hA.ev rfl)) ?_)
  clear hA; intro a hA
  refine L1 (stv hA (by decide) (run_move (hA.ev rfl)) ?_)
  clear hA; intro a hA
  refine L1 (stv hA (by decide) (run_nilchk (hA.ev rfl)) ?_)
  clear hA; intro a hA
  refine L1 (stv hA (by decide) (run_field' Try.underlying80 rfl rfl Try.sizeOf22 (by decide) (hA.ev rfl)) ?_)
  clear hA; intro a hA
  refine L1 (stv hA (by decide) (run_ld (hA.ev rfl) (run_loadS Try.isAgg22 (sip_words.at_v0 (hM.box .z)))) ?_)
  clear hA; intro a hA
  obtain ⟨r54, H55, H⟩ := Option.bind_eq_some_iff.1 H
  refine L1 (st_call Try.call69 hA [(.int .u64 (IntKind.u64.wrap (w_0.v0 + w_0.v1))), (.int .i64 32)] rfl (by decide) (bits_RotateLeft64.calls _ _ _ _ _ _ (hM.front (Ms := [])) H55) ?_)
  clear hA; rintro _ w56 ⟨rfl, hMc⟩ a hA
  have hE := hMc.below; have hM := hM.call (Ms := []) hMc
  clear hMc; simp only [List.cons_append, List.nil_append] at hM
  refine L1 (stv hA (by decide) (run_nilchk (hA.ev rfl)) ?_)
  clear hA; intro a hA
  refine L1 (stv hA (by decide) (run_field' Try.underlying80 rfl rfl Try.sizeOf22 (by decide) (hA.ev rfl)) ?_)
  clear hA; intro a hA
  refine L1 (e_store (g := g0) (off := 0) (cur := (psip_words.enc (sip_words.mk (IntKind.u64.wrap (w_0.v0 + w_0.v1)) (ixor .u64 r50 (IntKind.u64.wrap (w_0.v0 + w_0.v1))) w_0.v2 w_0.v3))) (cs' := (psip_words.enc (sip_words.mk r54 (ixor .u64 r50 (IntKind.u64.wrap (w_0.v0 + w_0.v1))) w_0.v2 w_0.v3))) hM .z Try.sizeOf22 hA rfl (by simp [add_mk]) rfl (by first | rfl | simp [Value.cells, Pl.len]) (one_val rfl) (Nat.le_of_ble_eq_true (enc_fitL _ _ rfl)) (sip_words.spl_v0 _ _) ?_)
  clear hM hA; intro w57 hM hE a hA
  refine LQ ?_
  refine TN ?_
  refine wp_seq ?_
  refine draw (fun w' => Below w57.heap.size w57 w') [11] rfl ?_
  intro w58 hw hS; replace hM := hM.ext hS; clear hw
  refine d_takef (i := 0) (L' := #[true, false, false, false, false, false, false, false, false, false, false, false]) rfl (by kernel_rfl) rfl (fun _ _ _ h => h) hA (by decide) (fun _ => hS) (fun a w' hA => run_move (hA.ev rfl)) ?_; clear hA; intro a hA
  refine d_takef (i := 1) (L' := #[true, true, false, false, false, false, false, false, false, false, false, false]) rfl (by kernel_rfl) rfl (fun _ _ _ h => h) hA (by decide) (fun _ => hS) (fun a w' hA => run_nilchk (hA.ev rfl)) ?_; clear hA; intro a hA
  refine d_takef (i := 2) (L' := #[true, true, true, false, false, false, false, false, false, false, false, false]) rfl (by kernel_rfl) rfl (fun _ _ _ h => h) hA (by decide) (fun _ => hS) (fun a w' hA => run_field' Try.underlying80 rfl rfl Try.sizeOf22 (by decide) (hA.ev rfl)) ?_; clear hA; intro a hA
  refine rebase hS ?_; clear hS; intro hS
  refine d_take (i := 3) (L' := #[true, true, true, true, false, false, false, false, false, false, false, false]) rfl (by kernel_rfl) rfl (fun _ _ _ h => h) hA (by decide) rfl hS (fun a w' hA hS' => run_ld (hA.ev rfl) (run_loadS Try.isAgg22 ((sip_words.at_v2 (hM.box .z)).extB hS'))) ?_; clear hA; intro a hA
  refine d_takef (i := 4) (L' := #[true, true, true, true, true, false, false, false, false, false, false, false]) rfl (by kernel_rfl) rfl (fun _ _ _ h => h) hA (by decide) (fun _ => hS) (fun a w' hA => run_move (hA.ev rfl)) ?_; clear hA; intro a hA
  refine d_takef (i := 5) (L' := #[true, true, true, true, true, true, false, false, false, false, false, false]) rfl (by kernel_rfl) rfl (fun _ _ _ h => h) hA (by decide) (fun _ => hS) (fun a w' hA => run_nilchk (hA.ev rfl)) ?_; clear hA; intro a hA
  refine d_takef (i := 6) (L' := #[true, true, true, true, true, true, true, false, false, false, false, false]) rfl (by kernel_rfl) rfl (fun _ _ _ h => h) hA (by decide) (fun _ => hS) (fun a w' hA => run_field' Try.underlying80 rfl rfl Try.sizeOf22 (by decide) (hA.ev rfl)) ?_; clear hA; intro a hA
  refine d_take (i := 7) (L' := #[true, true, true, true, true, true, true, true, false, false, false, false]) rfl (by kernel_rfl) rfl (fun _ _ _ h => h) hA (by decide) rfl hS (fun a w' hA hS' => run_ld (hA.ev rfl) (run_loadS Try.isAgg22 ((sip_words.at_v3 (hM.box .z)).extB hS'))) ?_; clear hA; intro a hA
  refine d_takef (i := 8) (L' := #[true, true, true, true, true, true, true, true, true, false, false, false]) rfl (by kernel_rfl) rfl (fun _ _ _ h => h) hA (by decide) (fun _ => hS) (fun a w' hA => run_bin (hA.ev rfl) (hA.ev rfl) (bin_add _ _ _ _)) ?_; clear hA; intro a hA
  refine d_takef (i := 9) (L' := #[true, true, true, true, true, true, true, true, true, true, false, false]) rfl (by kernel_rfl) rfl (fun _ _ _ h => h) hA (by decide) (fun _ => hS) (fun a w' hA => run_nilchk (hA.ev rfl)) ?_; clear hA; intro a hA
  refine d_takef (i := 10) (L' := #[true, true, true, true, true, true, true, true, true, true, true, false]) rfl (by kernel_rfl) rfl (fun _ _ _ h => h) hA (by decide) (fun _ => hS) (fun a w' hA => run_field' Try.underlying80 rfl rfl Try.sizeOf22 (by decide) (hA.ev rfl)) ?_; clear hA; intro a hA
  refine d_one (i := 11) (L' := #[true, true, true, true, true, true, true, true, true, true, true, true]) (by kernel_rfl) rfl rfl (e_store (g := g0) (off := 2) (cur := (psip_words.enc (sip_words.mk r54 (ixor .u64 r50 (IntKind.u64.wrap (w_0.v0 + w_0.v1))) w_0.v2 w_0.v3))) (cs' := (psip_words.enc (sip_words.mk r54 (ixor .u64 r50 (IntKind.u64.wrap (w_0.v0 + w_0.v1))) (IntKind.u64.wrap (w_0.v2 + w_0.v3)) w_0.v3))) hM .z Try.sizeOf22 hA rfl (by simp [add_mk]) rfl (by first | rfl | simp [Value.cells, Pl.len]) (one_val rfl) (Nat.le_of_ble_eq_true (enc_fitL _ _ rfl)) (sip_words.spl_v2 _ _) ?_)
  clear hM hA; intro w60 hM hE a hA
  refine ⟨fun h => absurd h (by decide), ?_⟩
  refine d_done (by kernel_rfl) ?_
  refine TN ?_
  refine wp_seq ?_
  refine draw (fun w' => Below w60.heap.size w60 w') [13] rfl ?_
  intro w61 hw hS; replace hM := hM.ext hS; clear hw
  refine d_takef (i := 0) (L' := #[true, false, false, false, false, false, false, false, false, false, false, false, false, false]) rfl (by kernel_rfl) rfl (fun _ _ _ h => h) hA (by decide) (fun _ => hS) (fun a w' hA => run_move (hA.ev rfl)) ?_; clear hA; intro a hA
  refine d_takef (i := 1) (L' := #[true, true, false, false, false, false, false, false, false, false, false, false, false, false]) rfl (by kernel_rfl) rfl (fun _ _ _ h => h) hA (by decide) (fun _ => hS) (fun a w' hA => run_move (hA.ev rfl)) ?_; clear hA; intro a hA
  refine d_takef (i := 2) (L' := #[true, true, true, false, false, false, false, false, false, false, false, false, false, false]) rfl (by kernel_rfl) rfl (fun _ _ _ h => h) hA (by decide) (fun _ => hS) (fun a w' hA => run_nilchk (hA.ev rfl)) ?_; clear hA; intro a hA
  refine d_takef (i := 3) (L' := #[true, true, true, true, false, false, false, false, false, false, false, false, false, false]) rfl (by kernel_rfl) rfl (fun _ _ _ h => h) hA (by decide) (fun _ => hS) (fun a w' hA => run_field' Try.underlying80 rfl rfl Try.sizeOf22 (by decide) (hA.ev rfl)) ?_; clear hA; intro a hA
  refine rebase hS ?_; clear hS; intro hS
  refine d_take (i := 4) (L' := #[true, true, true, true, true, false, false, false, false, false, false, false, false, false]) rfl (by kernel_rfl) rfl (fun _ _ _ h => h) hA (by decide) rfl hS (fun a w' hA hS' => run_ld (hA.ev rfl) (run_loadS Try.isAgg22 ((sip_words.at_v3 (hM.box .z)).extB hS'))) ?_; clear hA; intro a hA
  refine d_takef (i := 6) (L' := #[true, true, true, true, true, false, true, false, false, false, false, false, false, false]) rfl (by kernel_rfl) rfl (fun _ _ _ h => h) hA (by decide) (fun _ => hS) (fun a w' hA => run_move (hA.ev rfl)) ?_; clear hA; intro a hA
  refine d_takef (i := 7) (L' := #[true, true, true, true, true, false, true, true, false, false, false, false, false, false]) rfl (by kernel_rfl) rfl (fun _ _ _ h => h) hA (by decide) (fun _ => hS) (fun a w' hA => run_nilchk (hA.ev rfl)) ?_; clear hA; intro a hA
  refine d_takef (i := 8) (L' := #[true, true, true, true, true, false, true, true, true, false, false, false, false, false]) rfl (by kernel_rfl) rfl (fun _ _ _ h => h) hA (by decide) (fun _ => hS) (fun a w' hA => run_field' Try.underlying80 rfl rfl Try.sizeOf22 (by decide) (hA.ev rfl)) ?_; clear hA; intro a hA
  refine d_take (i := 9) (L' := #[true, true, true, true, true, false, true, true, true, true, false, false, false, false]) rfl (by kernel_rfl) rfl (fun _ _ _ h => h) hA (by decide) rfl hS (fun a w' hA hS' => run_ld (hA.ev rfl) (run_loadS Try.isAgg22 ((sip_words.at_v2 (hM.box .z)).extB hS'))) ?_; clear hA; intro a hA
  obtain ⟨r63, H64, H⟩ := Option.bind_eq_some_iff.1 H
  refine d_one (i := 5) (L' := #[true, true, true, true, true, true, true, true, true, true, false, false, false, false]) (by kernel_rfl) rfl rfl (st_call Try.call69 hA [(.int .u64 w_0.v3), (.int .i64 16)] rfl (by decide) (bits_RotateLeft64.calls _ _ _ _ _ _ (hM.front (Ms := [])) H64) ?_)
  clear hA; rintro _ w65 ⟨rfl, hMc⟩ a hA
  have hE := hMc.below; have hM := hM.call (Ms := []) hMc
  clear hMc; simp only [List.cons_append, List.nil_append] at hM
  replace hS := hS.trans (hE.mono hS.size)
  refine ⟨fun _ => hS, ?_⟩
  refine d_takef (i := 10) (L' := #[true, true, true, true, true, true, true, true, true, true, true, false, false, false]) rfl (by kernel_rfl) rfl (fun _ _ _ h => h) hA (by decide) (fun _ => hS) (fun a w' hA => run_bin (hA.ev rfl) (hA.ev rfl) (bin_xor _ _ _ _)) ?_; clear hA; intro a hA
  refine d_takef (i := 11) (L' := #[true, true, true, true, true, true, true, true, true, true, true, true, false, false]) rfl (by kernel_rfl) rfl (fun _ _ _ h => h) hA (by decide) (fun _ => hS) (fun a w' hA => run_nilchk (hA.ev rfl)) ?_; clear hA; intro a hA
  refine d_takef (i := 12) (L' := #[true, true, true, true, true, true, true, true, true, true, true, true, true, false]) rfl (by kernel_rfl) rfl (fun _ _ _ h => h) hA (by decide) (fun _ => hS) (fun a w' hA => run_field' Try.underlying80 rfl rfl Try.sizeOf22 (by decide) (hA.ev rfl)) ?_; clear hA; intro a hA
  refine d_one (i := 13) (L' := #[true, true, true, true, true, true, true, true, true, true, true, true, true, true]) (by kernel_rfl) rfl rfl (e_store (g := g0) (off := 3) (cur := (psip_words.enc (sip_words.mk r54 (ixor .u64 r50 (IntKind.u64.wrap (w_0.v0 + w_0.v1))) (IntKind.u64.wrap (w_0.v2 + w_0.v3)) w_0.v3))) (cs' := (psip_words.enc (sip_words.mk r54 (ixor .u64 r50 (IntKind.u64.wrap (w_0.v0 + w_0.v1))) (IntKind.u64.wrap (w_0.v2 + w_0.v3)) (ixor .u64 r63 (IntKind.u64.wrap (w_0.v2 + w_0.v3)))))) hM .z Try.sizeOf22 hA rfl (by simp [add_mk]) rfl (by first | rfl | simp [Value.cells, Pl.len]) (one_val rfl) (Nat.le_of_ble_eq_true (enc_fitL _ _ rfl)) (sip_words.spl_v3 _ _) ?_)
  clear hM hA; intro w66 hM hE a hA
  refine ⟨fun h => absurd h (by decide), ?_⟩
  refine d_done (by kernel_rfl) ?_
  refine TN ?_
  refine wp_seq ?_
  refine draw (fun w' => Below w66.heap.size w66 w') [11] rfl ?_
  intro w67 hw hS; replace hM := hM.ext hS; clear hw
  refine d_takef (i := 0) (L' := #[true, false, false, false, false, false, false, false, false, false, false, false]) rfl (by kernel_rfl) rfl (fun _ _ _ h => h) hA (by decide) (fun _ => hS) (fun a w' hA => run_move (hA.ev rfl)) ?_; clear hA; intro a hA
  refine d_takef (i := 1) (L' := #[true, true, false, false, false, false, false, false, false, false, false, false]) rfl (by kernel_rfl) rfl (fun _ _ _ h => h) hA (by decide) (fun _ => hS) (fun a w' hA => run_nilchk (hA.ev rfl)) ?_; clear hA; intro a hA
  refine d_takef (i := 2) (L' := #[true, true, true, false, false, false, false, false, false, false, false, false]) rfl (by kernel_rfl) rfl (fun _ _ _ h => h) hA (by decide) (fun _ => hS) (fun a w' hA => run_field' Try.underlying80 rfl rfl Try.sizeOf22 (by decide) (hA.ev rfl)) ?_; clear hA; intro a hA
  refine rebase hS ?_; clear hS; intro hS
  refine d_take (i := 3) (L' := #[true, true, true, true, false, false, false, false, false, false, false, false]) rfl (by kernel_rfl) rfl (fun _ _ _ h => h) hA (by decide) rfl hS (fun a w' hA hS' => run_ld (hA.ev rfl) (run_loadS Try.isAgg22 ((sip_words.at_v0 (hM.box .z)).extB hS'))) ?_; clear hA; intro a hA
  refine d_takef (i := 4) (L' := #[true, true, true, true, true, false, false, false, false, false, false, false]) rfl (by kernel_rfl) rfl (fun _ _ _ h => h) hA (by decide) (fun _ => hS) (fun a w' hA => run_move (hA.ev rfl)) ?_; clear hA; intro a hA
  refine d_takef (i := 5) (L' := #[true, true, true, true, true, true, false, false, false, false, false, false]) rfl (by kernel_rfl) rfl (fun _ _ _ h => h) hA (by decide) (fun _ => hS) (fun a w' hA => run_nilchk (hA.ev rfl)) ?_; clear hA; intro a hA
  refine d_takef (i := 6) (L' := #[true, true, true, true, true, true, true, false, false, false, false, false]) rfl (by kernel_rfl) rfl (fun _ _ _ h => h) hA (by decide) (fun _ => hS) (fun a w' hA => run_field' Try.underlying80 rfl rfl Try.sizeOf22 (by decide) (hA.ev rfl)) ?_; clear hA; intro a hA
  refine d_take (i := 7) (L' := #[true, true, true, true, true, true, true, true, false, false, false, false]) rfl (by kernel_rfl) rfl (fun _ _ _ h => h) hA (by decide) rfl hS (fun a w' hA hS' => run_ld (hA.ev rfl) (run_loadS Try.isAgg22 ((sip_words.at_v3 (hM.box .z)).extB hS'))) ?_; clear hA; intro a hA
  refine d_takef (i := 8) (L' := #[true, true, true, true, true, true, true, true, true, false, false, false]) rfl (by kernel_rfl) rfl (fun _ _ _ h => h) hA (by decide) (fun _ => hS) (fun a w' hA => run_bin (hA.ev rfl) (hA.ev rfl) (bin_add _ _ _ _)) ?_; clear hA; intro a hA
  refine d_takef (i := 9) (L' := #[true, true, true, true, true, true, true, true, true, true, false, false]) rfl (by kernel_rfl) rfl (fun _ _ _ h => h) hA (by decide) (fun _ => hS) (fun a w' hA => run_nilchk (hA.ev rfl)) ?_; clear hA; intro a hA
  refine d_takef (i := 10) (L' := #[true, true, true, true, true, true, true, true, true, true, true, false]) rfl (by kernel_rfl) rfl (fun _ _ _ h => h) hA (by decide) (fun _ => hS) (fun a w' hA => run_field' Try.underlying80 rfl rfl Try.sizeOf22 (by decide) (hA.ev rfl)) ?_; clear hA; intro a hA
  refine d_one (i := 11) (L' := #[true, true, true, true, true, true, true, true, true, true, true, true]) (by kernel_rfl) rfl rfl (e_store (g := g0) (off := 0) (cur := (psip_words.enc (sip_words.mk r54 (ixor .u64 r50 (IntKind.u64.wrap (w_0.v0 + w_0.v1))) (IntKind.u64.wrap (w_0.v2 + w_0.v3)) (ixor .u64 r63 (IntKind.u64.wrap (w_0.v2 + w_0.v3)))))) (cs' := (psip_words.enc (sip_words.mk (IntKind.u64.wrap (r54 + (ixor .u64 r63 (IntKind.u64.wrap (w_0.v2 + w_0.v3))))) (ixor .u64 r50 (IntKind.u64.wrap (w_0.v0 + w_0.v1))) (IntKind.u64.wrap (w_0.v2 + w_0.v3)) (ixor .u64 r63 (IntKind.u64.wrap (w_0.v2 + w_0.v3)))))) hM .z Try.sizeOf22 hA rfl (by simp [add_mk]) rfl (by first | rfl | simp [Value.cells, Pl.len]) (one_val rfl) (Nat.le_of_ble_eq_true (enc_fitL _ _ rfl)) (sip_words.spl_v0 _ _) ?_)
  clear hM hA; intro w69 hM hE a hA
  refine ⟨fun h => absurd h (by decide), ?_⟩
  refine d_done (by kernel_rfl) ?_
  refine TN ?_
  refine wp_seq ?_
  refine draw (fun w' => Below w69.heap.size w69 w') [13] rfl ?_
  intro w70 hw hS; replace hM := hM.ext hS; clear hw
  refine d_takef (i := 0) (L' := #[true, false, false, false, false, false, false, false, false, false, false, false, false, false]) rfl (by kernel_rfl) rfl (fun _ _ _ h => h) hA (by decide) (fun _ => hS) (fun a w' hA => run_move (hA.ev rfl)) ?_; clear hA; intro a hA
  refine d_takef (i := 1) (L' := #[true, true, false, false, false, false, false, false, false, false, false, false, false, false]) rfl (by kernel_rfl) rfl (fun _ _ _ h => h) hA (by decide) (fun _ => hS) (fun a w' hA => run_move (hA.ev rfl)) ?_; clear hA; intro a hA
  refine d_takef (i := 2) (L' := #[true, true, true, false, false, false, false, false, false, false, false, false, false, false]) rfl (by kernel_rfl) rfl (fun _ _ _ h => h) hA (by decide) (fun _ => hS) (fun a w' hA => run_nilchk (hA.ev rfl)) ?_; clear hA; intro a hA
  refine d_takef (i := 3) (L' := #[true, true, true, true, false, false, false, false, false, false, false, false, false, false]) rfl (by kernel_rfl) rfl (fun _ _ _ h => h) hA (by decide) (fun _ => hS) (fun a w' hA => run_field' Try.underlying80 rfl rfl Try.sizeOf22 (by decide) (hA.ev rfl)) ?_; clear hA; intro a hA
  refine rebase hS ?_; clear hS; intro hS
  refine d_take (i := 4) (L' := #[true, true, true, true, true, false, false, false, false, false, false, false, false, false]) rfl (by kernel_rfl) rfl (fun _ _ _ h => h) hA (by decide) rfl hS (fun a w' hA hS' => run_ld (hA.ev rfl) (run_loadS Try.isAgg22 ((sip_words.at_v3 (hM.box .z)).extB hS'))) ?_; clear hA; intro a hA
  refine d_takef (i := 6) (L' := #[true, true, true, true, true, false, true, false, false, false, false, false, false, false]) rfl (by kernel_rfl) rfl (fun _ _ _ h => h) hA (by decide) (fun _ => hS) (fun a w' hA => run_move (hA.ev rfl)) ?_; clear hA; intro a hA
  refine d_takef (i := 7) (L' := #[true, true, true, true, true, false, true, true, false, false, false, false, false, false]) rfl (by kernel_rfl) rfl (fun _ _ _ h => h) hA (by decide) (fun _ => hS) (fun a w' hA => run_nilchk (hA.ev rfl)) ?_; clear hA; intro a hA
  refine d_takef (i := 8) (L' := #[true, true, true, true, true, false, true, true, true, false, false, false, false, false]) rfl (by kernel_rfl) rfl (fun _ _ _ h => h) hA (by decide) (fun _ => hS) (fun a w' hA => run_field' Try.underlying80 rfl rfl Try.sizeOf22 (by decide) (hA.ev rfl)) ?_; clear hA; intro a hA
  refine d_take (i := 9) (L' := #[true, true, true, true, true, false, true, true, true, true, false, false, false, false]) rfl (by kernel_rfl) rfl (fun _ _ _ h => h) hA (by decide) rfl hS (fun a w' hA hS' => run_ld (hA.ev rfl) (run_loadS Try.isAgg22 ((sip_words.at_v0 (hM.box .z)).extB hS'))) ?_; clear hA; intro a hA
  obtain ⟨r72, H73, H⟩ := Option.bind_eq_some_iff.1 H
  refine d_one (i := 5) (L' := #[true, true, true, true, true, true, true, true, true, true, false, false, false, false]) (by kernel_rfl) rfl rfl (st_call Try.call69 hA [(.int .u64 (ixor .u64 r63 (IntKind.u64.wrap (w_0.v2 + w_0.v3)))), (.int .i64 21)] rfl (by decide) (bits_RotateLeft64.calls _ _ _ _ _ _ (hM.front (Ms := [])) H73) ?_)
  clear hA; rintro _ w74 ⟨rfl, hMc⟩ a hA
  have hE := hMc.below; have hM := hM.call (Ms := []) hMc
  clear hMc; simp only [List.cons_append, List.nil_append] at hM
  replace hS := hS.trans (hE.mono hS.size)
  refine ⟨fun _ => hS, ?_⟩
  refine d_takef (i := 10) (L' := #[true, true, true, true, true, true, true, true, true, true, true, false, false, false]) rfl (by kernel_rfl) rfl (fun _ _ _ h => h) hA (by decide) (fun _ => hS) (fun a w' hA => run_bin (hA.ev rfl) (hA.ev rfl) (bin_xor _ _ _ _)) ?_; clear hA; intro a hA
  refine d_takef (i := 11) (L' := #[true, true, true, true, true, true, true, true, true, true, true, true, false, false]) rfl (by kernel_rfl) rfl (fun _ _ _ h => h) hA (by decide) (fun _ => hS) (fun a w' hA => run_nilchk (hA.ev rfl)) ?_; clear hA; intro a hA
  refine d_takef (i := 12) (L' := #[true, true, true, true, true, true, true, true, true, true, true, true, true, false]) rfl (by kernel_rfl) rfl (fun _ _ _ h => h) hA (by decide) (fun _ => hS) (fun a w' hA => run_field' Try.underlying80 rfl rfl Try.sizeOf22 (by decide) (hA.ev rfl)) ?_; clear hA; intro a hA
  refine d_one (i := 13) (L' := #[true, true, true, true, true, true, true, true, true, true, true, true, true, true]) (by kernel_rfl) rfl rfl (e_store (g := g0) (off := 3) (cur := (psip_words.enc (sip_words.mk (IntKind.u64.wrap (r54 + (ixor .u64 r63 (IntKind.u64.wrap (w_0.v2 + w_0.v3))))) (ixor .u64 r50 (IntKind.u64.wrap (w_0.v0 + w_0.v1))) (IntKind.u64.wrap (w_0.v2 + w_0.v3)) (ixor .u64 r63 (IntKind.u64.wrap (w_0.v2 + w_0.v3)))))) (cs' := (psip_words.enc (sip_words.mk (IntKind.u64.wrap (r54 + (ixor .u64 r63 (IntKind.u64.wrap (w_0.v2 + w_0.v3))))) (ixor .u64 r50 (IntKind.u64.wrap (w_0.v0 + w_0.v1))) (IntKind.u64.wrap (w_0.v2 + w_0.v3)) (ixor .u64 r72 (IntKind.u64.wrap (r54 + (ixor .u64 r63 (IntKind.u64.wrap (w_0.v2 + w_0.v3))))))))) hM .z Try.sizeOf22 hA rfl (by simp [add_mk]) rfl (by first | rfl | simp [Value.cells, Pl.len]) (one_val rfl) (Nat.le_of_ble_eq_true (enc_fitL _ _ rfl)) (sip_words.spl_v3 _ _) ?_)
  clear hM hA; intro w75 hM hE a hA
  refine ⟨fun h => absurd h (by decide), ?_⟩
  refine d_done (by kernel_rfl) ?_
  refine TN ?_
  refine wp_seq ?_
  refine draw (fun w' => Below w75.heap.size w75 w') [11] rfl ?_
  intro w76 hw hS; replace hM := hM.ext hS; clear hw
  refine d_takef (i := 0) (L' := #[true, false, false, false, false, false, false, false, false, false, false, false]) rfl (by kernel_rfl) rfl (fun _ _ _ h => h) hA (by decide) (fun _ => hS) (fun a w' hA => run_move (hA.ev rfl)) ?_; clear hA; intro a hA
  refine d_takef (i := 1) (L' := #[true, true, false, false, false, false, false, false, false, false, false, false]) rfl (by kernel_rfl) rfl (fun _ _ _ h => h) hA (by decide) (fun _ => hS) (fun a w' hA => run_nilchk (hA.ev rfl)) ?_; clear hA; intro a hA
  refine d_takef (i := 2) (L' := #[true, true, true, false, false, false, false, false, false, false, false, false]) rfl (by kernel_rfl) rfl (fun _ _ _ h => h) hA (by decide) (fun _ => hS) (fun a w' hA => run_field' Try.underlying80 rfl rfl Try.sizeOf22 (by decide) (hA.ev rfl)) ?_; clear hA; intro a hA
  refine rebase hS ?_; clear hS; intro hS
  refine d_take (i := 3) (L' := #[true, true, true, true, false, false, false, false, false, false, false, false]) rfl (by kernel_rfl) rfl (fun _ _ _ h => h) hA (by decide) rfl hS (fun a w' hA hS' => run_ld (hA.ev rfl) (run_loadS Try.isAgg22 ((sip_words.at_v2 (hM.box .z)).extB hS'))) ?_; clear hA; intro a hA
  refine d_takef (i := 4) (L' := #[true, true, true, true, true, false, false, false, false, false, false, false]) rfl (by kernel_rfl) rfl (fun _ _ _ h => h) hA (by decide) (fun _ => hS) (fun a w' hA => run_move (hA.ev rfl)) ?_; clear hA; intro a hA
  refine d_takef (i := 5) (L' := #[true, true, true, true, true, true, false, false, false, false, false, false]) rfl (by kernel_rfl) rfl (fun _ _ _ h => h) hA (by decide) (fun _ => hS) (fun a w' hA => run_nilchk (hA.ev rfl)) ?_; clear hA; intro a hA
  refine d_takef (i := 6) (L' := #[true, true, true, true, true, true, true, false, false, false, false, false]) rfl (by kernel_rfl) rfl (fun _ _ _ h => h) hA (by decide) (fun _ => hS) (fun a w' hA => run_field' Try.underlying80 rfl rfl Try.sizeOf22 (by decide) (hA.ev rfl)) ?_; clear hA; intro a hA
  refine d_take (i := 7) (L' := #[true, true, true, true, true, true, true, true, false, false, false, false]) rfl (by kernel_rfl) rfl (fun _ _ _ h => h) hA (by decide) rfl hS (fun a w' hA hS' => run_ld (hA.ev rfl) (run_loadS Try.isAgg22 ((sip_words.at_v1 (hM.box .z)).extB hS'))) ?_; clear hA; intro a hA
  refine d_takef (i := 8) (L' := #[true, true, true, true, true, true, true, true, true, false, false, false]) rfl (by kernel_rfl) rfl (fun _ _ _ h => h) hA (by decide) (fun _ => hS) (fun a w' hA => run_bin (hA.ev rfl) (hA.ev rfl) (bin_add _ _ _ _)) ?_; clear hA; intro a hA
  refine d_takef (i := 9) (L' := #[true, true, true, true, true, true, true, true, true, true, false, false]) rfl (by kernel_rfl) rfl (fun _ _ _ h => h) hA (by decide) (fun _ => hS) (fun a w' hA => run_nilchk (hA.ev rfl)) ?_; clear hA; intro a hA
  refine d_takef (i := 10) (L' := #[true, true, true, true, true, true, true, true, true, true, true, false]) rfl (by kernel_rfl) rfl (fun _ _ _ h => h) hA (by decide) (fun _ => hS) (fun a w' hA => run_field' Try.underlying80 rfl rfl Try.sizeOf22 (by decide) (hA.ev rfl)) ?_; clear hA; intro a hA
  refine d_one (i := 11) (L' := #[true, true, true, true, true, true, true, true, true, true, true, true]) (by kernel_rfl) rfl rfl (e_store (g := g0) (off := 2) (cur := (psip_words.enc (sip_words.mk (IntKind.u64.wrap (r54 + (ixor .u64 r63 (IntKind.u64.wrap (w_0.v2 + w_0.v3))))) (ixor .u64 r50 (IntKind.u64.wrap (w_0.v0 + w_0.v1))) (IntKind.u64.wrap (w_0.v2 + w_0.v3)) (ixor .u64 r72 (IntKind.u64.wrap (r54 + (ixor .u64 r63 (IntKind.u64.wrap (w_0.v2 + w_0.v3))))))))) (cs' := (psip_words.enc (sip_words.mk (IntKind.u64.wrap (r54 + (ixor .u64 r63 (IntKind.u64.wrap (w_0.v2 + w_0.v3))))) (ixor .u64 r50 (IntKind.u64.wrap (w_0.v0 + w_0.v1))) (IntKind.u64.wrap ((IntKind.u64.wrap (w_0.v2 + w_0.v3)) + (ixor .u64 r50 (IntKind.u64.wrap (w_0.v0 + w_0.v1))))) (ixor .u64 r72 (IntKind.u64.wrap (r54 + (ixor .u64 r63 (IntKind.u64.wrap (w_0.v2 + w_0.v3))))))))) hM .z Try.sizeOf22 hA rfl (by simp [add_mk]) rfl (by first | rfl | simp [Value.cells, Pl.len]) (one_val rfl) (Nat.le_of_ble_eq_true (enc_fitL _ _ rfl)) (sip_words.spl_v2 _ _) ?_)
  clear hM hA; intro w78 hM hE a hA
  refine ⟨fun h => absurd h (by decide), ?_⟩
  refine d_done (by kernel_rfl) ?_
  refine TN ?_
  refine wp_seq ?_
  refine draw (fun w' => Below w78.heap.size w78 w') [13] rfl ?_
  intro w79 hw hS; replace hM := hM.ext hS; clear hw
  refine d_takef (i := 0) (L' := #[true, false, false, false, false, false, false, false, false, false, false, false, false, false]) rfl (by kernel_rfl) rfl (fun _ _ _ h => h) hA (by decide) (fun _ => hS) (fun a w' hA => run_move (hA.ev rfl)) ?_; clear hA; intro a hA
  refine d_takef (i := 1) (L' := #[true, true, false, false, false, false, false, false, false, false, false, false, false, false]) rfl (by kernel_rfl) rfl (fun _ _ _ h => h) hA (by decide) (fun _ => hS) (fun a w' hA => run_move (hA.ev rfl)) ?_; clear hA; intro a hA
  refine d_takef (i := 2) (L' := #[true, true, true, false, false, false, false, false, false, false, false, false, false, false]) rfl (by kernel_rfl) rfl (fun _ _ _ h => h) hA (by decide) (fun _ => hS) (fun a w' hA => run_nilchk (hA.ev rfl)) ?_; clear hA; intro a hA
  refine d_takef (i := 3) (L' := #[true, true, true, true, false, false, false, false, false, false, false, false, false, false]) rfl (by kernel_rfl) rfl (fun _ _ _ h => h) hA (by decide) (fun _ => hS) (fun a w' hA => run_field' Try.underlying80 rfl rfl Try.sizeOf22 (by decide) (hA.ev rfl)) ?_; clear hA; intro a hA
  refine rebase hS ?_; clear hS; intro hS
  refine d_take (i := 4) (L' := #[true, true, true, true, true, false, false, false, false, false, false, false, false, false]) rfl (by kernel_rfl) rfl (fun _ _ _ h => h) hA (by decide) rfl hS (fun a w' hA hS' => run_ld (hA.ev rfl) (run_loadS Try.isAgg22 ((sip_words.at_v1 (hM.box .z)).extB hS'))) ?_; clear hA; intro a hA
  refine d_takef (i := 6) (L' := #[true, true, true, true, true, false, true, false, false, false, false, false, false, false]) rfl (by kernel_rfl) rfl (fun _ _ _ h => h) hA (by decide) (fun _ => hS) (fun a w' hA => run_move (hA.ev rfl)) ?_; clear hA; intro a hA
  refine d_takef (i := 7) (L' := #[true, true, true, true, true, false, true, true, false, false, false, false, false, false]) rfl (by kernel_rfl) rfl (fun _ _ _ h => h) hA (by decide) (fun _ => hS) (fun a w' hA => run_nilchk (hA.ev rfl)) ?_; clear hA; intro a hA
  refine d_takef (i := 8) (L' := #[true, true, true, true, true, false, true, true, true, false, false, false, false, false]) rfl (by kernel_rfl) rfl (fun _ _ _ h => h) hA (by decide) (fun _ => hS) (fun a w' hA => run_field' Try.underlying80 rfl rfl Try.sizeOf22 (by decide) (hA.ev rfl)) ?_; clear hA; intro a hA
  refine d_take (i := 9) (L' := #[true, true, true, true, true, false, true, true, true, true, false, false, false, false]) rfl (by kernel_rfl) rfl (fun _ _ _ h => h) hA (by decide) rfl hS (fun a w' hA hS' => run_ld (hA.ev rfl) (run_loadS Try.isAgg22 ((sip_words.at_v2 (hM.box .z)).extB hS'))) ?_; clear hA; intro a hA
  obtain ⟨r81, H82, H⟩ := Option.bind_eq_some_iff.1 H
  refine d_one (i := 5) (L' := #[true, true, true, true, true, true, true, true, true, true, false, false, false, false]) (by kernel_rfl) rfl rfl (st_call Try.call69 hA [(.int .u64 (ixor .u64 r50 (IntKind.u64.wrap (w_0.v0 + w_0.v1)))), (.int .i64 17)] rfl (by decide) (bits_RotateLeft64.calls _ _ _ _ _ _ (hM.front (Ms := [])) H82) ?_)
  clear hA; rintro _ w83 ⟨rfl, hMc⟩ a hA
  have hE := hMc.below; have hM := hM.call (Ms := []) hMc
  clear hMc; simp only [List.cons_append, List.nil_append] at hM
  replace hS := hS.trans (hE.mono hS.size)
  refine ⟨fun _ => hS, ?_⟩
  refine d_takef (i := 10) (L' := #[true, true, true, true, true, true, true, true, true, true, true, false, false, false]) rfl (by kernel_rfl) rfl (fun _ _ _ h => h) hA (by decide) (fun _ => hS) (fun a w' hA => run_bin (hA.ev rfl) (hA.ev rfl) (bin_xor _ _ _ _)) ?_; clear hA; intro a hA
  refine d_takef (i := 11) (L' := #[true, true, true, true, true, true, true, true, true, true, true, true, false, false]) rfl (by kernel_rfl) rfl (fun _ _ _ h => h) hA (by decide) (fun _ => hS) (fun a w' hA => run_nilchk (hA.ev rfl)) ?_; clear hA; intro a hA
  refine d_takef (i := 12) (L' := #[true, true, true, true, true, true, true, true, true, true, true, true, true, false]) rfl (by kernel_rfl) rfl (fun _ _ _ h => h) hA (by decide) (fun _ => hS) (fun a w' hA => run_field' Try.underlying80 rfl rfl Try.sizeOf22 (by decide) (hA.ev rfl)) ?_; clear hA; intro a hA
  refine d_one (i := 13) (L' := #[true, true, true, true, true, true, true, true, true, true, true, true, true, true]) (by kernel_rfl) rfl rfl (e_store (g := g0) (off := 1) (cur := (psip_words.enc (sip_words.mk (IntKind.u64.wrap (r54 + (ixor .u64 r63 (IntKind.u64.wrap (w_0.v2 + w_0.v3))))) (ixor .u64 r50 (IntKind.u64.wrap (w_0.v0 + w_0.v1))) (IntKind.u64.wrap ((IntKind.u64.wrap (w_0.v2 + w_0.v3)) + (ixor .u64 r50 (IntKind.u64.wrap (w_0.v0 + w_0.v1))))) (ixor .u64 r72 (IntKind.u64.wrap (r54 + (ixor .u64 r63 (IntKind.u64.wrap (w_0.v2 + w_0.v3))))))))) (cs' := (psip_words.enc (sip_words.mk (IntKind.u64.wrap (r54 + (ixor .u64 r63 (IntKind.u64.wrap (w_0.v2 + w_0.v3))))) (ixor .u64 r81 (IntKind.u64.wrap ((IntKind.u64.wrap (w_0.v2 + w_0.v3)) + (ixor .u64 r50 (IntKind.u64.wrap (w_0.v0 + w_0.v1)))))) (IntKind.u64.wrap ((IntKind.u64.wrap (w_0.v2 + w_0.v3)) + (ixor .u64 r50 (IntKind.u64.wrap (w_0.v0 + w_0.v1))))) (ixor .u64 r72 (IntKind.u64.wrap (r54 + (ixor .u64 r63 (IntKind.u64.wrap (w_0.v2 + w_0.v3))))))))) hM .z Try.sizeOf22 hA rfl (by simp [add_mk]) rfl (by first | rfl | simp [Value.cells, Pl.len]) (one_val rfl) (Nat.le_of_ble_eq_true (enc_fitL _ _ rfl)) (sip_words.spl_v1 _ _) ?_)
  clear hM hA; intro w84 hM hE a hA
  refine ⟨fun h => absurd h (by decide), ?_⟩
  refine d_done (by kernel_rfl) ?_
  refine TN ?_
  refine wp_region_lit ?_
  refine L1 (stv hA (by decide) (run_move (hA.ev rfl)) ?_)
  clear hA; intro a hA
  refine L1 (stv hA (by decide) (run_move (hA.ev rfl)) ?_)
  clear hA; intro a hA
  refine L1 (stv hA (by decide) (run_nilchk (hA.ev rfl)) ?_)
  clear hA; intro a hA
  refine L1 (stv hA (by decide) (run_field' Try.underlying80 rfl rfl Try.sizeOf22 (by decide) (hA.ev rfl)) ?_)
  clear hA; intro a hA
  refine L1 (stv hA (by decide) (run_ld (hA.ev rfl) (run_loadS Try.isAgg22 (sip_words.at_v2 (hM.box .z)))) ?_)
  clear hA; intro a hA
  obtain ⟨r85, H86, H⟩ := Option.bind_eq_some_iff.1 H
  refine L1 (st_call Try.call69 hA [(.int .u64 (IntKind.u64.wrap ((IntKind.u64.wrap (w_0.v2 + w_0.v3)) + (ixor .u64 r50 (IntKind.u64.wrap (w_0.v0 + w_0.v1)))))), (.int .i64 32)] rfl (by decide) (bits_RotateLeft64.calls _ _ _ _ _ _ (hM.front (Ms := [])) H86) ?_)
  clear hA; rintro _ w87 ⟨rfl, hMc⟩ a hA
  have hE := hMc.below; have hM := hM.call (Ms := []) hMc
  clear hMc; simp only [List.cons_append, List.nil_append] at hM
  refine L1 (stv hA (by decide) (run_nilchk (hA.ev rfl)) ?_)
  clear hA; intro a hA
  refine L1 (stv hA (by decide) (run_field' Try.underlying80 rfl rfl Try.sizeOf22 (by decide) (hA.ev rfl)) ?_)
  clear hA; intro a hA
  refine L1 (e_store (g := g0) (off := 2) (cur := (psip_words.enc (sip_words.mk (IntKind.u64.wrap (r54 + (ixor .u64 r63 (IntKind.u64.wrap (w_0.v2 + w_0.v3))))) (ixor .u64 r81 (IntKind.u64.wrap ((IntKind.u64.wrap (w_0.v2 + w_0.v3)) + (ixor .u64 r50 (IntKind.u64.wrap (w_0.v0 + w_0.v1)))))) (IntKind.u64.wrap ((IntKind.u64.wrap (w_0.v2 + w_0.v3)) + (ixor .u64 r50 (IntKind.u64.wrap (w_0.v0 + w_0.v1))))) (ixor .u64 r72 (IntKind.u64.wrap (r54 + (ixor .u64 r63 (IntKind.u64.wrap (w_0.v2 + w_0.v3))))))))) (cs' := (psip_words.enc (sip_words.mk (IntKind.u64.wrap (r54 + (ixor .u64 r63 (IntKind.u64.wrap (w_0.v2 + w_0.v3))))) (ixor .u64 r81 (IntKind.u64.wrap ((IntKind.u64.wrap (w_0.v2 + w_0.v3)) + (ixor .u64 r50 (IntKind.u64.wrap (w_0.v0 + w_0.v1)))))) r85 (ixor .u64 r72 (IntKind.u64.wrap (r54 + (ixor .u64 r63 (IntKind.u64.wrap (w_0.v2 + w_0.v3))))))))) hM .z Try.sizeOf22 hA rfl (by simp [add_mk]) rfl (by first | rfl | simp [Value.cells, Pl.len]) (one_val rfl) (Nat.le_of_ble_eq_true (enc_fitL _ _ rfl)) (sip_words.spl_v2 _ _) ?_)
  clear hM hA; intro w88 hM hE a hA
  refine LQ ?_
  refine nret ?_
  obtain rfl := Option.some.inj H
  exact ret_post0 (fn := Try.f40) hA rfl  ⟨_, rfl, rfl, hM⟩

def sip_words_take.f (k : Nat) (w_0 : sip_words) (m_1 : Int) : Option sip_words := ((sip_words_round.f k (sip_words.mk w_0.v0 w_0.v1 w_0.v2 (ixor .u64 w_0.v3 m_1))).bind fun r10 => ((sip_words_round.f k r10).bind fun r13 => (some (sip_words.mk (ixor .u64 r13.v0 m_1) r13.v1 r13.v2 r13.v3))))
set_option maxRecDepth 100000 in
theorem sip_words_take.calls (k : Nat) (w_0 : sip_words) (m_1 : Int) (F : List (Option Nat)) (g0 : Nat) (r : sip_words) (w0 : World) (hM : Mem F w0 w0 [.box g0 80 (psip_words.enc w_0)]) (H : sip_words_take.f k w_0 m_1 = some r) :
    Calls Try.prog 38 #[(.pointer (some (⟨g0, 0, none⟩))), (.int .u64 m_1)] w0 fun e w' => ∃ v, e = .returned v ∧ v = (.tuple #[]) ∧ Mem F w0 w' [.box g0 80 (psip_words.enc r)] := by
  unfold sip_words_take.f at H
  refine enterL (n := 24) [(.pointer (some (⟨g0, 0, none⟩))), (.int .u64 m_1)] Try.func38 rfl rfl rfl ?_
  intro a hA
  refine wp_seq ?_
  refine wp_region_lit ?_
  refine L1 (stv hA (by decide) (run_move (hA.ev rfl)) ?_)
  clear hA; intro a hA
  refine L1 (stv hA (by decide) (run_nilchk (hA.ev rfl)) ?_)
  clear hA; intro a hA
  refine L1 (stv hA (by decide) (run_field' Try.underlying80 rfl rfl Try.sizeOf22 (by decide) (hA.ev rfl)) ?_)
  clear hA; intro a hA
  refine L1 (stv hA (by decide) (run_ld (hA.ev rfl) (run_loadS Try.isAgg22 (sip_words.at_v3 (hM.box .z)))) ?_)
  clear hA; intro a hA
  refine L1 (stv hA (by decide) (run_move (hA.ev rfl)) ?_)
  clear hA; intro a hA
  refine L1 (stv hA (by decide) (run_bin (hA.ev rfl) (hA.ev rfl) (bin_xor _ _ _ _)) ?_)
  clear hA; intro a hA
  refine L1 (stv hA (by decide) (run_nilchk (hA.ev rfl)) ?_)
  clear hA; intro a hA
  refine L1 (stv hA (by decide) (run_field' Try.underlying80 rfl rfl Try.sizeOf22 (by decide) (hA.ev rfl)) ?_)
  clear hA; intro a hA
  refine L1 (e_store (g := g0) (off := 3) (cur := (psip_words.enc w_0)) (cs' := (psip_words.enc (sip_words.mk w_0.v0 w_0.v1 w_0.v2 (ixor .u64 w_0.v3 m_1)))) hM .z Try.sizeOf22 hA rfl (by simp [add_mk]) rfl (by first | rfl | simp [Value.cells, Pl.len]) (one_val rfl) (Nat.le_of_ble_eq_true (enc_fitL _ _ rfl)) (sip_words.spl_v3 _ _) ?_)
  clear hM hA; intro w9 hM hE a hA
  refine LQ ?_
  refine TN ?_
  refine wp_seq ?_
  refine wp_region_lit ?_
  refine L1 (stv hA (by decide) (run_move (hA.ev rfl)) ?_)
  clear hA; intro a hA
  obtain ⟨r10, H11, H⟩ := Option.bind_eq_some_iff.1 H
  refine L1 (st_call Try.call40 hA [(.pointer (some (⟨g0, 0, none⟩)))] rfl (by decide) (sip_words_round.calls _ _ _ _ _ _ (hM.front (Ms := [_])) H11) ?_)
  clear hA; rintro _ w12 ⟨rfl, hMc⟩ a hA
  have hM := hM.call (Ms := [_]) hMc
  clear hMc; simp only [List.cons_append, List.nil_append] at hM
  refine LQ ?_
  refine TN ?_
  refine wp_seq ?_
  refine wp_region_lit ?_
  refine L1 (stv hA (by decide) (run_move (hA.ev rfl)) ?_)
  clear hA; intro a hA
  obtain ⟨r13, H14, H⟩ := Option.bind_eq_some_iff.1 H
  refine L1 (st_call Try.call40 hA [(.pointer (some (⟨g0, 0, none⟩)))] rfl (by decide) (sip_words_round.calls _ _ _ _ _ _ (hM.front (Ms := [_])) H14) ?_)
  clear hA; rintro _ w15 ⟨rfl, hMc⟩ a hA
  have hM := hM.call (Ms := [_]) hMc
  clear hMc; simp only [List.cons_append, List.nil_append] at hM
  refine LQ ?_
  refine TN ?_
  refine wp_region_lit ?_
  refine L1 (stv hA (by decide) (run_move (hA.ev rfl)) ?_)
  clear hA; intro a hA
  refine L1 (stv hA (by decide) (run_nilchk (hA.ev rfl)) ?_)
  clear hA; intro a hA
  refine L1 (stv hA (by decide) (run_field' Try.underlying80 rfl rfl Try.sizeOf22 (by decide) (hA.ev rfl)) ?_)
  clear hA; intro a hA
  refine L1 (stv hA (by decide) (run_ld (hA.ev rfl) (run_loadS Try.isAgg22 (sip_words.at_v0 (hM.box .z)))) ?_)
  clear hA; intro a hA
  refine L1 (stv hA (by decide) (run_move (hA.ev rfl)) ?_)
  clear hA; intro a hA
  refine L1 (stv hA (by decide) (run_bin (hA.ev rfl) (hA.ev rfl) (bin_xor _ _ _ _)) ?_)
  clear hA; intro a hA
  refine L1 (stv hA (by decide) (run_nilchk (hA.ev rfl)) ?_)
  clear hA; intro a hA
  refine L1 (stv hA (by decide) (run_field' Try.underlying80 rfl rfl Try.sizeOf22 (by decide) (hA.ev rfl)) ?_)
  clear hA; intro a hA
  refine L1 (e_store (g := g0) (off := 0) (cur := (psip_words.enc r13)) (cs' := (psip_words.enc (sip_words.mk (ixor .u64 r13.v0 m_1) r13.v1 r13.v2 r13.v3))) hM .z Try.sizeOf22 hA rfl (by simp [add_mk]) rfl (by first | rfl | simp [Value.cells, Pl.len]) (one_val rfl) (Nat.le_of_ble_eq_true (enc_fitL _ _ rfl)) (sip_words.spl_v0 _ _) ?_)
  clear hM hA; intro w16 hM hE a hA
  refine LQ ?_
  refine nret ?_
  obtain rfl := Option.some.inj H
  exact ret_post0 (fn := Try.f38) hA rfl  ⟨_, rfl, rfl, hM⟩

def sip_word.l0 (b_0 : (List Int)) : Nat → Int → Int → Option (Int)
  | 0, _, _ => none
  | k + 1, t94, t98 => (if (decide (t98 < ((b_0.length : Nat) : Int))) = true then (if 0 ≤ t98 ∧ t98 < ((b_0.length : Nat) : Int) then (if 0 ≤ (IntKind.i64.wrap (8 * t98)) then (sip_word.l0 b_0 k (ior .u64 t94 (ishl .u64 (IntKind.u64.wrap (b_0.getD t98.toNat (0 : Int))) (IntKind.i64.wrap (8 * t98)))) (IntKind.i64.wrap (t98 + 1))) else none) else none) else (some t94))
def sip_word.f (k : Nat) (b_0 : (List Int)) : Option Int := (Option.bind (α := Int) (sip_word.l0 b_0 k 0 0) (fun t100 => (some t100)))
set_option maxRecDepth 100000 in
theorem sip_word.calls (k : Nat) (b_0 : (List Int)) (F : List (Option Nat)) (v0 : Value) (r : Int) (w0 : World) (h0 : RoV F (Pl.int .u8) w0 v0 b_0) (hM : Mem F w0 w0 []) (H : sip_word.f k b_0 = some r) :
    Calls Try.prog 39 #[v0] w0 fun e w' => ∃ v, e = .returned v ∧ v = (.int .u64 r) ∧ Mem F w0 w' [] := by
  unfold sip_word.f at H
  obtain ⟨A0, c0, rfl, hr0, hc0⟩ := h0
  refine enterL (n := 22) [(.slice A0 b_0.length c0)] Try.func39 rfl rfl rfl ?_
  intro a hA
  refine wp_seq ?_
  refine wp_region_lit ?_
  refine L1 (stv hA (by decide) (run_assign (hA.ev rfl)) ?_)
  clear hA; intro a hA
  refine LQ ?_
  refine TN ?_
  refine wp_seq ?_
  refine wp_region_lit ?_
  refine L1 (stv hA (by decide) (run_assign (hA.ev rfl)) ?_)
  clear hA; intro a hA
  refine LQ ?_
  refine TN ?_
  refine wp_seq ?_
  refine wp_seq ?_
  refine wp_region_lit ?_
  refine L1 (stv hA (by decide) (run_move (hA.ev rfl)) ?_)
  clear hA; intro a hA
  refine L1 (stv hA (by decide) (run_len_slice Try.underlying25 (hA.ev rfl)) ?_)
  clear hA; intro a hA
  refine L1 (stv hA (by decide) (run_move (hA.ev rfl)) ?_)
  clear hA; intro a hA
  refine LQ ?_
  refine TN ?_
  obtain ⟨o102, H101, H⟩ := Option.bind_eq_some_iff.1 H
  refine cutC (fun a w => ∃ (t100 : Int), t100 = o102 ∧ Mem F w0 w [] ∧ Has 22 [(3, (.int .u64 t100))] a) ?_ ?_
  · refine wp_block ?_
    refine wp_loop_ghost (fun m a w => ∃ (t94 : Int) (t98 : Int), sip_word.l0 b_0 m t94 t98 = some o102 ∧ Mem F w0 w [] ∧ Has 22 [(3, (.int .u64 t94)), (6, (.slice A0 b_0.length c0)), (7, (.int .i64 ((b_0.length : Nat) : Int))), (8, (.int .i64 t98))] a) k ⟨0, 0, H101, hM, ((((hA.nil.cons (hA.get 8 _ rfl)).cons (hA.get 7 _ rfl)).cons (hA.get 6 _ rfl)).cons (hA.get 3 _ rfl))⟩ ?_
    clear hM hA; rintro m103 a w104 ⟨t94, t98, H101, hM, hA⟩
    cases m103 with
    | zero => exact absurd H101 (by simp [sip_word.l0])
    | succ m103 =>
    rw [sip_word.l0] at H101
    refine wp_seq ?_
    refine wp_region_lit ?_
    refine L1 (stv hA (by decide) (run_bin (hA.ev rfl) (hA.ev rfl) (bin_lss _ _ _ _)) ?_)
    clear hA; intro a hA
    refine LQ ?_
    refine TN ?_
    refine wp_seq ?_
    refine tcond (b := (decide (t98 < ((b_0.length : Nat) : Int)))) hA rfl (fun hb105 => ?_) (fun hb105 => ?_)
    · replace H101 := ite_t hb105 H101
      refine wp_skip ?_
      refine TN ?_
      refine wp_seq ?_
      refine wp_block ?_
      refine wp_seq ?_
      refine wp_region_lit ?_
      refine L1 (stv hA (by decide) (run_move (hA.ev rfl)) ?_)
      clear hA; intro a hA
      obtain ⟨⟨hi106, hj107⟩, H101⟩ := ite_some H101
      obtain ⟨ad108, hq109, hat110⟩ := Row.elem' (p := (Pl.int .u8)) (hM.ro hr0) (Eq.refl b_0.length) (0 : Int) t98 hi106 hj107
      refine L1 (stv hA (by decide) (run_idx Try.underlying25 Try.sizeOf5 (hA.ev rfl) hq109 (hA.ev rfl) hi106 hj107) ?_)
      clear hA; intro a hA
      refine L1 (stv hA (by decide) (run_ld (hA.ev rfl) (run_loadS Try.isAgg5 hat110)) ?_)
      clear hA; intro a hA
      refine L1 (stv hA (by decide) (run_assign (hA.ev rfl)) ?_)
      clear hA; intro a hA
      refine L1 (stv hA (by decide) (run_assign (hA.ev rfl)) ?_)
      clear hA; intro a hA
      refine LQ ?_
      refine TN ?_
      refine wp_region_lit ?_
      refine L1 (stv hA (by decide) (run_move (hA.ev rfl)) ?_)
      clear hA; intro a hA
      refine L1 (stv hA (by decide) (run_move (hA.ev rfl)) ?_)
      clear hA; intro a hA
      refine L1 (stv hA (by decide) (run_conv Try.underlying5 Try.underlying22 (hA.ev rfl)) ?_)
      clear hA; intro a hA
      refine L1 (stv hA (by decide) (run_move (hA.ev rfl)) ?_)
      clear hA; intro a hA
      refine L1 (stv hA (by decide) (run_bin (hA.ev rfl) (hA.ev rfl) (bin_mul _ _ _ _)) ?_)
      clear hA; intro a hA
      obtain ⟨hs111, H101⟩ := ite_some H101
      refine L1 (stv hA (by decide) (run_shl (hA.ev rfl) (hA.ev rfl) hs111) ?_)
      clear hA; intro a hA
      refine L1 (stv hA (by decide) (run_bin (hA.ev rfl) (hA.ev rfl) (bin_or _ _ _ _)) ?_)
      clear hA; intro a hA
      refine L1 (stv hA (by decide) (run_assign (hA.ev rfl)) ?_)
      clear hA; intro a hA
      refine LQ ?_
      refine BN ?_
      refine TN ?_
      refine wp_region_lit ?_
      refine L1 (stv hA (by decide) (run_bin (hA.ev rfl) (hA.ev rfl) (bin_add _ _ _ _)) ?_)
      clear hA; intro a hA
      refine L1 (stv hA (by decide) (run_move (hA.ev rfl)) ?_)
      clear hA; intro a hA
      refine LQ ?_
      exact ⟨_, Nat.lt_succ_self m103, ior .u64 t94 (ishl .u64 (IntKind.u64.wrap (b_0.getD t98.toNat (0 : Int))) (IntKind.i64.wrap (8 * t98))), IntKind.i64.wrap (t98 + 1), H101, hM, ((((hA.nil.cons (hA.get 8 _ rfl)).cons (hA.get 7 _ rfl)).cons (hA.get 6 _ rfl)).cons (hA.get 3 _ rfl))⟩
    · replace H101 := ite_f hb105 H101
      refine wp_exit ?_
      refine TX ?_
      refine TX ?_
      refine BX ?_
      exact ⟨t94, Option.some.inj H101, hM, (hA.nil.cons (hA.get 3 _ rfl))⟩
  clear hM hA
  rintro a w112 ⟨t100, rfl, hM, hA⟩
  try dsimp only at H
  refine TN ?_
  refine wp_seq ?_
  refine wp_region_lit ?_
  refine L1 (stv hA (by decide) (run_move (hA.ev rfl)) ?_)
  clear hA; intro a hA
  refine L1 (stv hA (by decide) (run_assign (hA.ev rfl)) ?_)
  clear hA; intro a hA
  refine LQ ?_
  refine TN ?_
  refine wp_ret ?_
  obtain rfl := Option.some.inj H
  exact ret_post1 (fn := Try.f39) hA rfl rfl ⟨_, rfl, rfl, hM⟩

def sip_Sum.l0  : Nat → (List Int) → sip_words → Option ((List Int) × sip_words)
  | 0, _, _ => none
  | k + 1, b214, x222 => (if (decide (((b214.length : Nat) : Int) ≥ 8)) = true then (if 0 ≤ (8 : Int) ∧ (8 : Int) ≤ ((b214.length : Nat) : Int) then ((sip_word.f k (b214.take ((8 : Int).toNat))).bind fun r242 => ((sip_words_take.f k x222 r242).bind fun r245 => (if 0 ≤ (8 : Int) ∧ (8 : Int) ≤ ((b214.length : Nat) : Int) then (sip_Sum.l0  k (b214.drop ((8 : Int).toNat)) r245) else none))) else none) else (some (b214, x222)))
def sip_Sum.l1  : Nat → sip_words → Int → Option (sip_words)
  | 0, _, _ => none
  | k + 1, x281, t283 => (if (decide (t283 < 4)) = true then ((sip_words_round.f k x281).bind fun r291 => (sip_Sum.l1  k r291 (IntKind.i64.wrap (t283 + 1)))) else (some x281))
def sip_Sum.f (k : Nat) (k_0 : (Vector Int 2)) (b_1 : (List Int)) : Option Int := (Option.bind (α := (List Int) × sip_words) (sip_Sum.l0 k b_1 (sip_words.mk (ixor .u64 (vg k_0 (0 : Int)) 8317987319222330741) (ixor .u64 (vg k_0 (1 : Int)) 7237128888997146477) (ixor .u64 (vg k_0 (0 : Int)) 7816392313619706465) (ixor .u64 (vg k_0 (1 : Int)) 8387220255154660723))) (fun st => match st with | (b225, x233) => ((sip_word.f k b225).bind fun r251 => ((sip_words_take.f k x233 (ior .u64 r251 (ishl .u64 (IntKind.u64.wrap ((b_1.length : Nat) : Int)) 56))).bind fun r254 => (Option.bind (α := sip_words) (sip_Sum.l1 k (sip_words.mk r254.v0 r254.v1 (ixor .u64 r254.v2 255) r254.v3) 0) (fun x285 => (some (ixor .u64 (ixor .u64 (ixor .u64 x285.v0 x285.v1) x285.v2) x285.v3))))))))
set_option maxRecDepth 100000 in
theorem sip_Sum.calls (k : Nat) (k_0 : (Vector Int 2)) (b_1 : (List Int)) (F : List (Option Nat)) (v1 : Value) (r : Int) (w0 : World) (h1 : RoV F (Pl.int .u8) w0 v1 b_1) (hM : Mem F w0 w0 []) (H : sip_Sum.f k k_0 b_1 = some r) :
    Calls Try.prog 13 #[(.agg (pSipKey.enc k_0).toArray), v1] w0 fun e w' => ∃ v, e = .returned v ∧ v = (.int .u64 r) ∧ Mem F w0 w' [] := by
  unfold sip_Sum.f at H
  obtain ⟨A1, c1, rfl, hr1, hc1⟩ := h1
  refine enterL (n := 57) [(.agg (pSipKey.enc k_0).toArray), (.slice A1 b_1.length c1)] Try.func13 rfl rfl rfl ?_
  intro a hA
  refine wp_seq ?_
  refine wp_region_lit ?_
  refine L1 (e_box (cs := (pSipKey.enc k_0)) hM hA rfl rfl (by decide) ?_)
  clear hM hA; intro w149 g148 hM hE a hA
  refine L1 (stv hA (by decide) (run_assign (hA.ev rfl)) ?_)
  clear hA; intro a hA
  refine LQ ?_
  refine TN ?_
  refine wp_seq ?_
  refine wp_region_lit ?_
  refine L1 (stv hA (by decide) (run_idxarr Try.underlying24 Try.sizeOf22 (hA.ev rfl) (hA.ev rfl) (by decide) (by decide)) ?_)
  clear hA; intro a hA
  refine L1 (stv hA (by decide) (run_ld (hA.ev rfl) (run_loadS Try.isAgg22 (vec_at (hM.box .z) (by decide) (by decide)))) ?_)
  clear hA; intro a hA
  refine L1 (stv hA (by decide) (run_bin (hA.ev rfl) (hA.ev rfl) (bin_xor _ _ _ _)) ?_)
  clear hA; intro a hA
  refine L1 (stv hA (by decide) (run_idxarr Try.underlying24 Try.sizeOf22 (hA.ev rfl) (hA.ev rfl) (by decide) (by decide)) ?_)
  clear hA; intro a hA
  refine L1 (stv hA (by decide) (run_ld (hA.ev rfl) (run_loadS Try.isAgg22 (vec_at (hM.box .z) (by decide) (by decide)))) ?_)
  clear hA; intro a hA
  refine L1 (stv hA (by decide) (run_bin (hA.ev rfl) (hA.ev rfl) (bin_xor _ _ _ _)) ?_)
  clear hA; intro a hA
  refine L1 (stv hA (by decide) (run_idxarr Try.underlying24 Try.sizeOf22 (hA.ev rfl) (hA.ev rfl) (by decide) (by decide)) ?_)
  clear hA; intro a hA
  refine L1 (stv hA (by decide) (run_ld (hA.ev rfl) (run_loadS Try.isAgg22 (vec_at (hM.box .z) (by decide) (by decide)))) ?_)
  clear hA; intro a hA
  refine L1 (stv hA (by decide) (run_bin (hA.ev rfl) (hA.ev rfl) (bin_xor _ _ _ _)) ?_)
  clear hA; intro a hA
  refine L1 (stv hA (by decide) (run_idxarr Try.underlying24 Try.sizeOf22 (hA.ev rfl) (hA.ev rfl) (by decide) (by decide)) ?_)
  clear hA; intro a hA
  refine L1 (stv hA (by decide) (run_ld (hA.ev rfl) (run_loadS Try.isAgg22 (vec_at (hM.box .z) (by decide) (by decide)))) ?_)
  clear hA; intro a hA
  refine L1 (stv hA (by decide) (run_bin (hA.ev rfl) (hA.ev rfl) (bin_xor _ _ _ _)) ?_)
  clear hA; intro a hA
  refine L1 (stv hA (by decide) (run_build [(0, (.int .u64 (ixor .u64 (vg k_0 (0 : Int)) 8317987319222330741))), (1, (.int .u64 (ixor .u64 (vg k_0 (1 : Int)) 7237128888997146477))), (2, (.int .u64 (ixor .u64 (vg k_0 (0 : Int)) 7816392313619706465))), (3, (.int .u64 (ixor .u64 (vg k_0 (1 : Int)) 8387220255154660723)))] zero80 Try.underlying80 (ss := [1, 1, 1, 1]) ⟨Try.sizeOf22, Try.sizeOf22, Try.sizeOf22, Try.sizeOf22, trivial⟩ hA rfl (fill_step rfl rfl (enc_fit _ _ rfl) (arr_eq (sip_words.spl_v0 _ _)) (fill_step rfl rfl (enc_fit _ _ rfl) (arr_eq (sip_words.spl_v1 _ _)) (fill_step rfl rfl (enc_fit _ _ rfl) (arr_eq (sip_words.spl_v2 _ _)) (fill_step rfl rfl (enc_fit _ _ rfl) (arr_eq (sip_words.spl_v3 _ _)) (fill_nil)))))) ?_)
  clear hA; intro a hA
  refine L1 (e_alloc (cs := (psip_words.enc sip_words.z)) hM zero80 rfl hA (by decide) ?_)
  clear hM hA; intro w152 g151 hM hE a hA
  refine L1 (e_store (g := g151) (off := 0) (cur := (psip_words.enc sip_words.z)) (cs' := (psip_words.enc (sip_words.mk (ixor .u64 (vg k_0 (0 : Int)) 8317987319222330741) (ixor .u64 (vg k_0 (1 : Int)) 7237128888997146477) (ixor .u64 (vg k_0 (0 : Int)) 7816392313619706465) (ixor .u64 (vg k_0 (1 : Int)) 8387220255154660723)))) hM .z Try.sizeOf80 hA rfl (by simp [add_mk]) rfl (agg_size _ _) (agg_one _ _) (Nat.le_of_ble_eq_true (enc_fitL _ _ rfl)) (spl_all (by first | rfl | simp [Value.cells, Pl.len])) ?_)
  clear hM hA; intro w154 hM hE a hA
  refine LQ ?_
  refine TN ?_
  refine wp_seq ?_
  refine wp_region_lit ?_
  refine L1 (stv hA (by decide) (run_move (hA.ev rfl)) ?_)
  clear hA; intro a hA
  refine L1 (stv hA (by decide) (run_len_slice Try.underlying25 (hA.ev rfl)) ?_)
  clear hA; intro a hA
  refine L1 (stv hA (by decide) (run_conv Try.underlying3 Try.underlying22 (hA.ev rfl)) ?_)
  clear hA; intro a hA
  refine L1 (stv hA (by decide) (run_shl (hA.ev rfl) (hA.ev rfl) (by decide)) ?_)
  clear hA; intro a hA
  refine L1 (stv hA (by decide) (run_assign (hA.ev rfl)) ?_)
  clear hA; intro a hA
  refine LQ ?_
  refine TN ?_
  refine wp_seq ?_
  obtain ⟨o236, H235, H⟩ := Option.bind_eq_some_iff.1 H
  refine cutC (fun a w => ∃ (b225 : (List Int)) (x233 : sip_words) (v226 : Value), (b225, x233) = o236 ∧ (RoV F (Pl.int .u8) w0 v226 b225) ∧ Mem F w0 w [.box g151 80 (psip_words.enc x233)] ∧ Has 57 [(1, v226), (5, (.pointer (some (⟨g151, 0, none⟩)))), (6, (.int .u64 (ishl .u64 (IntKind.u64.wrap ((b_1.length : Nat) : Int)) 56)))] a) ?_ ?_
  · refine wp_block ?_
    refine wp_loop_ghost (fun m a w => ∃ (b214 : (List Int)) (x222 : sip_words) (v215 : Value), sip_Sum.l0 m b214 x222 = some o236 ∧ (RoV F (Pl.int .u8) w0 v215 b214) ∧ Mem F w0 w [.box g151 80 (psip_words.enc x222)] ∧ Has 57 [(1, v215), (5, (.pointer (some (⟨g151, 0, none⟩)))), (6, (.int .u64 (ishl .u64 (IntKind.u64.wrap ((b_1.length : Nat) : Int)) 56)))] a) k ⟨b_1, (sip_words.mk (ixor .u64 (vg k_0 (0 : Int)) 8317987319222330741) (ixor .u64 (vg k_0 (1 : Int)) 7237128888997146477) (ixor .u64 (vg k_0 (0 : Int)) 7816392313619706465) (ixor .u64 (vg k_0 (1 : Int)) 8387220255154660723)), (.slice A1 b_1.length c1), H235, (RoV.mk hr1 (Eq.refl b_1.length) hc1), (hM.sel [0] rfl (by decide)), (((hA.nil.cons (hA.get 6 _ rfl)).cons (hA.get 5 _ rfl)).cons (hA.get 1 _ rfl))⟩ ?_
    clear hM hA; rintro m237 a w238 ⟨b214, x222, v215, H235, h220, hM, hA⟩
    cases m237 with
    | zero => exact absurd H235 (by simp [sip_Sum.l0])
    | succ m237 =>
    rw [sip_Sum.l0] at H235
    obtain ⟨A216, c217, rfl, hr218, hc219⟩ := h220
    refine wp_seq ?_
    refine wp_seq ?_
    refine wp_region_lit ?_
    refine L1 (stv hA (by decide) (run_move (hA.ev rfl)) ?_)
    clear hA; intro a hA
    refine L1 (stv hA (by decide) (run_len_slice Try.underlying25 (hA.ev rfl)) ?_)
    clear hA; intro a hA
    refine L1 (stv hA (by decide) (run_bin (hA.ev rfl) (hA.ev rfl) (bin_geq _ _ _ _)) ?_)
    clear hA; intro a hA
    refine LQ ?_
    refine TN ?_
    refine tcond (b := (decide (((b214.length : Nat) : Int) ≥ 8))) hA rfl (fun hb239 => ?_) (fun hb239 => ?_)
    · replace H235 := ite_t hb239 H235
      refine wp_skip ?_
      refine TN ?_
      refine wp_seq ?_
      refine wp_block ?_
      refine wp_region_lit ?_
      refine L1 (stv hA (by decide) (run_move (hA.ev rfl)) ?_)
      clear hA; intro a hA
      obtain ⟨⟨hi240, hj241⟩, H235⟩ := ite_some H235
      refine L1 (stv hA (by decide) (run_hi Try.underlying25 Try.sizeOf5 hc219 hi240 hj241 (hA.ev rfl) (hA.ev rfl)) ?_)
      clear hA; intro a hA
      obtain ⟨r242, H243, H235⟩ := Option.bind_eq_some_iff.1 H235
      refine L1 (st_call Try.call39 hA [(.slice A216 ((8 : Int).toNat) c217)] rfl (by decide) (sip_word.calls _ _ _ _ _ _ ((RoV.mk (Ro.take (hM.roC (Ms := []) hr218) ((8 : Int).toNat)) (len_take (Eq.refl b214.length) (by omega)) (by have hh1 := hc219; omega))) (hM.front (Ms := [])) H243) ?_)
      clear hA; rintro _ w244 ⟨rfl, hMc⟩ a hA
      have hE := hMc.below; have hM := hM.call (Ms := []) hMc
      clear hMc; simp only [List.cons_append, List.nil_append] at hM
      obtain ⟨r245, H246, H235⟩ := Option.bind_eq_some_iff.1 H235
      refine L1 (st_call Try.call38 hA [(.pointer (some (⟨g151, 0, none⟩))), (.int .u64 r242)] rfl (by decide) (sip_words_take.calls _ _ _ _ _ _ _ (hM.front (Ms := [_])) H246) ?_)
      clear hA; rintro _ w247 ⟨rfl, hMc⟩ a hA
      have hM := hM.call (Ms := [_]) hMc
      clear hMc; simp only [List.cons_append, List.nil_append] at hM
      refine LQ ?_
      refine BN ?_
      refine TN ?_
      refine wp_region_lit ?_
      refine L1 (stv hA (by decide) (run_move (hA.ev rfl)) ?_)
      clear hA; intro a hA
      obtain ⟨⟨hi248, hj249⟩, H235⟩ := ite_some H235
      refine L1 (stv hA (by decide) (run_lo Try.underlying25 Try.sizeOf5 hc219 hi248 hj249 (hA.ev rfl) (hA.ev rfl)) ?_)
      clear hA; intro a hA
      refine L1 (stv hA (by decide) (run_assign (hA.ev rfl)) ?_)
      clear hA; intro a hA
      refine LQ ?_
      exact ⟨_, Nat.lt_succ_self m237, (b214.drop ((8 : Int).toNat)), r245, (.slice (adrop A216 c217 ((8 : Int).toNat) 1) (b214.length - (8 : Int).toNat) (c217 - (8 : Int).toNat)), H235, (RoV.mk (Ro.drop (c := c217) hr218 (by have hh1 := (Eq.refl b214.length); omega) (by have hh1 := (Eq.refl b214.length); have hh2 := hc219; omega)) (len_drop (Eq.refl b214.length)) (by have hh1 := hc219; omega)), hM, (((hA.nil.cons (hA.get 6 _ rfl)).cons (hA.get 5 _ rfl)).cons (hA.get 1 _ rfl))⟩
    · replace H235 := ite_f hb239 H235
      refine wp_exit ?_
      refine TX ?_
      refine TX ?_
      refine BX ?_
      exact ⟨b214, x222, (.slice A216 b214.length c217), Option.some.inj H235, (RoV.mk hr218 (Eq.refl b214.length) hc219), hM, (((hA.nil.cons (hA.get 6 _ rfl)).cons (hA.get 5 _ rfl)).cons (hA.get 1 _ rfl))⟩
  clear hM hA
  rintro a w250 ⟨b225, x233, v226, rfl, h231, hM, hA⟩
  try dsimp only at H
  obtain ⟨A227, c228, rfl, hr229, hc230⟩ := h231
  refine TN ?_
  refine wp_seq ?_
  refine wp_region_lit ?_
  refine L1 (stv hA (by decide) (run_move (hA.ev rfl)) ?_)
  clear hA; intro a hA
  obtain ⟨r251, H252, H⟩ := Option.bind_eq_some_iff.1 H
  refine L1 (st_call Try.call39 hA [(.slice A227 b225.length c228)] rfl (by decide) (sip_word.calls _ _ _ _ _ _ ((RoV.mk (hM.roC (Ms := []) hr229) (Eq.refl b225.length) hc230)) (hM.front (Ms := [])) H252) ?_)
  clear hA; rintro _ w253 ⟨rfl, hMc⟩ a hA
  have hE := hMc.below; have hM := hM.call (Ms := []) hMc
  clear hMc; simp only [List.cons_append, List.nil_append] at hM
  refine L1 (stv hA (by decide) (run_move (hA.ev rfl)) ?_)
  clear hA; intro a hA
  refine L1 (stv hA (by decide) (run_bin (hA.ev rfl) (hA.ev rfl) (bin_or _ _ _ _)) ?_)
  clear hA; intro a hA
  obtain ⟨r254, H255, H⟩ := Option.bind_eq_some_iff.1 H
  refine L1 (st_call Try.call38 hA [(.pointer (some (⟨g151, 0, none⟩))), (.int .u64 (ior .u64 r251 (ishl .u64 (IntKind.u64.wrap ((b_1.length : Nat) : Int)) 56)))] rfl (by decide) (sip_words_take.calls _ _ _ _ _ _ _ (hM.front (Ms := [_])) H255) ?_)
  clear hA; rintro _ w256 ⟨rfl, hMc⟩ a hA
  have hM := hM.call (Ms := [_]) hMc
  clear hMc; simp only [List.cons_append, List.nil_append] at hM
  refine LQ ?_
  refine TN ?_
  refine wp_seq ?_
  refine wp_region_lit ?_
  refine L1 (stv hA (by decide) (run_field' Try.underlying80 rfl rfl Try.sizeOf22 (by decide) (hA.ev rfl)) ?_)
  clear hA; intro a hA
  refine L1 (stv hA (by decide) (run_ld (hA.ev rfl) (run_loadS Try.isAgg22 (sip_words.at_v2 (hM.box .z)))) ?_)
  clear hA; intro a hA
  refine L1 (stv hA (by decide) (run_bin (hA.ev rfl) (hA.ev rfl) (bin_xor _ _ _ _)) ?_)
  clear hA; intro a hA
  refine L1 (stv hA (by decide) (run_field' Try.underlying80 rfl rfl Try.sizeOf22 (by decide) (hA.ev rfl)) ?_)
  clear hA; intro a hA
  refine L1 (e_store (g := g151) (off := 2) (cur := (psip_words.enc r254)) (cs' := (psip_words.enc (sip_words.mk r254.v0 r254.v1 (ixor .u64 r254.v2 255) r254.v3))) hM .z Try.sizeOf22 hA rfl (by simp [add_mk]) rfl (by first | rfl | simp [Value.cells, Pl.len]) (one_val rfl) (Nat.le_of_ble_eq_true (enc_fitL _ _ rfl)) (sip_words.spl_v2 _ _) ?_)
  clear hM hA; intro w257 hM hE a hA
  refine LQ ?_
  refine TN ?_
  refine wp_seq ?_
  refine wp_seq ?_
  refine wp_region_lit ?_
  refine L1 (stv hA (by decide) (run_move (hA.ev rfl)) ?_)
  clear hA; intro a hA
  refine LQ ?_
  refine TN ?_
  obtain ⟨o287, H286, H⟩ := Option.bind_eq_some_iff.1 H
  refine cutC (fun a w => ∃ (x285 : sip_words), x285 = o287 ∧ Mem F w0 w [.box g151 80 (psip_words.enc x285)] ∧ Has 57 [(5, (.pointer (some (⟨g151, 0, none⟩))))] a) ?_ ?_
  · refine wp_block ?_
    refine wp_loop_ghost (fun m a w => ∃ (x281 : sip_words) (t283 : Int), sip_Sum.l1 m x281 t283 = some o287 ∧ Mem F w0 w [.box g151 80 (psip_words.enc x281)] ∧ Has 57 [(5, (.pointer (some (⟨g151, 0, none⟩)))), (42, (.int .i64 t283))] a) k ⟨(sip_words.mk r254.v0 r254.v1 (ixor .u64 r254.v2 255) r254.v3), 0, H286, hM, ((hA.nil.cons (hA.get 42 _ rfl)).cons (hA.get 5 _ rfl))⟩ ?_
    clear hM hA; rintro m288 a w289 ⟨x281, t283, H286, hM, hA⟩
    cases m288 with
    | zero => exact absurd H286 (by simp [sip_Sum.l1])
    | succ m288 =>
    rw [sip_Sum.l1] at H286
    refine wp_seq ?_
    refine wp_region_lit ?_
    refine L1 (stv hA (by decide) (run_bin (hA.ev rfl) (hA.ev rfl) (bin_lss _ _ _ _)) ?_)
    clear hA; intro a hA
    refine LQ ?_
    refine TN ?_
    refine wp_seq ?_
    refine tcond (b := (decide (t283 < 4))) hA rfl (fun hb290 => ?_) (fun hb290 => ?_)
    · replace H286 := ite_t hb290 H286
      refine wp_skip ?_
      refine TN ?_
      refine wp_seq ?_
      refine wp_block ?_
      refine wp_region_lit ?_
      obtain ⟨r291, H292, H286⟩ := Option.bind_eq_some_iff.1 H286
      refine L1 (st_call Try.call40 hA [(.pointer (some (⟨g151, 0, none⟩)))] rfl (by decide) (sip_words_round.calls _ _ _ _ _ _ (hM.front (Ms := [_])) H292) ?_)
      clear hA; rintro _ w293 ⟨rfl, hMc⟩ a hA
      have hM := hM.call (Ms := [_]) hMc
      clear hMc; simp only [List.cons_append, List.nil_append] at hM
      refine LQ ?_
      refine BN ?_
      refine TN ?_
      refine wp_region_lit ?_
      refine L1 (stv hA (by decide) (run_bin (hA.ev rfl) (hA.ev rfl) (bin_add _ _ _ _)) ?_)
      clear hA; intro a hA
      refine L1 (stv hA (by decide) (run_move (hA.ev rfl)) ?_)
      clear hA; intro a hA
      refine LQ ?_
      exact ⟨_, Nat.lt_succ_self m288, r291, IntKind.i64.wrap (t283 + 1), H286, hM, ((hA.nil.cons (hA.get 42 _ rfl)).cons (hA.get 5 _ rfl))⟩
    · replace H286 := ite_f hb290 H286
      refine wp_exit ?_
      refine TX ?_
      refine TX ?_
      refine BX ?_
      exact ⟨x281, Option.some.inj H286, hM, (hA.nil.cons (hA.get 5 _ rfl))⟩
  clear hM hA
  rintro a w294 ⟨x285, rfl, hM, hA⟩
  try dsimp only at H
  refine TN ?_
  refine wp_seq ?_
  refine wp_region_lit ?_
  refine L1 (stv hA (by decide) (run_field' Try.underlying80 rfl rfl Try.sizeOf22 (by decide) (hA.ev rfl)) ?_)
  clear hA; intro a hA
  refine L1 (stv hA (by decide) (run_ld (hA.ev rfl) (run_loadS Try.isAgg22 (sip_words.at_v0 (hM.box .z)))) ?_)
  clear hA; intro a hA
  refine L1 (stv hA (by decide) (run_field' Try.underlying80 rfl rfl Try.sizeOf22 (by decide) (hA.ev rfl)) ?_)
  clear hA; intro a hA
  refine L1 (stv hA (by decide) (run_ld (hA.ev rfl) (run_loadS Try.isAgg22 (sip_words.at_v1 (hM.box .z)))) ?_)
  clear hA; intro a hA
  refine L1 (stv hA (by decide) (run_bin (hA.ev rfl) (hA.ev rfl) (bin_xor _ _ _ _)) ?_)
  clear hA; intro a hA
  refine L1 (stv hA (by decide) (run_field' Try.underlying80 rfl rfl Try.sizeOf22 (by decide) (hA.ev rfl)) ?_)
  clear hA; intro a hA
  refine L1 (stv hA (by decide) (run_ld (hA.ev rfl) (run_loadS Try.isAgg22 (sip_words.at_v2 (hM.box .z)))) ?_)
  clear hA; intro a hA
  refine L1 (stv hA (by decide) (run_bin (hA.ev rfl) (hA.ev rfl) (bin_xor _ _ _ _)) ?_)
  clear hA; intro a hA
  refine L1 (stv hA (by decide) (run_field' Try.underlying80 rfl rfl Try.sizeOf22 (by decide) (hA.ev rfl)) ?_)
  clear hA; intro a hA
  refine L1 (stv hA (by decide) (run_ld (hA.ev rfl) (run_loadS Try.isAgg22 (sip_words.at_v3 (hM.box .z)))) ?_)
  clear hA; intro a hA
  refine L1 (stv hA (by decide) (run_bin (hA.ev rfl) (hA.ev rfl) (bin_xor _ _ _ _)) ?_)
  clear hA; intro a hA
  refine L1 (stv hA (by decide) (run_assign (hA.ev rfl)) ?_)
  clear hA; intro a hA
  refine LQ ?_
  refine TN ?_
  refine wp_ret ?_
  obtain rfl := Option.some.inj H
  exact ret_post1 (fn := Try.f13) hA rfl rfl ⟨_, rfl, rfl, (hM.sel [] rfl (by decide))⟩

def law04_sane.l0  : Nat → (List Int) → Int → Option ((List Int))
  | 0, _, _ => none
  | k + 1, xs123, i125 => (if (decide (i125 < 15)) = true then (if (xs123.length + 1) * 1 ≤ 140737488355328 then (law04_sane.l0  k (xs123 ++ [i125]) (IntKind.u8.wrap (i125 + 1))) else none) else (some xs123))
def law04_sane.f (k : Nat)  : Option Bool := (Option.bind (α := (List Int)) (law04_sane.l0 k ([] : List Int) 0) (fun xs131 => ((sip_Sum.f k ((((Vector.replicate 2 0 : Vector Int 2).setIfInBounds 0 506097522914230528).setIfInBounds 1 1084818905618843912)) xs131).bind fun r146 => (some (r146 == 11613035633349379557)))))
set_option maxRecDepth 100000 in
theorem law04_sane.calls (k : Nat)  (F : List (Option Nat)) (r : Bool) (w0 : World) (hM : Mem F w0 w0 []) (H : law04_sane.f k  = some r) :
    Calls Try.prog 12 #[] w0 fun e w' => ∃ v, e = .returned v ∧ v = (.bool r) ∧ Mem F w0 w' [] := by
  unfold law04_sane.f at H
  refine enterL (n := 15) [] Try.func12 rfl rfl rfl ?_
  intro a hA
  refine wp_seq ?_
  refine wp_region_lit ?_
  refine L1 (stv hA (by decide) (run_assign (hA.ev rfl)) ?_)
  clear hA; intro a hA
  refine LQ ?_
  refine TN ?_
  refine wp_seq ?_
  refine wp_region_lit ?_
  refine L1 (stv hA (by decide) (run_assign (hA.ev rfl)) ?_)
  clear hA; intro a hA
  refine LQ ?_
  refine TN ?_
  refine wp_seq ?_
  refine wp_seq ?_
  refine wp_region_lit ?_
  refine L1 (stv hA (by decide) (run_assign (hA.ev rfl)) ?_)
  clear hA; intro a hA
  refine LQ ?_
  refine TN ?_
  obtain ⟨o133, H132, H⟩ := Option.bind_eq_some_iff.1 H
  refine cutC (fun a w => ∃ (xs131 : (List Int)) (v128 : Value), xs131 = o133 ∧ Mem F w0 w [.row 5 (Pl.int .u8).sz v128 ((Pl.int .u8).flat xs131)] ∧ Has 15 [(1, v128)] a) ?_ ?_
  · refine wp_block ?_
    have hM := hM.addnil 5 ((Pl.int .u8)).sz
    refine wp_loop_ghost (fun m a w => ∃ (xs123 : (List Int)) (i125 : Int) (v120 : Value), law04_sane.l0 m xs123 i125 = some o133 ∧ Mem F w0 w [.row 5 (Pl.int .u8).sz v120 ((Pl.int .u8).flat xs123)] ∧ Has 15 [(1, v120), (2, (.int .u8 i125))] a) k ⟨([] : List Int), 0, (.slice none 0 0), H132, hM, ((hA.nil.cons (hA.get 2 _ rfl)).cons (hA.get 1 _ rfl))⟩ ?_
    clear hM hA; rintro m135 a w136 ⟨xs123, i125, v120, H132, hM, hA⟩
    cases m135 with
    | zero => exact absurd H132 (by simp [law04_sane.l0])
    | succ m135 =>
    rw [law04_sane.l0] at H132
    obtain ⟨A121, c122, rfl⟩ := RowOk.form (hM.row (p := (Pl.int .u8)) .z)
    refine wp_seq ?_
    refine wp_seq ?_
    refine wp_region_lit ?_
    refine L1 (stv hA (by decide) (run_move (hA.ev rfl)) ?_)
    clear hA; intro a hA
    refine L1 (stv hA (by decide) (run_bin (hA.ev rfl) (hA.ev rfl) (bin_lss _ _ _ _)) ?_)
    clear hA; intro a hA
    refine LQ ?_
    refine TN ?_
    refine tcond (b := (decide (i125 < 15))) hA rfl (fun hb137 => ?_) (fun hb137 => ?_)
    · replace H132 := ite_t hb137 H132
      refine wp_skip ?_
      refine TN ?_
      refine wp_seq ?_
      refine wp_block ?_
      refine wp_region_lit ?_
      refine L1 (stv hA (by decide) (run_move (hA.ev rfl)) ?_)
      clear hA; intro a hA
      refine L1 (stv hA (by decide) (run_move (hA.ev rfl)) ?_)
      clear hA; intro a hA
      refine L1 (e_litN [i125] [(.int .u8 i125)] elt25 hM rfl (by decide) hA rfl rfl (List.cons_ne_nil _ _) (by decide) ?_)
      clear hM hA; intro w139 g138 hM hE a hA
      obtain ⟨hl143, H132⟩ := ite_some H132
      refine L1 (e_append elt25 hM (fun _ => (.s .z)) (Src.row Try.underlying25 (RowOk.row (hM.row (p := (Pl.int .u8)) .z)) (RowOk.len (hM.row (p := (Pl.int .u8)) .z))) hl143 hA rfl rfl (by decide) ?_)
      clear hM hA; intro w144 A141 c142 hM hE a hA
      refine L1 (stv hA (by decide) (run_assign (hA.ev rfl)) ?_)
      clear hA; intro a hA
      refine LQ ?_
      refine BN ?_
      refine TN ?_
      refine wp_region_lit ?_
      refine L1 (stv hA (by decide) (run_move (hA.ev rfl)) ?_)
      clear hA; intro a hA
      refine L1 (stv hA (by decide) (run_bin (hA.ev rfl) (hA.ev rfl) (bin_add _ _ _ _)) ?_)
      clear hA; intro a hA
      refine L1 (stv hA (by decide) (run_assign (hA.ev rfl)) ?_)
      clear hA; intro a hA
      refine LQ ?_
      exact ⟨_, Nat.lt_succ_self m135, (xs123 ++ [i125]), IntKind.u8.wrap (i125 + 1), (.slice A141 (xs123.length + 1) c142), H132, (hM.sel [1] rfl (by decide)), ((hA.nil.cons (hA.get 2 _ rfl)).cons (hA.get 1 _ rfl))⟩
    · replace H132 := ite_f hb137 H132
      refine wp_exit ?_
      refine TX ?_
      refine TX ?_
      refine BX ?_
      exact ⟨xs123, (.slice A121 xs123.length c122), Option.some.inj H132, hM, (hA.nil.cons (hA.get 1 _ rfl))⟩
  clear hM hA
  rintro a w145 ⟨xs131, v128, rfl, hM, hA⟩
  try dsimp only at H
  obtain ⟨A129, c130, rfl⟩ := RowOk.form (hM.row (p := (Pl.int .u8)) .z)
  refine TN ?_
  refine wp_seq ?_
  refine wp_region_lit ?_
  refine L1 (stv hA (by decide) (run_build_arr [(0, (.int .u64 506097522914230528)), (1, (.int .u64 1084818905618843912))] zero24 Try.underlying24 Try.sizeOf22 hA rfl (fill_step rfl rfl (enc_fit _ _ rfl) (arr_eq (vec_spl' _ _ _ (by decide))) (fill_step rfl rfl (enc_fit _ _ rfl) (arr_eq (vec_spl' _ _ _ (by decide))) (fill_nil)))) ?_)
  clear hA; intro a hA
  refine L1 (stv hA (by decide) (run_move (hA.ev rfl)) ?_)
  clear hA; intro a hA
  obtain ⟨r146, H147, H⟩ := Option.bind_eq_some_iff.1 H
  refine L1 (st_call Try.call13 hA [(.agg (pSipKey.enc ((((Vector.replicate 2 0 : Vector Int 2).setIfInBounds 0 506097522914230528).setIfInBounds 1 1084818905618843912))).toArray), (.slice A129 xs131.length c130)] rfl (by decide) (sip_Sum.calls _ _ _ _ _ _ _ ((RoV.mk (hM.rowC (p := (Pl.int .u8)) (Ms := []) .z) (RowOk.len (hM.row (p := (Pl.int .u8)) .z)) (RowOk.cap (hM.row (p := (Pl.int .u8)) .z)))) (hM.front (Ms := [])) H147) ?_)
  clear hA; rintro _ w148 ⟨rfl, hMc⟩ a hA
  have hE := hMc.below; have hM := hM.call (Ms := []) hMc
  clear hMc; simp only [List.cons_append, List.nil_append] at hM
  refine L1 (stv hA (by decide) (run_bin (hA.ev rfl) (hA.ev rfl) (bin_eql _ _ _ _)) ?_)
  clear hA; intro a hA
  refine L1 (stv hA (by decide) (run_assign (hA.ev rfl)) ?_)
  clear hA; intro a hA
  refine LQ ?_
  refine TN ?_
  refine wp_ret ?_
  obtain rfl := Option.some.inj H
  exact ret_post1 (fn := Try.f12) hA rfl rfl ⟨_, rfl, rfl, (hM.sel [] rfl (by decide))⟩

def ref04_round.f (k : Nat) (v_0 : (Vector Int 4)) : Option (Vector Int 4) := (Option.bind (some (vs v_0 (0 : Int) (IntKind.u64.wrap ((vg v_0 (0 : Int)) + (vg v_0 (1 : Int)))))) fun x63 => ((bits_RotateLeft64.f k (vg x63 (1 : Int)) 13).bind fun r67 => ((bits_RotateLeft64.f k (vg (vs x63 (1 : Int) (ixor .u64 r67 (vg x63 (0 : Int)))) (0 : Int)) 32).bind fun r71 => (Option.bind (some (vs (vs x63 (1 : Int) (ixor .u64 r67 (vg x63 (0 : Int)))) (0 : Int) r71)) fun x75 => (Option.bind (some (vs x75 (2 : Int) (IntKind.u64.wrap ((vg x75 (2 : Int)) + (vg x75 (3 : Int)))))) fun x78 => ((bits_RotateLeft64.f k (vg x78 (3 : Int)) 16).bind fun r82 => (Option.bind (some (vs (vs x78 (3 : Int) (ixor .u64 r82 (vg x78 (2 : Int)))) (0 : Int) (IntKind.u64.wrap ((vg (vs x78 (3 : Int) (ixor .u64 r82 (vg x78 (2 : Int)))) (0 : Int)) + (vg (vs x78 (3 : Int) (ixor .u64 r82 (vg x78 (2 : Int)))) (3 : Int)))))) fun x87 => ((bits_RotateLeft64.f k (vg x87 (3 : Int)) 21).bind fun r91 => (Option.bind (some (vs (vs x87 (3 : Int) (ixor .u64 r91 (vg x87 (0 : Int)))) (2 : Int) (IntKind.u64.wrap ((vg (vs x87 (3 : Int) (ixor .u64 r91 (vg x87 (0 : Int)))) (2 : Int)) + (vg (vs x87 (3 : Int) (ixor .u64 r91 (vg x87 (0 : Int)))) (1 : Int)))))) fun x96 => ((bits_RotateLeft64.f k (vg x96 (1 : Int)) 17).bind fun r100 => ((bits_RotateLeft64.f k (vg (vs x96 (1 : Int) (ixor .u64 r100 (vg x96 (2 : Int)))) (2 : Int)) 32).bind fun r104 => (Option.bind (some (vs (vs x96 (1 : Int) (ixor .u64 r100 (vg x96 (2 : Int)))) (2 : Int) r104)) fun x108 => (some x108)))))))))))))
set_option maxRecDepth 100000 in
theorem ref04_round.calls (k : Nat) (v_0 : (Vector Int 4)) (F : List (Option Nat)) (r : (Vector Int 4)) (w0 : World) (hM : Mem F w0 w0 []) (H : ref04_round.f k v_0 = some r) :
    Calls Try.prog 43 #[(.agg (pA4u64.enc v_0).toArray)] w0 fun e w' => ∃ v, e = .returned v ∧ v = (.agg (pA4u64.enc r).toArray) ∧ Mem F w0 w' [] := by
  unfold ref04_round.f at H
  refine enterL (n := 64) [(.agg (pA4u64.enc v_0).toArray)] Try.func43 rfl rfl rfl ?_
  intro a hA
  refine wp_seq ?_
  refine wp_region_lit ?_
  refine L1 (e_box (cs := (pA4u64.enc v_0)) hM hA rfl rfl (by decide) ?_)
  clear hM hA; intro w57 g56 hM hE a hA
  refine L1 (e_alloc (cs := (pA4u64.enc (Vector.replicate 4 0 : Vector Int 4))) hM zero83 rfl hA (by decide) ?_)
  clear hM hA; intro w60 g59 hM hE a hA
  refine LQ ?_
  refine TN ?_
  refine wp_seq ?_
  refine wp_region_lit ?_
  refine L1 (stv hA (by decide) (run_idxarr Try.underlying83 Try.sizeOf22 (hA.ev rfl) (hA.ev rfl) (by decide) (by decide)) ?_)
  clear hA; intro a hA
  refine L1 (stv hA (by decide) (run_ld (hA.ev rfl) (run_loadS Try.isAgg22 (vec_at (hM.box (.s .z)) (by decide) (by decide)))) ?_)
  clear hA; intro a hA
  refine L1 (stv hA (by decide) (run_idxarr Try.underlying83 Try.sizeOf22 (hA.ev rfl) (hA.ev rfl) (by decide) (by decide)) ?_)
  clear hA; intro a hA
  refine L1 (stv hA (by decide) (run_ld (hA.ev rfl) (run_loadS Try.isAgg22 (vec_at (hM.box (.s .z)) (by decide) (by decide)))) ?_)
  clear hA; intro a hA
  refine L1 (stv hA (by decide) (run_bin (hA.ev rfl) (hA.ev rfl) (bin_add _ _ _ _)) ?_)
  clear hA; intro a hA
  refine L1 (stv hA (by decide) (run_idxarr Try.underlying83 Try.sizeOf22 (hA.ev rfl) (hA.ev rfl) (by decide) (by decide)) ?_)
  clear hA; intro a hA
  refine L1 (e_store (g := g56) (off := ((0 : Int).toNat * 1)) (cur := (pA4u64.enc v_0)) (cs' := (pA4u64.enc (vs v_0 (0 : Int) (IntKind.u64.wrap ((vg v_0 (0 : Int)) + (vg v_0 (1 : Int))))))) hM (.s .z) Try.sizeOf22 hA rfl (by simp [add_mk]) rfl (by first | rfl | simp [Value.cells, Pl.len]) (one_val rfl) (by rw [Pl.len]; decide) (vec_spl _ _ (by decide) (by decide)) ?_)
  clear hM hA; intro w62 hM hE a hA
  obtain ⟨x63, hx64, H⟩ := Option.bind_eq_some_iff.1 H
  rw [Option.some.inj hx64] at hM
  refine LQ ?_
  refine TN ?_
  refine wp_seq ?_
  refine draw (fun w' => Below w62.heap.size w62 w') [7] rfl ?_
  intro w65 hw hS; replace hM := hM.ext hS; clear hw
  refine d_takef (i := 0) (L' := #[true, false, false, false, false, false, false, false]) rfl (by kernel_rfl) rfl (fun _ _ _ h => h) hA (by decide) (fun _ => hS) (fun a w' hA => run_idxarr Try.underlying83 Try.sizeOf22 (hA.ev rfl) (hA.ev rfl) (by decide) (by decide)) ?_; clear hA; intro a hA
  refine rebase hS ?_; clear hS; intro hS
  refine d_take (i := 1) (L' := #[true, true, false, false, false, false, false, false]) rfl (by kernel_rfl) rfl (fun _ _ _ h => h) hA (by decide) rfl hS (fun a w' hA hS' => run_ld (hA.ev rfl) (run_loadS Try.isAgg22 ((vec_at (hM.box (.s .z)) (by decide) (by decide)).extB hS'))) ?_; clear hA; intro a hA
  refine d_takef (i := 3) (L' := #[true, true, false, true, false, false, false, false]) rfl (by kernel_rfl) rfl (fun _ _ _ h => h) hA (by decide) (fun _ => hS) (fun a w' hA => run_idxarr Try.underlying83 Try.sizeOf22 (hA.ev rfl) (hA.ev rfl) (by decide) (by decide)) ?_; clear hA; intro a hA
  refine d_take (i := 4) (L' := #[true, true, false, true, true, false, false, false]) rfl (by kernel_rfl) rfl (fun _ _ _ h => h) hA (by decide) rfl hS (fun a w' hA hS' => run_ld (hA.ev rfl) (run_loadS Try.isAgg22 ((vec_at (hM.box (.s .z)) (by decide) (by decide)).extB hS'))) ?_; clear hA; intro a hA
  obtain ⟨r67, H68, H⟩ := Option.bind_eq_some_iff.1 H
  refine d_one (i := 2) (L' := #[true, true, true, true, true, false, false, false]) (by kernel_rfl) rfl rfl (st_call Try.call69 hA [(.int .u64 (vg x63 (1 : Int))), (.int .i64 13)] rfl (by decide) (bits_RotateLeft64.calls _ _ _ _ _ _ (hM.front (Ms := [])) H68) ?_)
  clear hA; rintro _ w69 ⟨rfl, hMc⟩ a hA
  have hE := hMc.below; have hM := hM.call (Ms := []) hMc
  clear hMc; simp only [List.cons_append, List.nil_append] at hM
  replace hS := hS.trans (hE.mono hS.size)
  refine ⟨fun _ => hS, ?_⟩
  refine d_takef (i := 5) (L' := #[true, true, true, true, true, true, false, false]) rfl (by kernel_rfl) rfl (fun _ _ _ h => h) hA (by decide) (fun _ => hS) (fun a w' hA => run_bin (hA.ev rfl) (hA.ev rfl) (bin_xor _ _ _ _)) ?_; clear hA; intro a hA
  refine d_takef (i := 6) (L' := #[true, true, true, true, true, true, true, false]) rfl (by kernel_rfl) rfl (fun _ _ _ h => h) hA (by decide) (fun _ => hS) (fun a w' hA => run_idxarr Try.underlying83 Try.sizeOf22 (hA.ev rfl) (hA.ev rfl) (by decide) (by decide)) ?_; clear hA; intro a hA
  refine d_one (i := 7) (L' := #[true, true, true, true, true, true, true, true]) (by kernel_rfl) rfl rfl (e_store (g := g56) (off := ((1 : Int).toNat * 1)) (cur := (pA4u64.enc x63)) (cs' := (pA4u64.enc (vs x63 (1 : Int) (ixor .u64 r67 (vg x63 (0 : Int)))))) hM (.s .z) Try.sizeOf22 hA rfl (by simp [add_mk]) rfl (by first | rfl | simp [Value.cells, Pl.len]) (one_val rfl) (by rw [Pl.len]; decide) (vec_spl _ _ (by decide) (by decide)) ?_)
  clear hM hA; intro w70 hM hE a hA
  refine ⟨fun h => absurd h (by decide), ?_⟩
  refine d_done (by kernel_rfl) ?_
  refine TN ?_
  refine wp_seq ?_
  refine wp_region_lit ?_
  refine L1 (stv hA (by decide) (run_idxarr Try.underlying83 Try.sizeOf22 (hA.ev rfl) (hA.ev rfl) (by decide) (by decide)) ?_)
  clear hA; intro a hA
  refine L1 (stv hA (by decide) (run_ld (hA.ev rfl) (run_loadS Try.isAgg22 (vec_at (hM.box (.s .z)) (by decide) (by decide)))) ?_)
  clear hA; intro a hA
  obtain ⟨r71, H72, H⟩ := Option.bind_eq_some_iff.1 H
  refine L1 (st_call Try.call69 hA [(.int .u64 (vg (vs x63 (1 : Int) (ixor .u64 r67 (vg x63 (0 : Int)))) (0 : Int))), (.int .i64 32)] rfl (by decide) (bits_RotateLeft64.calls _ _ _ _ _ _ (hM.front (Ms := [])) H72) ?_)
  clear hA; rintro _ w73 ⟨rfl, hMc⟩ a hA
  have hE := hMc.below; have hM := hM.call (Ms := []) hMc
  clear hMc; simp only [List.cons_append, List.nil_append] at hM
  refine L1 (stv hA (by decide) (run_idxarr Try.underlying83 Try.sizeOf22 (hA.ev rfl) (hA.ev rfl) (by decide) (by decide)) ?_)
  clear hA; intro a hA
  refine L1 (e_store (g := g56) (off := ((0 : Int).toNat * 1)) (cur := (pA4u64.enc (vs x63 (1 : Int) (ixor .u64 r67 (vg x63 (0 : Int)))))) (cs' := (pA4u64.enc (vs (vs x63 (1 : Int) (ixor .u64 r67 (vg x63 (0 : Int)))) (0 : Int) r71))) hM (.s .z) Try.sizeOf22 hA rfl (by simp [add_mk]) rfl (by first | rfl | simp [Value.cells, Pl.len]) (one_val rfl) (by rw [Pl.len]; decide) (vec_spl _ _ (by decide) (by decide)) ?_)
  clear hM hA; intro w74 hM hE a hA
  obtain ⟨x75, hx76, H⟩ := Option.bind_eq_some_iff.1 H
  rw [Option.some.inj hx76] at hM
  refine LQ ?_
  refine TN ?_
  refine wp_seq ?_
  refine wp_region_lit ?_
  refine L1 (stv hA (by decide) (run_idxarr Try.underlying83 Try.sizeOf22 (hA.ev rfl) (hA.ev rfl) (by decide) (by decide)) ?_)
  clear hA; intro a hA
  refine L1 (stv hA (by decide) (run_ld (hA.ev rfl) (run_loadS Try.isAgg22 (vec_at (hM.box (.s .z)) (by decide) (by decide)))) ?_)
  clear hA; intro a hA
  refine L1 (stv hA (by decide) (run_idxarr Try.underlying83 Try.sizeOf22 (hA.ev rfl) (hA.ev rfl) (by decide) (by decide)) ?_)
  clear hA; intro a hA
  refine L1 (stv hA (by decide) (run_ld (hA.ev rfl) (run_loadS Try.isAgg22 (vec_at (hM.box (.s .z)) (by decide) (by decide)))) ?_)
  clear hA; intro a hA
  refine L1 (stv hA (by decide) (run_bin (hA.ev rfl) (hA.ev rfl) (bin_add _ _ _ _)) ?_)
  clear hA; intro a hA
  refine L1 (stv hA (by decide) (run_idxarr Try.underlying83 Try.sizeOf22 (hA.ev rfl) (hA.ev rfl) (by decide) (by decide)) ?_)
  clear hA; intro a hA
  refine L1 (e_store (g := g56) (off := ((2 : Int).toNat * 1)) (cur := (pA4u64.enc x75)) (cs' := (pA4u64.enc (vs x75 (2 : Int) (IntKind.u64.wrap ((vg x75 (2 : Int)) + (vg x75 (3 : Int))))))) hM (.s .z) Try.sizeOf22 hA rfl (by simp [add_mk]) rfl (by first | rfl | simp [Value.cells, Pl.len]) (one_val rfl) (by rw [Pl.len]; decide) (vec_spl _ _ (by decide) (by decide)) ?_)
  clear hM hA; intro w77 hM hE a hA
  obtain ⟨x78, hx79, H⟩ := Option.bind_eq_some_iff.1 H
  rw [Option.some.inj hx79] at hM
  refine LQ ?_
  refine TN ?_
  refine wp_seq ?_
  refine draw (fun w' => Below w77.heap.size w77 w') [7] rfl ?_
  intro w80 hw hS; replace hM := hM.ext hS; clear hw
  refine d_takef (i := 0) (L' := #[true, false, false, false, false, false, false, false]) rfl (by kernel_rfl) rfl (fun _ _ _ h => h) hA (by decide) (fun _ => hS) (fun a w' hA => run_idxarr Try.underlying83 Try.sizeOf22 (hA.ev rfl) (hA.ev rfl) (by decide) (by decide)) ?_; clear hA; intro a hA
  refine rebase hS ?_; clear hS; intro hS
  refine d_take (i := 1) (L' := #[true, true, false, false, false, false, false, false]) rfl (by kernel_rfl) rfl (fun _ _ _ h => h) hA (by decide) rfl hS (fun a w' hA hS' => run_ld (hA.ev rfl) (run_loadS Try.isAgg22 ((vec_at (hM.box (.s .z)) (by decide) (by decide)).extB hS'))) ?_; clear hA; intro a hA
  refine d_takef (i := 3) (L' := #[true, true, false, true, false, false, false, false]) rfl (by kernel_rfl) rfl (fun _ _ _ h => h) hA (by decide) (fun _ => hS) (fun a w' hA => run_idxarr Try.underlying83 Try.sizeOf22 (hA.ev rfl) (hA.ev rfl) (by decide) (by decide)) ?_; clear hA; intro a hA
  refine d_take (i := 4) (L' := #[true, true, false, true, true, false, false, false]) rfl (by kernel_rfl) rfl (fun _ _ _ h => h) hA (by decide) rfl hS (fun a w' hA hS' => run_ld (hA.ev rfl) (run_loadS Try.isAgg22 ((vec_at (hM.box (.s .z)) (by decide) (by decide)).extB hS'))) ?_; clear hA; intro a hA
  obtain ⟨r82, H83, H⟩ := Option.bind_eq_some_iff.1 H
  refine d_one (i := 2) (L' := #[true, true, true, true, true, false, false, false]) (by kernel_rfl) rfl rfl (st_call Try.call69 hA [(.int .u64 (vg x78 (3 : Int))), (.int .i64 16)] rfl (by decide) (bits_RotateLeft64.calls _ _ _ _ _ _ (hM.front (Ms := [])) H83) ?_)
  clear hA; rintro _ w84 ⟨rfl, hMc⟩ a hA
  have hE := hMc.below; have hM := hM.call (Ms := []) hMc
  clear hMc; simp only [List.cons_append, List.nil_append] at hM
  replace hS := hS.trans (hE.mono hS.size)
  refine ⟨fun _ => hS, ?_⟩
  refine d_takef (i := 5) (L' := #[true, true, true, true, true, true, false, false]) rfl (by kernel_rfl) rfl (fun _ _ _ h => h) hA (by decide) (fun _ => hS) (fun a w' hA => run_bin (hA.ev rfl) (hA.ev rfl) (bin_xor _ _ _ _)) ?_; clear hA; intro a hA
  refine d_takef (i := 6) (L' := #[true, true, true, true, true, true, true, false]) rfl (by kernel_rfl) rfl (fun _ _ _ h => h) hA (by decide) (fun _ => hS) (fun a w' hA => run_idxarr Try.underlying83 Try.sizeOf22 (hA.ev rfl) (hA.ev rfl) (by decide) (by decide)) ?_; clear hA; intro a hA
  refine d_one (i := 7) (L' := #[true, true, true, true, true, true, true, true]) (by kernel_rfl) rfl rfl (e_store (g := g56) (off := ((3 : Int).toNat * 1)) (cur := (pA4u64.enc x78)) (cs' := (pA4u64.enc (vs x78 (3 : Int) (ixor .u64 r82 (vg x78 (2 : Int)))))) hM (.s .z) Try.sizeOf22 hA rfl (by simp [add_mk]) rfl (by first | rfl | simp [Value.cells, Pl.len]) (one_val rfl) (by rw [Pl.len]; decide) (vec_spl _ _ (by decide) (by decide)) ?_)
  clear hM hA; intro w85 hM hE a hA
  refine ⟨fun h => absurd h (by decide), ?_⟩
  refine d_done (by kernel_rfl) ?_
  refine TN ?_
  refine wp_seq ?_
  refine wp_region_lit ?_
  refine L1 (stv hA (by decide) (run_idxarr Try.underlying83 Try.sizeOf22 (hA.ev rfl) (hA.ev rfl) (by decide) (by decide)) ?_)
  clear hA; intro a hA
  refine L1 (stv hA (by decide) (run_ld (hA.ev rfl) (run_loadS Try.isAgg22 (vec_at (hM.box (.s .z)) (by decide) (by decide)))) ?_)
  clear hA; intro a hA
  refine L1 (stv hA (by decide) (run_idxarr Try.underlying83 Try.sizeOf22 (hA.ev rfl) (hA.ev rfl) (by decide) (by decide)) ?_)
  clear hA; intro a hA
  refine L1 (stv hA (by decide) (run_ld (hA.ev rfl) (run_loadS Try.isAgg22 (vec_at (hM.box (.s .z)) (by decide) (by decide)))) ?_)
  clear hA; intro a hA
  refine L1 (stv hA (by decide) (run_bin (hA.ev rfl) (hA.ev rfl) (bin_add _ _ _ _)) ?_)
  clear hA; intro a hA
  refine L1 (stv hA (by decide) (run_idxarr Try.underlying83 Try.sizeOf22 (hA.ev rfl) (hA.ev rfl) (by decide) (by decide)) ?_)
  clear hA; intro a hA
  refine L1 (e_store (g := g56) (off := ((0 : Int).toNat * 1)) (cur := (pA4u64.enc (vs x78 (3 : Int) (ixor .u64 r82 (vg x78 (2 : Int)))))) (cs' := (pA4u64.enc (vs (vs x78 (3 : Int) (ixor .u64 r82 (vg x78 (2 : Int)))) (0 : Int) (IntKind.u64.wrap ((vg (vs x78 (3 : Int) (ixor .u64 r82 (vg x78 (2 : Int)))) (0 : Int)) + (vg (vs x78 (3 : Int) (ixor .u64 r82 (vg x78 (2 : Int)))) (3 : Int))))))) hM (.s .z) Try.sizeOf22 hA rfl (by simp [add_mk]) rfl (by first | rfl | simp [Value.cells, Pl.len]) (one_val rfl) (by rw [Pl.len]; decide) (vec_spl _ _ (by decide) (by decide)) ?_)
  clear hM hA; intro w86 hM hE a hA
  obtain ⟨x87, hx88, H⟩ := Option.bind_eq_some_iff.1 H
  rw [Option.some.inj hx88] at hM
  refine LQ ?_
  refine TN ?_
  refine wp_seq ?_
  refine draw (fun w' => Below w86.heap.size w86 w') [7] rfl ?_
  intro w89 hw hS; replace hM := hM.ext hS; clear hw
  refine d_takef (i := 0) (L' := #[true, false, false, false, false, false, false, false]) rfl (by kernel_rfl) rfl (fun _ _ _ h => h) hA (by decide) (fun _ => hS) (fun a w' hA => run_idxarr Try.underlying83 Try.sizeOf22 (hA.ev rfl) (hA.ev rfl) (by decide) (by decide)) ?_; clear hA; intro a hA
  refine rebase hS ?_; clear hS; intro hS
  refine d_take (i := 1) (L' := #[true, true, false, false, false, false, false, false]) rfl (by kernel_rfl) rfl (fun _ _ _ h => h) hA (by decide) rfl hS (fun a w' hA hS' => run_ld (hA.ev rfl) (run_loadS Try.isAgg22 ((vec_at (hM.box (.s .z)) (by decide) (by decide)).extB hS'))) ?_; clear hA; intro a hA
  refine d_takef (i := 3) (L' := #[true, true, false, true, false, false, false, false]) rfl (by kernel_rfl) rfl (fun _ _ _ h => h) hA (by decide) (fun _ => hS) (fun a w' hA => run_idxarr Try.underlying83 Try.sizeOf22 (hA.ev rfl) (hA.ev rfl) (by decide) (by decide)) ?_; clear hA; intro a hA
  refine d_take (i := 4) (L' := #[true, true, false, true, true, false, false, false]) rfl (by kernel_rfl) rfl (fun _ _ _ h => h) hA (by decide) rfl hS (fun a w' hA hS' => run_ld (hA.ev rfl) (run_loadS Try.isAgg22 ((vec_at (hM.box (.s .z)) (by decide) (by decide)).extB hS'))) ?_; clear hA; intro a hA
  obtain ⟨r91, H92, H⟩ := Option.bind_eq_some_iff.1 H
  refine d_one (i := 2) (L' := #[true, true, true, true, true, false, false, false]) (by kernel_rfl) rfl rfl (st_call Try.call69 hA [(.int .u64 (vg x87 (3 : Int))), (.int .i64 21)] rfl (by decide) (bits_RotateLeft64.calls _ _ _ _ _ _ (hM.front (Ms := [])) H92) ?_)
  clear hA; rintro _ w93 ⟨rfl, hMc⟩ a hA
  have hE := hMc.below; have hM := hM.call (Ms := []) hMc
  clear hMc; simp only [List.cons_append, List.nil_append] at hM
  replace hS := hS.trans (hE.mono hS.size)
  refine ⟨fun _ => hS, ?_⟩
  refine d_takef (i := 5) (L' := #[true, true, true, true, true, true, false, false]) rfl (by kernel_rfl) rfl (fun _ _ _ h => h) hA (by decide) (fun _ => hS) (fun a w' hA => run_bin (hA.ev rfl) (hA.ev rfl) (bin_xor _ _ _ _)) ?_; clear hA; intro a hA
  refine d_takef (i := 6) (L' := #[true, true, true, true, true, true, true, false]) rfl (by kernel_rfl) rfl (fun _ _ _ h => h) hA (by decide) (fun _ => hS) (fun a w' hA => run_idxarr Try.underlying83 Try.sizeOf22 (hA.ev rfl) (hA.ev rfl) (by decide) (by decide)) ?_; clear hA; intro a hA
  refine d_one (i := 7) (L' := #[true, true, true, true, true, true, true, true]) (by kernel_rfl) rfl rfl (e_store (g := g56) (off := ((3 : Int).toNat * 1)) (cur := (pA4u64.enc x87)) (cs' := (pA4u64.enc (vs x87 (3 : Int) (ixor .u64 r91 (vg x87 (0 : Int)))))) hM (.s .z) Try.sizeOf22 hA rfl (by simp [add_mk]) rfl (by first | rfl | simp [Value.cells, Pl.len]) (one_val rfl) (by rw [Pl.len]; decide) (vec_spl _ _ (by decide) (by decide)) ?_)
  clear hM hA; intro w94 hM hE a hA
  refine ⟨fun h => absurd h (by decide), ?_⟩
  refine d_done (by kernel_rfl) ?_
  refine TN ?_
  refine wp_seq ?_
  refine wp_region_lit ?_
  refine L1 (stv hA (by decide) (run_idxarr Try.underlying83 Try.sizeOf22 (hA.ev rfl) (hA.ev rfl) (by decide) (by decide)) ?_)
  clear hA; intro a hA
  refine L1 (stv hA (by decide) (run_ld (hA.ev rfl) (run_loadS Try.isAgg22 (vec_at (hM.box (.s .z)) (by decide) (by decide)))) ?_)
  clear hA; intro a hA
  refine L1 (stv hA (by decide) (run_idxarr Try.underlying83 Try.sizeOf22 (hA.ev rfl) (hA.ev rfl) (by decide) (by decide)) ?_)
  clear hA; intro a hA
  refine L1 (stv hA (by decide) (run_ld (hA.ev rfl) (run_loadS Try.isAgg22 (vec_at (hM.box (.s .z)) (by decide) (by decide)))) ?_)
  clear hA; intro a hA
  refine L1 (stv hA (by decide) (run_bin (hA.ev rfl) (hA.ev rfl) (bin_add _ _ _ _)) ?_)
  clear hA; intro a hA
  refine L1 (stv hA (by decide) (run_idxarr Try.underlying83 Try.sizeOf22 (hA.ev rfl) (hA.ev rfl) (by decide) (by decide)) ?_)
  clear hA; intro a hA
  refine L1 (e_store (g := g56) (off := ((2 : Int).toNat * 1)) (cur := (pA4u64.enc (vs x87 (3 : Int) (ixor .u64 r91 (vg x87 (0 : Int)))))) (cs' := (pA4u64.enc (vs (vs x87 (3 : Int) (ixor .u64 r91 (vg x87 (0 : Int)))) (2 : Int) (IntKind.u64.wrap ((vg (vs x87 (3 : Int) (ixor .u64 r91 (vg x87 (0 : Int)))) (2 : Int)) + (vg (vs x87 (3 : Int) (ixor .u64 r91 (vg x87 (0 : Int)))) (1 : Int))))))) hM (.s .z) Try.sizeOf22 hA rfl (by simp [add_mk]) rfl (by first | rfl | simp [Value.cells, Pl.len]) (one_val rfl) (by rw [Pl.len]; decide) (vec_spl _ _ (by decide) (by decide)) ?_)
  clear hM hA; intro w95 hM hE a hA
  obtain ⟨x96, hx97, H⟩ := Option.bind_eq_some_iff.1 H
  rw [Option.some.inj hx97] at hM
  refine LQ ?_
  refine TN ?_
  refine wp_seq ?_
  refine draw (fun w' => Below w95.heap.size w95 w') [7] rfl ?_
  intro w98 hw hS; replace hM := hM.ext hS; clear hw
  refine d_takef (i := 0) (L' := #[true, false, false, false, false, false, false, false]) rfl (by kernel_rfl) rfl (fun _ _ _ h => h) hA (by decide) (fun _ => hS) (fun a w' hA => run_idxarr Try.underlying83 Try.sizeOf22 (hA.ev rfl) (hA.ev rfl) (by decide) (by decide)) ?_; clear hA; intro a hA
  refine rebase hS ?_; clear hS; intro hS
  refine d_take (i := 1) (L' := #[true, true, false, false, false, false, false, false]) rfl (by kernel_rfl) rfl (fun _ _ _ h => h) hA (by decide) rfl hS (fun a w' hA hS' => run_ld (hA.ev rfl) (run_loadS Try.isAgg22 ((vec_at (hM.box (.s .z)) (by decide) (by decide)).extB hS'))) ?_; clear hA; intro a hA
  refine d_takef (i := 3) (L' := #[true, true, false, true, false, false, false, false]) rfl (by kernel_rfl) rfl (fun _ _ _ h => h) hA (by decide) (fun _ => hS) (fun a w' hA => run_idxarr Try.underlying83 Try.sizeOf22 (hA.ev rfl) (hA.ev rfl) (by decide) (by decide)) ?_; clear hA; intro a hA
  refine d_take (i := 4) (L' := #[true, true, false, true, true, false, false, false]) rfl (by kernel_rfl) rfl (fun _ _ _ h => h) hA (by decide) rfl hS (fun a w' hA hS' => run_ld (hA.ev rfl) (run_loadS Try.isAgg22 ((vec_at (hM.box (.s .z)) (by decide) (by decide)).extB hS'))) ?_; clear hA; intro a hA
  obtain ⟨r100, H101, H⟩ := Option.bind_eq_some_iff.1 H
  refine d_one (i := 2) (L' := #[true, true, true, true, true, false, false, false]) (by kernel_rfl) rfl rfl (st_call Try.call69 hA [(.int .u64 (vg x96 (1 : Int))), (.int .i64 17)] rfl (by decide) (bits_RotateLeft64.calls _ _ _ _ _ _ (hM.front (Ms := [])) H101) ?_)
  clear hA; rintro _ w102 ⟨rfl, hMc⟩ a hA
  have hE := hMc.below; have hM := hM.call (Ms := []) hMc
  clear hMc; simp only [List.cons_append, List.nil_append] at hM
  replace hS := hS.trans (hE.mono hS.size)
  refine ⟨fun _ => hS, ?_⟩
  refine d_takef (i := 5) (L' := #[true, true, true, true, true, true, false, false]) rfl (by kernel_rfl) rfl (fun _ _ _ h => h) hA (by decide) (fun _ => hS) (fun a w' hA => run_bin (hA.ev rfl) (hA.ev rfl) (bin_xor _ _ _ _)) ?_; clear hA; intro a hA
  refine d_takef (i := 6) (L' := #[true, true, true, true, true, true, true, false]) rfl (by kernel_rfl) rfl (fun _ _ _ h => h) hA (by decide) (fun _ => hS) (fun a w' hA => run_idxarr Try.underlying83 Try.sizeOf22 (hA.ev rfl) (hA.ev rfl) (by decide) (by decide)) ?_; clear hA; intro a hA
  refine d_one (i := 7) (L' := #[true, true, true, true, true, true, true, true]) (by kernel_rfl) rfl rfl (e_store (g := g56) (off := ((1 : Int).toNat * 1)) (cur := (pA4u64.enc x96)) (cs' := (pA4u64.enc (vs x96 (1 : Int) (ixor .u64 r100 (vg x96 (2 : Int)))))) hM (.s .z) Try.sizeOf22 hA rfl (by simp [add_mk]) rfl (by first | rfl | simp [Value.cells, Pl.len]) (one_val rfl) (by rw [Pl.len]; decide) (vec_spl _ _ (by decide) (by decide)) ?_)
  clear hM hA; intro w103 hM hE a hA
  refine ⟨fun h => absurd h (by decide), ?_⟩
  refine d_done (by kernel_rfl) ?_
  refine TN ?_
  refine wp_seq ?_
  refine wp_region_lit ?_
  refine L1 (stv hA (by decide) (run_idxarr Try.underlying83 Try.sizeOf22 (hA.ev rfl) (hA.ev rfl) (by decide) (by decide)) ?_)
  clear hA; intro a hA
  refine L1 (stv hA (by decide) (run_ld (hA.ev rfl) (run_loadS Try.isAgg22 (vec_at (hM.box (.s .z)) (by decide) (by decide)))) ?_)
  clear hA; intro a hA
  obtain ⟨r104, H105, H⟩ := Option.bind_eq_some_iff.1 H
  refine L1 (st_call Try.call69 hA [(.int .u64 (vg (vs x96 (1 : Int) (ixor .u64 r100 (vg x96 (2 : Int)))) (2 : Int))), (.int .i64 32)] rfl (by decide) (bits_RotateLeft64.calls _ _ _ _ _ _ (hM.front (Ms := [])) H105) ?_)
  clear hA; rintro _ w106 ⟨rfl, hMc⟩ a hA
  have hE := hMc.below; have hM := hM.call (Ms := []) hMc
  clear hMc; simp only [List.cons_append, List.nil_append] at hM
  refine L1 (stv hA (by decide) (run_idxarr Try.underlying83 Try.sizeOf22 (hA.ev rfl) (hA.ev rfl) (by decide) (by decide)) ?_)
  clear hA; intro a hA
  refine L1 (e_store (g := g56) (off := ((2 : Int).toNat * 1)) (cur := (pA4u64.enc (vs x96 (1 : Int) (ixor .u64 r100 (vg x96 (2 : Int)))))) (cs' := (pA4u64.enc (vs (vs x96 (1 : Int) (ixor .u64 r100 (vg x96 (2 : Int)))) (2 : Int) r104))) hM (.s .z) Try.sizeOf22 hA rfl (by simp [add_mk]) rfl (by first | rfl | simp [Value.cells, Pl.len]) (one_val rfl) (by rw [Pl.len]; decide) (vec_spl _ _ (by decide) (by decide)) ?_)
  clear hM hA; intro w107 hM hE a hA
  obtain ⟨x108, hx109, H⟩ := Option.bind_eq_some_iff.1 H
  rw [Option.some.inj hx109] at hM
  refine LQ ?_
  refine TN ?_
  refine wp_seq ?_
  refine wp_region_lit ?_
  refine L1 (stv hA (by decide) (run_ld (hA.ev rfl) (run_loadP Try.isAgg83 Try.sizeOf83 (hM.box (.s .z)))) ?_)
  clear hA; intro a hA
  refine L1 (e_store (g := g59) (off := 0) (cur := (pA4u64.enc (Vector.replicate 4 0 : Vector Int 4))) (cs' := (pA4u64.enc x108)) hM .z Try.sizeOf83 hA rfl (by simp [add_mk]) rfl (agg_size _ _) (agg_one _ _) (Nat.le_of_ble_eq_true (enc_fitL _ _ rfl)) (spl_all (by first | rfl | simp [Value.cells, Pl.len])) ?_)
  clear hM hA; intro w110 hM hE a hA
  refine LQ ?_
  refine TN ?_
  refine wp_ret ?_
  obtain rfl := Option.some.inj H
  exact ret_cell (fn := Try.f43) hA rfl rfl (run_loadP Try.isAgg83 Try.sizeOf83 (hM.box .z)) ⟨_, rfl, rfl, (hM.sel [] rfl (by decide))⟩

def ref04_absorb.f (k : Nat) (v_0 : (Vector Int 4)) (m_1 : Int) : Option (Vector Int 4) := ((ref04_round.f k (vs v_0 (3 : Int) (ixor .u64 (vg v_0 (3 : Int)) m_1))).bind fun r24 => ((ref04_round.f k r24).bind fun r27 => (some (vs r27 (0 : Int) (ixor .u64 (vg r27 (0 : Int)) m_1)))))
set_option maxRecDepth 100000 in
theorem ref04_absorb.calls (k : Nat) (v_0 : (Vector Int 4)) (m_1 : Int) (F : List (Option Nat)) (r : (Vector Int 4)) (w0 : World) (hM : Mem F w0 w0 []) (H : ref04_absorb.f k v_0 m_1 = some r) :
    Calls Try.prog 41 #[(.agg (pA4u64.enc v_0).toArray), (.int .u64 m_1)] w0 fun e w' => ∃ v, e = .returned v ∧ v = (.agg (pA4u64.enc r).toArray) ∧ Mem F w0 w' [] := by
  unfold ref04_absorb.f at H
  refine enterL (n := 19) [(.agg (pA4u64.enc v_0).toArray), (.int .u64 m_1)] Try.func41 rfl rfl rfl ?_
  intro a hA
  refine wp_seq ?_
  refine wp_region_lit ?_
  refine L1 (e_box (cs := (pA4u64.enc v_0)) hM hA rfl rfl (by decide) ?_)
  clear hM hA; intro w18 g17 hM hE a hA
  refine L1 (e_alloc (cs := (pA4u64.enc (Vector.replicate 4 0 : Vector Int 4))) hM zero83 rfl hA (by decide) ?_)
  clear hM hA; intro w21 g20 hM hE a hA
  refine LQ ?_
  refine TN ?_
  refine wp_seq ?_
  refine wp_region_lit ?_
  refine L1 (stv hA (by decide) (run_idxarr Try.underlying83 Try.sizeOf22 (hA.ev rfl) (hA.ev rfl) (by decide) (by decide)) ?_)
  clear hA; intro a hA
  refine L1 (stv hA (by decide) (run_ld (hA.ev rfl) (run_loadS Try.isAgg22 (vec_at (hM.box (.s .z)) (by decide) (by decide)))) ?_)
  clear hA; intro a hA
  refine L1 (stv hA (by decide) (run_move (hA.ev rfl)) ?_)
  clear hA; intro a hA
  refine L1 (stv hA (by decide) (run_bin (hA.ev rfl) (hA.ev rfl) (bin_xor _ _ _ _)) ?_)
  clear hA; intro a hA
  refine L1 (stv hA (by decide) (run_idxarr Try.underlying83 Try.sizeOf22 (hA.ev rfl) (hA.ev rfl) (by decide) (by decide)) ?_)
  clear hA; intro a hA
  refine L1 (e_store (g := g17) (off := ((3 : Int).toNat * 1)) (cur := (pA4u64.enc v_0)) (cs' := (pA4u64.enc (vs v_0 (3 : Int) (ixor .u64 (vg v_0 (3 : Int)) m_1)))) hM (.s .z) Try.sizeOf22 hA rfl (by simp [add_mk]) rfl (by first | rfl | simp [Value.cells, Pl.len]) (one_val rfl) (by rw [Pl.len]; decide) (vec_spl _ _ (by decide) (by decide)) ?_)
  clear hM hA; intro w23 hM hE a hA
  refine LQ ?_
  refine TN ?_
  refine wp_seq ?_
  refine wp_region_lit ?_
  refine L1 (stv hA (by decide) (run_ld (hA.ev rfl) (run_loadP Try.isAgg83 Try.sizeOf83 (hM.box (.s .z)))) ?_)
  clear hA; intro a hA
  obtain ⟨r24, H25, H⟩ := Option.bind_eq_some_iff.1 H
  refine L1 (st_call Try.call43 hA [(.agg (pA4u64.enc (vs v_0 (3 : Int) (ixor .u64 (vg v_0 (3 : Int)) m_1))).toArray)] rfl (by decide) (ref04_round.calls _ _ _ _ _ (hM.front (Ms := [])) H25) ?_)
  clear hA; rintro _ w26 ⟨rfl, hMc⟩ a hA
  have hE := hMc.below; have hM := hM.call (Ms := []) hMc
  clear hMc; simp only [List.cons_append, List.nil_append] at hM
  obtain ⟨r27, H28, H⟩ := Option.bind_eq_some_iff.1 H
  refine L1 (st_call Try.call43 hA [(.agg (pA4u64.enc r24).toArray)] rfl (by decide) (ref04_round.calls _ _ _ _ _ (hM.front (Ms := [])) H28) ?_)
  clear hA; rintro _ w29 ⟨rfl, hMc⟩ a hA
  have hE := hMc.below; have hM := hM.call (Ms := []) hMc
  clear hMc; simp only [List.cons_append, List.nil_append] at hM
  refine L1 (e_store (g := g17) (off := 0) (cur := (pA4u64.enc (vs v_0 (3 : Int) (ixor .u64 (vg v_0 (3 : Int)) m_1)))) (cs' := (pA4u64.enc r27)) hM (.s .z) Try.sizeOf83 hA rfl (by simp [add_mk]) rfl (agg_size _ _) (agg_one _ _) (Nat.le_of_ble_eq_true (enc_fitL _ _ rfl)) (spl_all (by first | rfl | simp [Value.cells, Pl.len])) ?_)
  clear hM hA; intro w30 hM hE a hA
  refine LQ ?_
  refine TN ?_
  refine wp_seq ?_
  refine wp_region_lit ?_
  refine L1 (stv hA (by decide) (run_idxarr Try.underlying83 Try.sizeOf22 (hA.ev rfl) (hA.ev rfl) (by decide) (by decide)) ?_)
  clear hA; intro a hA
  refine L1 (stv hA (by decide) (run_ld (hA.ev rfl) (run_loadS Try.isAgg22 (vec_at (hM.box (.s .z)) (by decide) (by decide)))) ?_)
  clear hA; intro a hA
  refine L1 (stv hA (by decide) (run_move (hA.ev rfl)) ?_)
  clear hA; intro a hA
  refine L1 (stv hA (by decide) (run_bin (hA.ev rfl) (hA.ev rfl) (bin_xor _ _ _ _)) ?_)
  clear hA; intro a hA
  refine L1 (stv hA (by decide) (run_idxarr Try.underlying83 Try.sizeOf22 (hA.ev rfl) (hA.ev rfl) (by decide) (by decide)) ?_)
  clear hA; intro a hA
  refine L1 (e_store (g := g17) (off := ((0 : Int).toNat * 1)) (cur := (pA4u64.enc r27)) (cs' := (pA4u64.enc (vs r27 (0 : Int) (ixor .u64 (vg r27 (0 : Int)) m_1)))) hM (.s .z) Try.sizeOf22 hA rfl (by simp [add_mk]) rfl (by first | rfl | simp [Value.cells, Pl.len]) (one_val rfl) (by rw [Pl.len]; decide) (vec_spl _ _ (by decide) (by decide)) ?_)
  clear hM hA; intro w31 hM hE a hA
  refine LQ ?_
  refine TN ?_
  refine wp_seq ?_
  refine wp_region_lit ?_
  refine L1 (stv hA (by decide) (run_ld (hA.ev rfl) (run_loadP Try.isAgg83 Try.sizeOf83 (hM.box (.s .z)))) ?_)
  clear hA; intro a hA
  refine L1 (e_store (g := g20) (off := 0) (cur := (pA4u64.enc (Vector.replicate 4 0 : Vector Int 4))) (cs' := (pA4u64.enc (vs r27 (0 : Int) (ixor .u64 (vg r27 (0 : Int)) m_1)))) hM .z Try.sizeOf83 hA rfl (by simp [add_mk]) rfl (agg_size _ _) (agg_one _ _) (Nat.le_of_ble_eq_true (enc_fitL _ _ rfl)) (spl_all (by first | rfl | simp [Value.cells, Pl.len])) ?_)
  clear hM hA; intro w32 hM hE a hA
  refine LQ ?_
  refine TN ?_
  refine wp_ret ?_
  obtain rfl := Option.some.inj H
  exact ret_cell (fn := Try.f41) hA rfl rfl (run_loadP Try.isAgg83 Try.sizeOf83 (hM.box .z)) ⟨_, rfl, rfl, (hM.sel [] rfl (by decide))⟩

def ref04_word.l0 (b_0 : (List Int)) : Nat → Int → Int → Option (Int)
  | 0, _, _ => none
  | k + 1, t95, t98 => (if (decide (t98 < ((b_0.length : Nat) : Int))) = true then (if 0 ≤ t98 ∧ t98 < ((b_0.length : Nat) : Int) then (if 0 ≤ (IntKind.i64.wrap (8 * t98)) then (ref04_word.l0 b_0 k (ior .u64 t95 (ishl .u64 (IntKind.u64.wrap (b_0.getD t98.toNat (0 : Int))) (IntKind.i64.wrap (8 * t98)))) (IntKind.i64.wrap (t98 + 1))) else none) else none) else (some t95))
def ref04_word.f (k : Nat) (b_0 : (List Int)) : Option Int := (Option.bind (α := Int) (ref04_word.l0 b_0 k 0 0) (fun t100 => (some t100)))
set_option maxRecDepth 100000 in
theorem ref04_word.calls (k : Nat) (b_0 : (List Int)) (F : List (Option Nat)) (v0 : Value) (r : Int) (w0 : World) (h0 : RoV F (Pl.int .u8) w0 v0 b_0) (hM : Mem F w0 w0 []) (H : ref04_word.f k b_0 = some r) :
    Calls Try.prog 42 #[v0] w0 fun e w' => ∃ v, e = .returned v ∧ v = (.int .u64 r) ∧ Mem F w0 w' [] := by
  unfold ref04_word.f at H
  obtain ⟨A0, c0, rfl, hr0, hc0⟩ := h0
  refine enterL (n := 22) [(.slice A0 b_0.length c0)] Try.func42 rfl rfl rfl ?_
  intro a hA
  refine wp_seq ?_
  refine wp_region_lit ?_
  refine L1 (stv hA (by decide) (run_assign (hA.ev rfl)) ?_)
  clear hA; intro a hA
  refine LQ ?_
  refine TN ?_
  refine wp_seq ?_
  refine wp_region_lit ?_
  refine L1 (stv hA (by decide) (run_assign (hA.ev rfl)) ?_)
  clear hA; intro a hA
  refine LQ ?_
  refine TN ?_
  refine wp_seq ?_
  refine wp_seq ?_
  refine wp_region_lit ?_
  refine L1 (stv hA (by decide) (run_move (hA.ev rfl)) ?_)
  clear hA; intro a hA
  refine L1 (stv hA (by decide) (run_len_slice Try.underlying25 (hA.ev rfl)) ?_)
  clear hA; intro a hA
  refine L1 (stv hA (by decide) (run_move (hA.ev rfl)) ?_)
  clear hA; intro a hA
  refine LQ ?_
  refine TN ?_
  obtain ⟨o102, H101, H⟩ := Option.bind_eq_some_iff.1 H
  refine cutC (fun a w => ∃ (t100 : Int), t100 = o102 ∧ Mem F w0 w [] ∧ Has 22 [(3, (.int .u64 t100))] a) ?_ ?_
  · refine wp_block ?_
    refine wp_loop_ghost (fun m a w => ∃ (t95 : Int) (t98 : Int), ref04_word.l0 b_0 m t95 t98 = some o102 ∧ Mem F w0 w [] ∧ Has 22 [(0, (.slice A0 b_0.length c0)), (3, (.int .u64 t95)), (6, (.int .i64 ((b_0.length : Nat) : Int))), (7, (.int .i64 t98))] a) k ⟨0, 0, H101, hM, ((((hA.nil.cons (hA.get 7 _ rfl)).cons (hA.get 6 _ rfl)).cons (hA.get 3 _ rfl)).cons (hA.get 0 _ rfl))⟩ ?_
    clear hM hA; rintro m103 a w104 ⟨t95, t98, H101, hM, hA⟩
    cases m103 with
    | zero => exact absurd H101 (by simp [ref04_word.l0])
    | succ m103 =>
    rw [ref04_word.l0] at H101
    refine wp_seq ?_
    refine wp_region_lit ?_
    refine L1 (stv hA (by decide) (run_bin (hA.ev rfl) (hA.ev rfl) (bin_lss _ _ _ _)) ?_)
    clear hA; intro a hA
    refine LQ ?_
    refine TN ?_
    refine wp_seq ?_
    refine tcond (b := (decide (t98 < ((b_0.length : Nat) : Int)))) hA rfl (fun hb105 => ?_) (fun hb105 => ?_)
    · replace H101 := ite_t hb105 H101
      refine wp_skip ?_
      refine TN ?_
      refine wp_seq ?_
      refine wp_block ?_
      refine wp_seq ?_
      refine wp_region_lit ?_
      refine L1 (stv hA (by decide) (run_move (hA.ev rfl)) ?_)
      clear hA; intro a hA
      refine L1 (stv hA (by decide) (run_assign (hA.ev rfl)) ?_)
      clear hA; intro a hA
      refine LQ ?_
      refine TN ?_
      refine wp_region_lit ?_
      refine L1 (stv hA (by decide) (run_move (hA.ev rfl)) ?_)
      clear hA; intro a hA
      refine L1 (stv hA (by decide) (run_move (hA.ev rfl)) ?_)
      clear hA; intro a hA
      refine L1 (stv hA (by decide) (run_move (hA.ev rfl)) ?_)
      clear hA; intro a hA
      obtain ⟨⟨hi106, hj107⟩, H101⟩ := ite_some H101
      obtain ⟨ad108, hq109, hat110⟩ := Row.elem' (p := (Pl.int .u8)) (hM.ro hr0) (Eq.refl b_0.length) (0 : Int) t98 hi106 hj107
      refine L1 (stv hA (by decide) (run_idx Try.underlying25 Try.sizeOf5 (hA.ev rfl) hq109 (hA.ev rfl) hi106 hj107) ?_)
      clear hA; intro a hA
      refine L1 (stv hA (by decide) (run_ld (hA.ev rfl) (run_loadS Try.isAgg5 hat110)) ?_)
      clear hA; intro a hA
      refine L1 (stv hA (by decide) (run_conv Try.underlying5 Try.underlying22 (hA.ev rfl)) ?_)
      clear hA; intro a hA
      refine L1 (stv hA (by decide) (run_move (hA.ev rfl)) ?_)
      clear hA; intro a hA
      refine L1 (stv hA (by decide) (run_bin (hA.ev rfl) (hA.ev rfl) (bin_mul _ _ _ _)) ?_)
      clear hA; intro a hA
      obtain ⟨hs111, H101⟩ := ite_some H101
      refine L1 (stv hA (by decide) (run_shl (hA.ev rfl) (hA.ev rfl) hs111) ?_)
      clear hA; intro a hA
      refine L1 (stv hA (by decide) (run_bin (hA.ev rfl) (hA.ev rfl) (bin_or _ _ _ _)) ?_)
      clear hA; intro a hA
      refine L1 (stv hA (by decide) (run_assign (hA.ev rfl)) ?_)
      clear hA; intro a hA
      refine LQ ?_
      refine BN ?_
      refine TN ?_
      refine wp_region_lit ?_
      refine L1 (stv hA (by decide) (run_bin (hA.ev rfl) (hA.ev rfl) (bin_add _ _ _ _)) ?_)
      clear hA; intro a hA
      refine L1 (stv hA (by decide) (run_move (hA.ev rfl)) ?_)
      clear hA; intro a hA
      refine LQ ?_
      exact ⟨_, Nat.lt_succ_self m103, ior .u64 t95 (ishl .u64 (IntKind.u64.wrap (b_0.getD t98.toNat (0 : Int))) (IntKind.i64.wrap (8 * t98))), IntKind.i64.wrap (t98 + 1), H101, hM, ((((hA.nil.cons (hA.get 7 _ rfl)).cons (hA.get 6 _ rfl)).cons (hA.get 3 _ rfl)).cons (hA.get 0 _ rfl))⟩
    · replace H101 := ite_f hb105 H101
      refine wp_exit ?_
      refine TX ?_
      refine TX ?_
      refine BX ?_
      exact ⟨t95, Option.some.inj H101, hM, (hA.nil.cons (hA.get 3 _ rfl))⟩
  clear hM hA
  rintro a w112 ⟨t100, rfl, hM, hA⟩
  try dsimp only at H
  refine TN ?_
  refine wp_seq ?_
  refine wp_region_lit ?_
  refine L1 (stv hA (by decide) (run_move (hA.ev rfl)) ?_)
  clear hA; intro a hA
  refine L1 (stv hA (by decide) (run_assign (hA.ev rfl)) ?_)
  clear hA; intro a hA
  refine LQ ?_
  refine TN ?_
  refine wp_ret ?_
  obtain rfl := Option.some.inj H
  exact ret_post1 (fn := Try.f42) hA rfl rfl ⟨_, rfl, rfl, hM⟩

def ref04_Sum.l0  : Nat → (List Int) → (Vector Int 4) → Option ((List Int) × (Vector Int 4))
  | 0, _, _ => none
  | k + 1, b214, x222 => (if (decide (((b214.length : Nat) : Int) ≥ 8)) = true then (if 0 ≤ (8 : Int) ∧ (8 : Int) ≤ ((b214.length : Nat) : Int) then (if 0 ≤ (8 : Int) ∧ (8 : Int) ≤ ((b214.length : Nat) : Int) then ((ref04_word.f k (b214.take ((8 : Int).toNat))).bind fun r246 => ((ref04_absorb.f k x222 r246).bind fun r249 => (ref04_Sum.l0  k (b214.drop ((8 : Int).toNat)) r249))) else none) else none) else (some (b214, x222)))
def ref04_Sum.f (k : Nat) (k_0 : (Vector Int 2)) (b_1 : (List Int)) : Option Int := (Option.bind (α := (List Int) × (Vector Int 4)) (ref04_Sum.l0 k b_1 ((((((Vector.replicate 4 0 : Vector Int 4).setIfInBounds 0 (ixor .u64 (vg k_0 (0 : Int)) 8317987319222330741)).setIfInBounds 1 (ixor .u64 (vg k_0 (1 : Int)) 7237128888997146477)).setIfInBounds 2 (ixor .u64 (vg k_0 (0 : Int)) 7816392313619706465)).setIfInBounds 3 (ixor .u64 (vg k_0 (1 : Int)) 8387220255154660723)))) (fun st => match st with | (b225, x233) => ((ref04_word.f k b225).bind fun r256 => ((ref04_absorb.f k x233 (ior .u64 r256 (ishl .u64 (IntKind.u64.wrap (((b_1.length : Nat) : Int).tmod 256)) 56))).bind fun r259 => ((ref04_round.f k (vs r259 (2 : Int) (ixor .u64 (vg r259 (2 : Int)) 255))).bind fun r264 => ((ref04_round.f k r264).bind fun r267 => ((ref04_round.f k r267).bind fun r270 => ((ref04_round.f k r270).bind fun r273 => (some (ixor .u64 (ixor .u64 (ixor .u64 (vg r273 (0 : Int)) (vg r273 (1 : Int))) (vg r273 (2 : Int))) (vg r273 (3 : Int))))))))))))
set_option maxRecDepth 100000 in
theorem ref04_Sum.calls (k : Nat) (k_0 : (Vector Int 2)) (b_1 : (List Int)) (F : List (Option Nat)) (v1 : Value) (r : Int) (w0 : World) (h1 : RoV F (Pl.int .u8) w0 v1 b_1) (hM : Mem F w0 w0 []) (H : ref04_Sum.f k k_0 b_1 = some r) :
    Calls Try.prog 14 #[(.agg (pSipKey.enc k_0).toArray), v1] w0 fun e w' => ∃ v, e = .returned v ∧ v = (.int .u64 r) ∧ Mem F w0 w' [] := by
  unfold ref04_Sum.f at H
  obtain ⟨A1, c1, rfl, hr1, hc1⟩ := h1
  refine enterL (n := 61) [(.agg (pSipKey.enc k_0).toArray), (.slice A1 b_1.length c1)] Try.func14 rfl rfl rfl ?_
  intro a hA
  refine wp_seq ?_
  refine wp_region_lit ?_
  refine L1 (e_box (cs := (pSipKey.enc k_0)) hM hA rfl rfl (by decide) ?_)
  clear hM hA; intro w140 g139 hM hE a hA
  refine L1 (stv hA (by decide) (run_assign (hA.ev rfl)) ?_)
  clear hA; intro a hA
  refine LQ ?_
  refine TN ?_
  refine wp_seq ?_
  refine wp_region_lit ?_
  refine L1 (stv hA (by decide) (run_idxarr Try.underlying24 Try.sizeOf22 (hA.ev rfl) (hA.ev rfl) (by decide) (by decide)) ?_)
  clear hA; intro a hA
  refine L1 (stv hA (by decide) (run_ld (hA.ev rfl) (run_loadS Try.isAgg22 (vec_at (hM.box .z) (by decide) (by decide)))) ?_)
  clear hA; intro a hA
  refine L1 (stv hA (by decide) (run_bin (hA.ev rfl) (hA.ev rfl) (bin_xor _ _ _ _)) ?_)
  clear hA; intro a hA
  refine L1 (stv hA (by decide) (run_idxarr Try.underlying24 Try.sizeOf22 (hA.ev rfl) (hA.ev rfl) (by decide) (by decide)) ?_)
  clear hA; intro a hA
  refine L1 (stv hA (by decide) (run_ld (hA.ev rfl) (run_loadS Try.isAgg22 (vec_at (hM.box .z) (by decide) (by decide)))) ?_)
  clear hA; intro a hA
  refine L1 (stv hA (by decide) (run_bin (hA.ev rfl) (hA.ev rfl) (bin_xor _ _ _ _)) ?_)
  clear hA; intro a hA
  refine L1 (stv hA (by decide) (run_idxarr Try.underlying24 Try.sizeOf22 (hA.ev rfl) (hA.ev rfl) (by decide) (by decide)) ?_)
  clear hA; intro a hA
  refine L1 (stv hA (by decide) (run_ld (hA.ev rfl) (run_loadS Try.isAgg22 (vec_at (hM.box .z) (by decide) (by decide)))) ?_)
  clear hA; intro a hA
  refine L1 (stv hA (by decide) (run_bin (hA.ev rfl) (hA.ev rfl) (bin_xor _ _ _ _)) ?_)
  clear hA; intro a hA
  refine L1 (stv hA (by decide) (run_idxarr Try.underlying24 Try.sizeOf22 (hA.ev rfl) (hA.ev rfl) (by decide) (by decide)) ?_)
  clear hA; intro a hA
  refine L1 (stv hA (by decide) (run_ld (hA.ev rfl) (run_loadS Try.isAgg22 (vec_at (hM.box .z) (by decide) (by decide)))) ?_)
  clear hA; intro a hA
  refine L1 (stv hA (by decide) (run_bin (hA.ev rfl) (hA.ev rfl) (bin_xor _ _ _ _)) ?_)
  clear hA; intro a hA
  refine L1 (stv hA (by decide) (run_build_arr [(0, (.int .u64 (ixor .u64 (vg k_0 (0 : Int)) 8317987319222330741))), (1, (.int .u64 (ixor .u64 (vg k_0 (1 : Int)) 7237128888997146477))), (2, (.int .u64 (ixor .u64 (vg k_0 (0 : Int)) 7816392313619706465))), (3, (.int .u64 (ixor .u64 (vg k_0 (1 : Int)) 8387220255154660723)))] zero83 Try.underlying83 Try.sizeOf22 hA rfl (fill_step rfl rfl (enc_fit _ _ rfl) (arr_eq (vec_spl' _ _ _ (by decide))) (fill_step rfl rfl (enc_fit _ _ rfl) (arr_eq (vec_spl' _ _ _ (by decide))) (fill_step rfl rfl (enc_fit _ _ rfl) (arr_eq (vec_spl' _ _ _ (by decide))) (fill_step rfl rfl (enc_fit _ _ rfl) (arr_eq (vec_spl' _ _ _ (by decide))) (fill_nil)))))) ?_)
  clear hA; intro a hA
  refine L1 (e_alloc (cs := (pA4u64.enc (Vector.replicate 4 0 : Vector Int 4))) hM zero83 rfl hA (by decide) ?_)
  clear hM hA; intro w143 g142 hM hE a hA
  refine L1 (e_store (g := g142) (off := 0) (cur := (pA4u64.enc (Vector.replicate 4 0 : Vector Int 4))) (cs' := (pA4u64.enc ((((((Vector.replicate 4 0 : Vector Int 4).setIfInBounds 0 (ixor .u64 (vg k_0 (0 : Int)) 8317987319222330741)).setIfInBounds 1 (ixor .u64 (vg k_0 (1 : Int)) 7237128888997146477)).setIfInBounds 2 (ixor .u64 (vg k_0 (0 : Int)) 7816392313619706465)).setIfInBounds 3 (ixor .u64 (vg k_0 (1 : Int)) 8387220255154660723))))) hM .z Try.sizeOf83 hA rfl (by simp [add_mk]) rfl (agg_size _ _) (agg_one _ _) (Nat.le_of_ble_eq_true (enc_fitL _ _ rfl)) (spl_all (by first | rfl | simp [Value.cells, Pl.len])) ?_)
  clear hM hA; intro w145 hM hE a hA
  refine LQ ?_
  refine TN ?_
  refine wp_seq ?_
  refine wp_region_lit ?_
  refine L1 (stv hA (by decide) (run_move (hA.ev rfl)) ?_)
  clear hA; intro a hA
  refine L1 (stv hA (by decide) (run_len_slice Try.underlying25 (hA.ev rfl)) ?_)
  clear hA; intro a hA
  refine L1 (stv hA (by decide) (run_assign (hA.ev rfl)) ?_)
  clear hA; intro a hA
  refine LQ ?_
  refine TN ?_
  refine wp_seq ?_
  obtain ⟨o236, H235, H⟩ := Option.bind_eq_some_iff.1 H
  refine cutC (fun a w => ∃ (b225 : (List Int)) (x233 : (Vector Int 4)) (v226 : Value), (b225, x233) = o236 ∧ (RoV F (Pl.int .u8) w0 v226 b225) ∧ Mem F w0 w [.box g142 83 (pA4u64.enc x233)] ∧ Has 61 [(1, v226), (5, (.pointer (some (⟨g142, 0, none⟩)))), (6, (.int .i64 ((b_1.length : Nat) : Int)))] a) ?_ ?_
  · refine wp_block ?_
    refine wp_loop_ghost (fun m a w => ∃ (b214 : (List Int)) (x222 : (Vector Int 4)) (v215 : Value), ref04_Sum.l0 m b214 x222 = some o236 ∧ (RoV F (Pl.int .u8) w0 v215 b214) ∧ Mem F w0 w [.box g142 83 (pA4u64.enc x222)] ∧ Has 61 [(1, v215), (5, (.pointer (some (⟨g142, 0, none⟩)))), (6, (.int .i64 ((b_1.length : Nat) : Int)))] a) k ⟨b_1, ((((((Vector.replicate 4 0 : Vector Int 4).setIfInBounds 0 (ixor .u64 (vg k_0 (0 : Int)) 8317987319222330741)).setIfInBounds 1 (ixor .u64 (vg k_0 (1 : Int)) 7237128888997146477)).setIfInBounds 2 (ixor .u64 (vg k_0 (0 : Int)) 7816392313619706465)).setIfInBounds 3 (ixor .u64 (vg k_0 (1 : Int)) 8387220255154660723))), (.slice A1 b_1.length c1), H235, (RoV.mk hr1 (Eq.refl b_1.length) hc1), (hM.sel [0] rfl (by decide)), (((hA.nil.cons (hA.get 6 _ rfl)).cons (hA.get 5 _ rfl)).cons (hA.get 1 _ rfl))⟩ ?_
    clear hM hA; rintro m237 a w238 ⟨b214, x222, v215, H235, h220, hM, hA⟩
    cases m237 with
    | zero => exact absurd H235 (by simp [ref04_Sum.l0])
    | succ m237 =>
    rw [ref04_Sum.l0] at H235
    obtain ⟨A216, c217, rfl, hr218, hc219⟩ := h220
    refine wp_seq ?_
    refine wp_seq ?_
    refine wp_region_lit ?_
    refine L1 (stv hA (by decide) (run_move (hA.ev rfl)) ?_)
    clear hA; intro a hA
    refine L1 (stv hA (by decide) (run_len_slice Try.underlying25 (hA.ev rfl)) ?_)
    clear hA; intro a hA
    refine L1 (stv hA (by decide) (run_bin (hA.ev rfl) (hA.ev rfl) (bin_geq _ _ _ _)) ?_)
    clear hA; intro a hA
    refine LQ ?_
    refine TN ?_
    refine tcond (b := (decide (((b214.length : Nat) : Int) ≥ 8))) hA rfl (fun hb239 => ?_) (fun hb239 => ?_)
    · replace H235 := ite_t hb239 H235
      refine wp_skip ?_
      refine TN ?_
      refine wp_block ?_
      refine draw (fun w' => Below w238.heap.size w238 w') [7] rfl ?_
      intro w240 hw hS; replace hM := hM.ext hS; clear hw
      refine rebase hS ?_; clear hS; intro hS
      refine d_take (i := 0) (L' := #[true, false, false, false, false, false, false, false, false]) rfl (by kernel_rfl) rfl (fun _ _ _ h => h) hA (by decide) rfl hS (fun a w' hA hS' => run_ld (hA.ev rfl) (run_loadP Try.isAgg83 Try.sizeOf83 ((hM.box .z).extB hS'))) ?_; clear hA; intro a hA
      refine d_takef (i := 1) (L' := #[true, true, false, false, false, false, false, false, false]) rfl (by kernel_rfl) rfl (fun _ _ _ h => h) hA (by decide) (fun _ => hS) (fun a w' hA => run_move (hA.ev rfl)) ?_; clear hA; intro a hA
      obtain ⟨⟨hi242, hj243⟩, H235⟩ := ite_some H235
      refine d_takef (i := 2) (L' := #[true, true, true, false, false, false, false, false, false]) rfl (by kernel_rfl) rfl (fun _ _ _ h => h) hA (by decide) (fun _ => hS) (fun a w' hA => run_hi Try.underlying25 Try.sizeOf5 hc219 hi242 hj243 (hA.ev rfl) (hA.ev rfl)) ?_; clear hA; intro a hA
      refine d_takef (i := 5) (L' := #[true, true, true, false, false, true, false, false, false]) rfl (by kernel_rfl) rfl (fun _ _ _ h => h) hA (by decide) (fun _ => hS) (fun a w' hA => run_move (hA.ev rfl)) ?_; clear hA; intro a hA
      obtain ⟨⟨hi244, hj245⟩, H235⟩ := ite_some H235
      refine d_takef (i := 6) (L' := #[true, true, true, false, false, true, true, false, false]) rfl (by kernel_rfl) rfl (fun _ _ _ h => h) hA (by decide) (fun _ => hS) (fun a w' hA => run_lo Try.underlying25 Try.sizeOf5 hc219 hi244 hj245 (hA.ev rfl) (hA.ev rfl)) ?_; clear hA; intro a hA
      obtain ⟨r246, H247, H235⟩ := Option.bind_eq_some_iff.1 H235
      refine d_one (i := 3) (L' := #[true, true, true, true, false, true, true, false, false]) (by kernel_rfl) rfl rfl (st_call Try.call42 hA [(.slice A216 ((8 : Int).toNat) c217)] rfl (by decide) (ref04_word.calls _ _ _ _ _ _ ((RoV.mk (Ro.take (hM.roC (Ms := []) hr218) ((8 : Int).toNat)) (len_take (Eq.refl b214.length) (by omega)) (by have hh1 := hc219; omega))) (hM.front (Ms := [])) H247) ?_)
      clear hA; rintro _ w248 ⟨rfl, hMc⟩ a hA
      have hE := hMc.below; have hM := hM.call (Ms := []) hMc
      clear hMc; simp only [List.cons_append, List.nil_append] at hM
      replace hS := hS.trans (hE.mono hS.size)
      refine ⟨fun _ => hS, ?_⟩
      obtain ⟨r249, H250, H235⟩ := Option.bind_eq_some_iff.1 H235
      refine d_one (i := 4) (L' := #[true, true, true, true, true, true, true, false, false]) (by kernel_rfl) rfl rfl (st_call Try.call41 hA [(.agg (pA4u64.enc x222).toArray), (.int .u64 r246)] rfl (by decide) (ref04_absorb.calls _ _ _ _ _ _ (hM.front (Ms := [])) H250) ?_)
      clear hA; rintro _ w251 ⟨rfl, hMc⟩ a hA
      have hE := hMc.below; have hM := hM.call (Ms := []) hMc
      clear hMc; simp only [List.cons_append, List.nil_append] at hM
      replace hS := hS.trans (hE.mono hS.size)
      refine ⟨fun _ => hS, ?_⟩
      refine d_one (i := 7) (L' := #[true, true, true, true, true, true, true, true, false]) (by kernel_rfl) rfl rfl (e_store (g := g142) (off := 0) (cur := (pA4u64.enc x222)) (cs' := (pA4u64.enc r249)) hM .z Try.sizeOf83 hA rfl (by simp [add_mk]) rfl (agg_size _ _) (agg_one _ _) (Nat.le_of_ble_eq_true (enc_fitL _ _ rfl)) (spl_all (by first | rfl | simp [Value.cells, Pl.len])) ?_)
      clear hM hA; intro w252 hM hE a hA
      refine ⟨fun h => absurd h (by decide), ?_⟩
      refine d_takef (i := 8) (L' := #[true, true, true, true, true, true, true, true, true]) rfl (by kernel_rfl) rfl (fun _ _ _ h => h) hA (by decide) (fun h => absurd h (by decide)) (fun a w' hA => run_assign (hA.ev rfl)) ?_; clear hA; intro a hA
      refine d_done (by kernel_rfl) ?_
      refine BN ?_
      exact ⟨_, Nat.lt_succ_self m237, (b214.drop ((8 : Int).toNat)), r249, (.slice (adrop A216 c217 ((8 : Int).toNat) 1) (b214.length - (8 : Int).toNat) (c217 - (8 : Int).toNat)), H235, (RoV.mk (Ro.drop (c := c217) hr218 (by have hh1 := (Eq.refl b214.length); omega) (by have hh1 := (Eq.refl b214.length); have hh2 := hc219; omega)) (len_drop (Eq.refl b214.length)) (by have hh1 := hc219; omega)), hM, (((hA.nil.cons (hA.get 6 _ rfl)).cons (hA.get 5 _ rfl)).cons (hA.get 1 _ rfl))⟩
    · replace H235 := ite_f hb239 H235
      refine wp_exit ?_
      refine TX ?_
      refine TX ?_
      refine BX ?_
      exact ⟨b214, x222, (.slice A216 b214.length c217), Option.some.inj H235, (RoV.mk hr218 (Eq.refl b214.length) hc219), hM, (((hA.nil.cons (hA.get 6 _ rfl)).cons (hA.get 5 _ rfl)).cons (hA.get 1 _ rfl))⟩
  clear hM hA
  rintro a w253 ⟨b225, x233, v226, rfl, h231, hM, hA⟩
  try dsimp only at H
  obtain ⟨A227, c228, rfl, hr229, hc230⟩ := h231
  refine TN ?_
  refine wp_seq ?_
  refine draw (fun w' => Below w253.heap.size w253 w') [9] rfl ?_
  intro w254 hw hS; replace hM := hM.ext hS; clear hw
  refine rebase hS ?_; clear hS; intro hS
  refine d_take (i := 0) (L' := #[true, false, false, false, false, false, false, false, false, false]) rfl (by kernel_rfl) rfl (fun _ _ _ h => h) hA (by decide) rfl hS (fun a w' hA hS' => run_ld (hA.ev rfl) (run_loadP Try.isAgg83 Try.sizeOf83 ((hM.box .z).extB hS'))) ?_; clear hA; intro a hA
  refine d_takef (i := 1) (L' := #[true, true, false, false, false, false, false, false, false, false]) rfl (by kernel_rfl) rfl (fun _ _ _ h => h) hA (by decide) (fun _ => hS) (fun a w' hA => run_move (hA.ev rfl)) ?_; clear hA; intro a hA
  refine d_takef (i := 3) (L' := #[true, true, false, true, false, false, false, false, false, false]) rfl (by kernel_rfl) rfl (fun _ _ _ h => h) hA (by decide) (fun _ => hS) (fun a w' hA => run_move (hA.ev rfl)) ?_; clear hA; intro a hA
  refine d_takef (i := 4) (L' := #[true, true, false, true, true, false, false, false, false, false]) rfl (by kernel_rfl) rfl (fun _ _ _ h => h) hA (by decide) (fun _ => hS) (fun a w' hA => run_bin (hA.ev rfl) (hA.ev rfl) (bin_rem _ _ _ _ (by decide))) ?_; clear hA; intro a hA
  refine d_takef (i := 5) (L' := #[true, true, false, true, true, true, false, false, false, false]) rfl (by kernel_rfl) rfl (fun _ _ _ h => h) hA (by decide) (fun _ => hS) (fun a w' hA => run_conv Try.underlying3 Try.underlying22 (hA.ev rfl)) ?_; clear hA; intro a hA
  refine d_takef (i := 6) (L' := #[true, true, false, true, true, true, true, false, false, false]) rfl (by kernel_rfl) rfl (fun _ _ _ h => h) hA (by decide) (fun _ => hS) (fun a w' hA => run_shl (hA.ev rfl) (hA.ev rfl) (by decide)) ?_; clear hA; intro a hA
  obtain ⟨r256, H257, H⟩ := Option.bind_eq_some_iff.1 H
  refine d_one (i := 2) (L' := #[true, true, true, true, true, true, true, false, false, false]) (by kernel_rfl) rfl rfl (st_call Try.call42 hA [(.slice A227 b225.length c228)] rfl (by decide) (ref04_word.calls _ _ _ _ _ _ ((RoV.mk (hM.roC (Ms := []) hr229) (Eq.refl b225.length) hc230)) (hM.front (Ms := [])) H257) ?_)
  clear hA; rintro _ w258 ⟨rfl, hMc⟩ a hA
  have hE := hMc.below; have hM := hM.call (Ms := []) hMc
  clear hMc; simp only [List.cons_append, List.nil_append] at hM
  replace hS := hS.trans (hE.mono hS.size)
  refine ⟨fun _ => hS, ?_⟩
  refine d_takef (i := 7) (L' := #[true, true, true, true, true, true, true, true, false, false]) rfl (by kernel_rfl) rfl (fun _ _ _ h => h) hA (by decide) (fun _ => hS) (fun a w' hA => run_bin (hA.ev rfl) (hA.ev rfl) (bin_or _ _ _ _)) ?_; clear hA; intro a hA
  obtain ⟨r259, H260, H⟩ := Option.bind_eq_some_iff.1 H
  refine d_one (i := 8) (L' := #[true, true, true, true, true, true, true, true, true, false]) (by kernel_rfl) rfl rfl (st_call Try.call41 hA [(.agg (pA4u64.enc x233).toArray), (.int .u64 (ior .u64 r256 (ishl .u64 (IntKind.u64.wrap (((b_1.length : Nat) : Int).tmod 256)) 56)))] rfl (by decide) (ref04_absorb.calls _ _ _ _ _ _ (hM.front (Ms := [])) H260) ?_)
  clear hA; rintro _ w261 ⟨rfl, hMc⟩ a hA
  have hE := hMc.below; have hM := hM.call (Ms := []) hMc
  clear hMc; simp only [List.cons_append, List.nil_append] at hM
  replace hS := hS.trans (hE.mono hS.size)
  refine ⟨fun _ => hS, ?_⟩
  refine d_one (i := 9) (L' := #[true, true, true, true, true, true, true, true, true, true]) (by kernel_rfl) rfl rfl (e_store (g := g142) (off := 0) (cur := (pA4u64.enc x233)) (cs' := (pA4u64.enc r259)) hM .z Try.sizeOf83 hA rfl (by simp [add_mk]) rfl (agg_size _ _) (agg_one _ _) (Nat.le_of_ble_eq_true (enc_fitL _ _ rfl)) (spl_all (by first | rfl | simp [Value.cells, Pl.len])) ?_)
  clear hM hA; intro w262 hM hE a hA
  refine ⟨fun h => absurd h (by decide), ?_⟩
  refine d_done (by kernel_rfl) ?_
  refine TN ?_
  refine wp_seq ?_
  refine wp_region_lit ?_
  refine L1 (stv hA (by decide) (run_idxarr Try.underlying83 Try.sizeOf22 (hA.ev rfl) (hA.ev rfl) (by decide) (by decide)) ?_)
  clear hA; intro a hA
  refine L1 (stv hA (by decide) (run_ld (hA.ev rfl) (run_loadS Try.isAgg22 (vec_at (hM.box .z) (by decide) (by decide)))) ?_)
  clear hA; intro a hA
  refine L1 (stv hA (by decide) (run_bin (hA.ev rfl) (hA.ev rfl) (bin_xor _ _ _ _)) ?_)
  clear hA; intro a hA
  refine L1 (stv hA (by decide) (run_idxarr Try.underlying83 Try.sizeOf22 (hA.ev rfl) (hA.ev rfl) (by decide) (by decide)) ?_)
  clear hA; intro a hA
  refine L1 (e_store (g := g142) (off := ((2 : Int).toNat * 1)) (cur := (pA4u64.enc r259)) (cs' := (pA4u64.enc (vs r259 (2 : Int) (ixor .u64 (vg r259 (2 : Int)) 255)))) hM .z Try.sizeOf22 hA rfl (by simp [add_mk]) rfl (by first | rfl | simp [Value.cells, Pl.len]) (one_val rfl) (by rw [Pl.len]; decide) (vec_spl _ _ (by decide) (by decide)) ?_)
  clear hM hA; intro w263 hM hE a hA
  refine LQ ?_
  refine TN ?_
  refine wp_seq ?_
  refine wp_region_lit ?_
  refine L1 (stv hA (by decide) (run_ld (hA.ev rfl) (run_loadP Try.isAgg83 Try.sizeOf83 (hM.box .z))) ?_)
  clear hA; intro a hA
  obtain ⟨r264, H265, H⟩ := Option.bind_eq_some_iff.1 H
  refine L1 (st_call Try.call43 hA [(.agg (pA4u64.enc (vs r259 (2 : Int) (ixor .u64 (vg r259 (2 : Int)) 255))).toArray)] rfl (by decide) (ref04_round.calls _ _ _ _ _ (hM.front (Ms := [])) H265) ?_)
  clear hA; rintro _ w266 ⟨rfl, hMc⟩ a hA
  have hE := hMc.below; have hM := hM.call (Ms := []) hMc
  clear hMc; simp only [List.cons_append, List.nil_append] at hM
  obtain ⟨r267, H268, H⟩ := Option.bind_eq_some_iff.1 H
  refine L1 (st_call Try.call43 hA [(.agg (pA4u64.enc r264).toArray)] rfl (by decide) (ref04_round.calls _ _ _ _ _ (hM.front (Ms := [])) H268) ?_)
  clear hA; rintro _ w269 ⟨rfl, hMc⟩ a hA
  have hE := hMc.below; have hM := hM.call (Ms := []) hMc
  clear hMc; simp only [List.cons_append, List.nil_append] at hM
  obtain ⟨r270, H271, H⟩ := Option.bind_eq_some_iff.1 H
  refine L1 (st_call Try.call43 hA [(.agg (pA4u64.enc r267).toArray)] rfl (by decide) (ref04_round.calls _ _ _ _ _ (hM.front (Ms := [])) H271) ?_)
  clear hA; rintro _ w272 ⟨rfl, hMc⟩ a hA
  have hE := hMc.below; have hM := hM.call (Ms := []) hMc
  clear hMc; simp only [List.cons_append, List.nil_append] at hM
  obtain ⟨r273, H274, H⟩ := Option.bind_eq_some_iff.1 H
  refine L1 (st_call Try.call43 hA [(.agg (pA4u64.enc r270).toArray)] rfl (by decide) (ref04_round.calls _ _ _ _ _ (hM.front (Ms := [])) H274) ?_)
  clear hA; rintro _ w275 ⟨rfl, hMc⟩ a hA
  have hE := hMc.below; have hM := hM.call (Ms := []) hMc
  clear hMc; simp only [List.cons_append, List.nil_append] at hM
  refine L1 (e_store (g := g142) (off := 0) (cur := (pA4u64.enc (vs r259 (2 : Int) (ixor .u64 (vg r259 (2 : Int)) 255)))) (cs' := (pA4u64.enc r273)) hM .z Try.sizeOf83 hA rfl (by simp [add_mk]) rfl (agg_size _ _) (agg_one _ _) (Nat.le_of_ble_eq_true (enc_fitL _ _ rfl)) (spl_all (by first | rfl | simp [Value.cells, Pl.len])) ?_)
  clear hM hA; intro w276 hM hE a hA
  refine LQ ?_
  refine TN ?_
  refine wp_seq ?_
  refine wp_region_lit ?_
  refine L1 (stv hA (by decide) (run_idxarr Try.underlying83 Try.sizeOf22 (hA.ev rfl) (hA.ev rfl) (by decide) (by decide)) ?_)
  clear hA; intro a hA
  refine L1 (stv hA (by decide) (run_ld (hA.ev rfl) (run_loadS Try.isAgg22 (vec_at (hM.box .z) (by decide) (by decide)))) ?_)
  clear hA; intro a hA
  refine L1 (stv hA (by decide) (run_idxarr Try.underlying83 Try.sizeOf22 (hA.ev rfl) (hA.ev rfl) (by decide) (by decide)) ?_)
  clear hA; intro a hA
  refine L1 (stv hA (by decide) (run_ld (hA.ev rfl) (run_loadS Try.isAgg22 (vec_at (hM.box .z) (by decide) (by decide)))) ?_)
  clear hA; intro a hA
  refine L1 (stv hA (by decide) (run_bin (hA.ev rfl) (hA.ev rfl) (bin_xor _ _ _ _)) ?_)
  clear hA; intro a hA
  refine L1 (stv hA (by decide) (run_idxarr Try.underlying83 Try.sizeOf22 (hA.ev rfl) (hA.ev rfl) (by decide) (by decide)) ?_)
  clear hA; intro a hA
  refine L1 (stv hA (by decide) (run_ld (hA.ev rfl) (run_loadS Try.isAgg22 (vec_at (hM.box .z) (by decide) (by decide)))) ?_)
  clear hA; intro a hA
  refine L1 (stv hA (by decide) (run_bin (hA.ev rfl) (hA.ev rfl) (bin_xor _ _ _ _)) ?_)
  clear hA; intro a hA
  refine L1 (stv hA (by decide) (run_idxarr Try.underlying83 Try.sizeOf22 (hA.ev rfl) (hA.ev rfl) (by decide) (by decide)) ?_)
  clear hA; intro a hA
  refine L1 (stv hA (by decide) (run_ld (hA.ev rfl) (run_loadS Try.isAgg22 (vec_at (hM.box .z) (by decide) (by decide)))) ?_)
  clear hA; intro a hA
  refine L1 (stv hA (by decide) (run_bin (hA.ev rfl) (hA.ev rfl) (bin_xor _ _ _ _)) ?_)
  clear hA; intro a hA
  refine L1 (stv hA (by decide) (run_assign (hA.ev rfl)) ?_)
  clear hA; intro a hA
  refine LQ ?_
  refine TN ?_
  refine wp_ret ?_
  obtain rfl := Option.some.inj H
  exact ret_post1 (fn := Try.f14) hA rfl rfl ⟨_, rfl, rfl, (hM.sel [] rfl (by decide))⟩

def law04_SipLengths.f (k : Nat) (k_0 : (Vector Int 2)) (b_1 : (List Int)) (zeros_2 : Int) : Option Bool := ((law04_sane.f k ).bind fun r57 => (if (!r57) = true then (some false) else (if (decide (((b_1.length : Nat) : Int) > 500)) = true then (some true) else (if b_1.length * 1 ≤ 140737488355328 then (if 0 ≤ (IntKind.i64.wrap (zeros_2.tmod 20)) ∧ (b_1.length + (IntKind.i64.wrap (zeros_2.tmod 20)).toNat) * 1 ≤ 140737488355328 then (Option.bind (α := Bool) ((sip_Sum.f k k_0 (b_1 ++ List.replicate (IntKind.i64.wrap (zeros_2.tmod 20)).toNat (0 : Int))).bind fun r93 => ((ref04_Sum.f k k_0 (b_1 ++ List.replicate (IntKind.i64.wrap (zeros_2.tmod 20)).toNat (0 : Int))).bind fun r96 => (if (r93 == r96) = true then ((sip_Sum.f k k_0 b_1).bind fun r100 => ((ref04_Sum.f k k_0 b_1).bind fun r103 => (some (r100 == r103)))) else (some false)))) (fun t88 => (some t88))) else none) else none))))
set_option maxRecDepth 100000 in
theorem law04_SipLengths.calls (k : Nat) (k_0 : (Vector Int 2)) (b_1 : (List Int)) (zeros_2 : Int) (F : List (Option Nat)) (v1 : Value) (r : Bool) (w0 : World) (h1 : RoV F (Pl.int .u8) w0 v1 b_1) (hM : Mem F w0 w0 []) (H : law04_SipLengths.f k k_0 b_1 zeros_2 = some r) :
    Calls Try.prog 4 #[(.agg (pSipKey.enc k_0).toArray), v1, (.int .u8 zeros_2)] w0 fun e w' => ∃ v, e = .returned v ∧ v = (.bool r) ∧ Mem F w0 w' [] := by
  unfold law04_SipLengths.f at H
  obtain ⟨A1, c1, rfl, hr1, hc1⟩ := h1
  refine enterL (n := 35) [(.agg (pSipKey.enc k_0).toArray), (.slice A1 b_1.length c1), (.int .u8 zeros_2)] Try.func4 rfl rfl rfl ?_
  intro a hA
  refine wp_seq ?_
  refine wp_region_lit ?_
  refine L1 (e_box (cs := (pSipKey.enc k_0)) hM hA rfl rfl (by decide) ?_)
  clear hM hA; intro w55 g54 hM hE a hA
  refine L1 (stv hA (by decide) (run_assign (hA.ev rfl)) ?_)
  clear hA; intro a hA
  refine LQ ?_
  refine TN ?_
  refine wp_seq ?_
  refine wp_seq ?_
  refine wp_region_lit ?_
  obtain ⟨r57, H58, H⟩ := Option.bind_eq_some_iff.1 H
  refine L1 (st_call Try.call12 hA [] rfl (by decide) (law04_sane.calls _ _ _ _ (hM.front (Ms := [])) H58) ?_)
  clear hA; rintro _ w59 ⟨rfl, hMc⟩ a hA
  have hE := hMc.below; have hM := hM.call (Ms := []) hMc
  clear hMc; simp only [List.cons_append, List.nil_append] at hM
  refine L1 (stv hA (by decide) (run_not (hA.ev rfl)) ?_)
  clear hA; intro a hA
  refine LQ ?_
  refine TN ?_
  refine tcond (b := (!r57)) hA rfl (fun hb60 => ?_) (fun hb60 => ?_)
  · replace H := ite_t hb60 H
    refine wp_seq ?_
    refine wp_region_lit ?_
    refine L1 (stv hA (by decide) (run_assign (hA.ev rfl)) ?_)
    clear hA; intro a hA
    refine LQ ?_
    refine TN ?_
    refine wp_ret ?_
    obtain rfl := Option.some.inj H
    refine TR ?_
    exact ret_post1 (fn := Try.f4) hA rfl rfl ⟨_, rfl, rfl, (hM.sel [] rfl (by decide))⟩
  · replace H := ite_f hb60 H
    refine wp_skip ?_
    refine TN ?_
    refine wp_seq ?_
    refine wp_seq ?_
    refine wp_region_lit ?_
    refine L1 (stv hA (by decide) (run_move (hA.ev rfl)) ?_)
    clear hA; intro a hA
    refine L1 (stv hA (by decide) (run_len_slice Try.underlying25 (hA.ev rfl)) ?_)
    clear hA; intro a hA
    refine L1 (stv hA (by decide) (run_bin (hA.ev rfl) (hA.ev rfl) (bin_gtr _ _ _ _)) ?_)
    clear hA; intro a hA
    refine LQ ?_
    refine TN ?_
    refine tcond (b := (decide (((b_1.length : Nat) : Int) > 500))) hA rfl (fun hb61 => ?_) (fun hb61 => ?_)
    · replace H := ite_t hb61 H
      refine wp_seq ?_
      refine wp_region_lit ?_
      refine L1 (stv hA (by decide) (run_assign (hA.ev rfl)) ?_)
      clear hA; intro a hA
      refine LQ ?_
      refine TN ?_
      refine wp_ret ?_
      obtain rfl := Option.some.inj H
      refine TR ?_
      exact ret_post1 (fn := Try.f4) hA rfl rfl ⟨_, rfl, rfl, (hM.sel [] rfl (by decide))⟩
    · replace H := ite_f hb61 H
      refine wp_skip ?_
      refine TN ?_
      refine wp_seq ?_
      refine wp_region_lit ?_
      refine L1 (stv hA (by decide) (run_move (hA.ev rfl)) ?_)
      clear hA; intro a hA
      obtain ⟨hl64, H⟩ := ite_some H
      refine L1 (e_append0 elt25 hM (Src.row Try.underlying25 (hM.ro hr1) (Eq.refl b_1.length)) hl64 hA rfl rfl (by decide) ?_)
      clear hM hA; intro w65 A62 c63 hM hE a hA
      refine L1 (stv hA (by decide) (run_move (hA.ev rfl)) ?_)
      clear hA; intro a hA
      refine L1 (stv hA (by decide) (run_bin (hA.ev rfl) (hA.ev rfl) (bin_rem _ _ _ _ (by decide))) ?_)
      clear hA; intro a hA
      refine L1 (stv hA (by decide) (run_conv Try.underlying5 Try.underlying3 (hA.ev rfl)) ?_)
      clear hA; intro a hA
      obtain ⟨⟨hi69, hl70⟩, H⟩ := ite_some H
      refine L1 (e_appendz elt25 rfl Try.underlying3 hM (fun _ => .z) hi69 hl70 hA rfl rfl (by decide) ?_)
      clear hM hA; intro w71 A67 c68 hM hE a hA
      refine L1 (stv hA (by decide) (run_assign (hA.ev rfl)) ?_)
      clear hA; intro a hA
      refine LQ ?_
      refine TN ?_
      refine wp_seq ?_
      obtain ⟨o90, H89, H⟩ := Option.bind_eq_some_iff.1 H
      refine cutC (fun a w => ∃ (t88 : Bool), t88 = o90 ∧ Mem F w0 w [] ∧ Has 35 [(6, (.bool t88))] a) ?_ ?_
      · refine draw (fun w' => Below w71.heap.size w71 w') [] rfl ?_
        intro w91 hw hS; replace hM := hM.ext hS; clear hw
        refine rebase hS ?_; clear hS; intro hS
        refine d_take (i := 0) (L' := #[true, false, false, false, false, false, false, false, false, false, false, false, false, false, false, false, false]) rfl (by kernel_rfl) rfl (fun _ _ _ h => h) hA (by decide) rfl hS (fun a w' hA hS' => run_ld (hA.ev rfl) (run_loadP Try.isAgg24 Try.sizeOf24 ((hM.box (.s .z)).extB hS'))) ?_; clear hA; intro a hA
        refine d_takef (i := 1) (L' := #[true, true, false, false, false, false, false, false, false, false, false, false, false, false, false, false, false]) rfl (by kernel_rfl) rfl (fun _ _ _ h => h) hA (by decide) (fun _ => hS) (fun a w' hA => run_move (hA.ev rfl)) ?_; clear hA; intro a hA
        refine d_take (i := 3) (L' := #[true, true, false, true, false, false, false, false, false, false, false, false, false, false, false, false, false]) rfl (by kernel_rfl) rfl (fun _ _ _ h => h) hA (by decide) rfl hS (fun a w' hA hS' => run_ld (hA.ev rfl) (run_loadP Try.isAgg24 Try.sizeOf24 ((hM.box (.s .z)).extB hS'))) ?_; clear hA; intro a hA
        refine d_takef (i := 4) (L' := #[true, true, false, true, true, false, false, false, false, false, false, false, false, false, false, false, false]) rfl (by kernel_rfl) rfl (fun _ _ _ h => h) hA (by decide) (fun _ => hS) (fun a w' hA => run_move (hA.ev rfl)) ?_; clear hA; intro a hA
        obtain ⟨r93, H94, H89⟩ := Option.bind_eq_some_iff.1 H89
        refine d_one (i := 2) (L' := #[true, true, true, true, true, false, false, false, false, false, false, false, false, false, false, false, false]) (by kernel_rfl) rfl rfl (st_call Try.call13 hA [(.agg (pSipKey.enc k_0).toArray), (.slice A67 (b_1.length + (IntKind.i64.wrap (zeros_2.tmod 20)).toNat) c68)] rfl (by decide) (sip_Sum.calls _ _ _ _ _ _ _ ((RoV.mk (hM.rowC (p := (Pl.int .u8)) (Ms := []) .z) (RowOk.len (hM.row (p := (Pl.int .u8)) .z)) (RowOk.cap (hM.row (p := (Pl.int .u8)) .z)))) (hM.front (Ms := [])) H94) ?_)
        clear hA; rintro _ w95 ⟨rfl, hMc⟩ a hA
        have hE := hMc.below; have hM := hM.call (Ms := []) hMc
        clear hMc; simp only [List.cons_append, List.nil_append] at hM
        replace hS := hS.trans (hE.mono hS.size)
        refine ⟨fun _ => hS, ?_⟩
        obtain ⟨r96, H97, H89⟩ := Option.bind_eq_some_iff.1 H89
        refine d_one (i := 5) (L' := #[true, true, true, true, true, true, false, false, false, false, false, false, false, false, false, false, false]) (by kernel_rfl) rfl rfl (st_call Try.call14 hA [(.agg (pSipKey.enc k_0).toArray), (.slice A67 (b_1.length + (IntKind.i64.wrap (zeros_2.tmod 20)).toNat) c68)] rfl (by decide) (ref04_Sum.calls _ _ _ _ _ _ _ ((RoV.mk (hM.rowC (p := (Pl.int .u8)) (Ms := []) .z) (RowOk.len (hM.row (p := (Pl.int .u8)) .z)) (RowOk.cap (hM.row (p := (Pl.int .u8)) .z)))) (hM.front (Ms := [])) H97) ?_)
        clear hA; rintro _ w98 ⟨rfl, hMc⟩ a hA
        have hE := hMc.below; have hM := hM.call (Ms := []) hMc
        clear hMc; simp only [List.cons_append, List.nil_append] at hM
        replace hS := hS.trans (hE.mono hS.size)
        refine ⟨fun _ => hS, ?_⟩
        refine d_takef (i := 6) (L' := #[true, true, true, true, true, true, true, false, false, false, false, false, false, false, false, false, false]) rfl (by kernel_rfl) rfl (fun _ _ _ h => h) hA (by decide) (fun _ => hS) (fun a w' hA => run_bin (hA.ev rfl) (hA.ev rfl) (bin_eql _ _ _ _)) ?_; clear hA; intro a hA
        refine d_takef (i := 7) (L' := #[true, true, true, true, true, true, true, true, false, false, false, false, false, false, false, false, false]) rfl (by kernel_rfl) rfl (fun _ _ _ h => h) hA (by decide) (fun _ => hS) (fun a w' hA => run_move (hA.ev rfl)) ?_; clear hA; intro a hA
        refine bsplit (b := (r93 == r96)) (fun hb99 => ?_) (fun hb99 => ?_)
        · replace H89 := ite_t hb99 H89
          have hA := hA.re (t := 26) rfl (congrArg Value.bool hb99)
          refine rebase hS ?_; clear hS; intro hS
          refine d_takeg (i := 8) (L' := #[true, true, true, true, true, true, true, true, true, false, false, false, false, false, false, false, false]) rfl (by kernel_rfl) rfl (fun _ _ _ h => h) rfl hA (by decide) (by decide) rfl rfl hS (fun a w' hA hS' => run_ld (hA.ev rfl) (run_loadP Try.isAgg24 Try.sizeOf24 ((hM.box (.s .z)).extB hS'))) ?_; clear hA; intro a hA
          refine d_takegf (i := 9) (L' := #[true, true, true, true, true, true, true, true, true, true, false, false, false, false, false, false, false]) rfl (by kernel_rfl) rfl (fun _ _ _ h => h) rfl hA (by decide) (by decide) rfl (fun _ => hS) (fun a w' hA => run_move (hA.ev rfl)) ?_; clear hA; intro a hA
          refine d_takeg (i := 11) (L' := #[true, true, true, true, true, true, true, true, true, true, false, true, false, false, false, false, false]) rfl (by kernel_rfl) rfl (fun _ _ _ h => h) rfl hA (by decide) (by decide) rfl rfl hS (fun a w' hA hS' => run_ld (hA.ev rfl) (run_loadP Try.isAgg24 Try.sizeOf24 ((hM.box (.s .z)).extB hS'))) ?_; clear hA; intro a hA
          refine d_takegf (i := 12) (L' := #[true, true, true, true, true, true, true, true, true, true, false, true, true, false, false, false, false]) rfl (by kernel_rfl) rfl (fun _ _ _ h => h) rfl hA (by decide) (by decide) rfl (fun _ => hS) (fun a w' hA => run_move (hA.ev rfl)) ?_; clear hA; intro a hA
          obtain ⟨r100, H101, H89⟩ := Option.bind_eq_some_iff.1 H89
          refine d_one (i := 10) (L' := #[true, true, true, true, true, true, true, true, true, true, true, true, true, false, false, false, false]) (by kernel_rfl) rfl rfl (gate_on rfl rfl hA (by decide) rfl (st_call Try.call13 hA [(.agg (pSipKey.enc k_0).toArray), (.slice A1 b_1.length c1)] rfl (by decide) (sip_Sum.calls _ _ _ _ _ _ _ ((RoV.mk (hM.roC (Ms := []) hr1) (Eq.refl b_1.length) hc1)) (hM.front (Ms := [])) H101) ?_))
          clear hA; rintro _ w102 ⟨rfl, hMc⟩ a hA
          have hE := hMc.below; have hM := hM.call (Ms := []) hMc
          clear hMc; simp only [List.cons_append, List.nil_append] at hM
          replace hS := hS.trans (hE.mono hS.size)
          refine ⟨fun _ => hS, ?_⟩
          obtain ⟨r103, H104, H89⟩ := Option.bind_eq_some_iff.1 H89
          refine d_one (i := 13) (L' := #[true, true, true, true, true, true, true, true, true, true, true, true, true, true, false, false, false]) (by kernel_rfl) rfl rfl (gate_on rfl rfl hA (by decide) rfl (st_call Try.call14 hA [(.agg (pSipKey.enc k_0).toArray), (.slice A1 b_1.length c1)] rfl (by decide) (ref04_Sum.calls _ _ _ _ _ _ _ ((RoV.mk (hM.roC (Ms := []) hr1) (Eq.refl b_1.length) hc1)) (hM.front (Ms := [])) H104) ?_))
          clear hA; rintro _ w105 ⟨rfl, hMc⟩ a hA
          have hE := hMc.below; have hM := hM.call (Ms := []) hMc
          clear hMc; simp only [List.cons_append, List.nil_append] at hM
          replace hS := hS.trans (hE.mono hS.size)
          refine ⟨fun _ => hS, ?_⟩
          refine d_takegf (i := 14) (L' := #[true, true, true, true, true, true, true, true, true, true, true, true, true, true, true, false, false]) rfl (by kernel_rfl) rfl (fun _ _ _ h => h) rfl hA (by decide) (by decide) rfl (fun _ => hS) (fun a w' hA => run_bin (hA.ev rfl) (hA.ev rfl) (bin_eql _ _ _ _)) ?_; clear hA; intro a hA
          refine d_takef (i := 15) (L' := #[true, true, true, true, true, true, true, true, true, true, true, true, true, true, true, true, false]) rfl (by kernel_rfl) rfl (fun _ _ _ h => h) hA (by decide) (fun _ => hS) (fun a w' hA => run_pick (hA.ev rfl) (fun _ => hA.ev rfl) (fun h => Bool.noConfusion h)) ?_; clear hA; intro a hA
          refine d_takef (i := 16) (L' := #[true, true, true, true, true, true, true, true, true, true, true, true, true, true, true, true, true]) rfl (by kernel_rfl) rfl (fun _ _ _ h => h) hA (by decide) (fun _ => hS) (fun a w' hA => run_assign (hA.ev rfl)) ?_; clear hA; intro a hA
          refine d_done (by kernel_rfl) ?_
          exact ⟨(r100 == r103), Option.some.inj H89, (hM.sel [] rfl (by decide)), (hA.nil.cons (hA.get 6 _ rfl))⟩
        · replace H89 := ite_f hb99 H89
          have hA := hA.re (t := 26) rfl (congrArg Value.bool hb99)
          refine d_skip (i := 8) (L' := #[true, true, true, true, true, true, true, true, true, false, false, false, false, false, false, false, false]) rfl (by kernel_rfl) rfl (fun _ _ _ h => h) rfl hA (by decide) (by decide) rfl rfl (fun _ => hS) ?_; clear hA; intro a hA
          refine d_skip (i := 9) (L' := #[true, true, true, true, true, true, true, true, true, true, false, false, false, false, false, false, false]) rfl (by kernel_rfl) rfl (fun _ _ _ h => h) rfl hA (by decide) (by decide) rfl rfl (fun _ => hS) ?_; clear hA; intro a hA
          refine d_skip (i := 11) (L' := #[true, true, true, true, true, true, true, true, true, true, false, true, false, false, false, false, false]) rfl (by kernel_rfl) rfl (fun _ _ _ h => h) rfl hA (by decide) (by decide) rfl rfl (fun _ => hS) ?_; clear hA; intro a hA
          refine d_skip (i := 12) (L' := #[true, true, true, true, true, true, true, true, true, true, false, true, true, false, false, false, false]) rfl (by kernel_rfl) rfl (fun _ _ _ h => h) rfl hA (by decide) (by decide) rfl rfl (fun _ => hS) ?_; clear hA; intro a hA
          refine d_one (i := 10) (L' := #[true, true, true, true, true, true, true, true, true, true, true, true, true, false, false, false, false]) (by kernel_rfl) rfl rfl (gate_off rfl (by decide) rfl hA (by decide) rfl rfl ?_); clear hA; intro a hA
          refine ⟨fun _ => hS, ?_⟩
          refine d_one (i := 13) (L' := #[true, true, true, true, true, true, true, true, true, true, true, true, true, true, false, false, false]) (by kernel_rfl) rfl rfl (gate_off rfl (by decide) rfl hA (by decide) rfl rfl ?_); clear hA; intro a hA
          refine ⟨fun _ => hS, ?_⟩
          refine d_skip (i := 14) (L' := #[true, true, true, true, true, true, true, true, true, true, true, true, true, true, true, false, false]) rfl (by kernel_rfl) rfl (fun _ _ _ h => h) rfl hA (by decide) (by decide) rfl rfl (fun _ => hS) ?_; clear hA; intro a hA
          refine d_takef (i := 15) (L' := #[true, true, true, true, true, true, true, true, true, true, true, true, true, true, true, true, false]) rfl (by kernel_rfl) rfl (fun _ _ _ h => h) hA (by decide) (fun _ => hS) (fun a w' hA => run_pick (hA.ev rfl) (fun h => Bool.noConfusion h) (fun _ => hA.ev rfl)) ?_; clear hA; intro a hA
          refine d_takef (i := 16) (L' := #[true, true, true, true, true, true, true, true, true, true, true, true, true, true, true, true, true]) rfl (by kernel_rfl) rfl (fun _ _ _ h => h) hA (by decide) (fun _ => hS) (fun a w' hA => run_assign (hA.ev rfl)) ?_; clear hA; intro a hA
          refine d_done (by kernel_rfl) ?_
          exact ⟨false, Option.some.inj H89, (hM.sel [] rfl (by decide)), (hA.nil.cons (hA.get 6 _ rfl))⟩
      clear hM hA
      rintro a w106 ⟨t88, rfl, hM, hA⟩
      try dsimp only at H
      refine TN ?_
      refine wp_ret ?_
      obtain rfl := Option.some.inj H
      exact ret_post1 (fn := Try.f4) hA rfl rfl ⟨_, rfl, rfl, hM⟩

end Go.Proofs.Ytoogcdmdbogkeaa.G
