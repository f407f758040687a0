/- The functions that the law FeesOrder of this seat reaches: what each comes to, as a plain function, and that its code comes to it. Conditions: the plain function gives a value (enough fuel, no panic). -/
import Derived.Test.YtjdahineeoofiaaChecked
import Derived.Test.YtjdahineeoofiaaG
set_option linter.unusedVariables false
set_option linter.unusedSimpArgs false
namespace Go.Proofs.Ytjdahineeoofiaa.G
open Go Go.RowKit Go.Proofs
def pA24i64 : Pl (Vector Int 24) := Pl.vec 24 .i64 (by decide)
theorem eq_A24i64 : EqOk Try.prog 49 pA24i64 2 := fun d x y w => eq_vec (by decide) d Try.underlying49 Try.isAgg3 Try.underlying3 (by kernel_rfl) (by kernel_rfl) x y w
def pHash : Pl (Vector Int 32) := Pl.vec 32 .u8 (by decide)
theorem eq_Hash : EqOk Try.prog 33 pHash 2 := fun d x y w => eq_vec (by decide) d Try.underlying33 Try.isAgg5 Try.underlying5 (by kernel_rfl) (by kernel_rfl) x y w
structure Sample where
  ID : (Vector Int 32)
  Class : Int
  Seen : Int
  Confirmed : Int
def Sample.z : Sample := ⟨(Vector.replicate 32 0 : Vector Int 32), (0 : Int), (0 : Int), (0 : Int)⟩
def Sample.segs (x : Sample) : List (List Value) := [pHash.enc x.ID, (Pl.int .i64).enc x.Class, (Pl.int .i64).enc x.Seen, (Pl.int .i64).enc x.Confirmed]
theorem Sample.segs_len (x : Sample) : x.segs.flatten.length = 35 := by
  simp only [Sample.segs, List.flatten_cons, List.flatten_nil, List.length_append, List.length_nil, Pl.len]
  rfl
def pSample : Pl Sample := ⟨35, fun x => x.segs.flatten, Sample.segs_len, fun x u hu => by
  simp only [Sample.segs, List.mem_flatten, List.mem_cons, List.not_mem_nil, or_false] at hu
  obtain ⟨l, hl, hu⟩ := hu
  rcases hl with rfl | rfl | rfl | rfl
  all_goals exact Pl.one _ _ u hu, by decide⟩
def Sample.eqb (x y : Sample) : Bool := (x.ID == y.ID && (x.Class == y.Class && (x.Seen == y.Seen && (x.Confirmed == y.Confirmed && true))))
instance : BEq Sample := ⟨Sample.eqb⟩
theorem Sample.eqb_iff (x y : Sample) : (x == y) = true ↔ x = y := by
  show Sample.eqb x y = true ↔ x = y
  cases x; cases y
  simp [Sample.eqb, and_assoc]
theorem eq_Sample : EqOk Try.prog 35 pSample 3 := fun d x y w => eq_struct (P := Try.prog) (d := d + 2) Try.underlying35 (by kernel_rfl) (eqf_cons (by decide) (part_agg Try.isAgg33 Try.sizeOf33 x.segs 0 rfl (by first | rfl | (simp only [Sample.segs, List.take, List.flatten_cons, List.flatten_nil, List.length_append, List.length_nil, Pl.len]; rfl)) (Pl.len _ _)) (part_agg Try.isAgg33 Try.sizeOf33 y.segs 0 rfl (by first | rfl | (simp only [Sample.segs, List.take, List.flatten_cons, List.flatten_nil, List.length_append, List.length_nil, Pl.len]; rfl)) (Pl.len _ _)) (eq_Hash d x.ID y.ID w)
    (eqf_cons (by decide) (part_one Try.isAgg3 x.segs 1 rfl (by first | rfl | (simp only [Sample.segs, List.take, List.flatten_cons, List.flatten_nil, List.length_append, List.length_nil, Pl.len]; rfl))) (part_one Try.isAgg3 y.segs 1 rfl (by first | rfl | (simp only [Sample.segs, List.take, List.flatten_cons, List.flatten_nil, List.length_append, List.length_nil, Pl.len]; rfl))) (run_equalIn_int w (d + 1) _ _ _ _ _ Try.underlying3)
    (eqf_cons (by decide) (part_one Try.isAgg3 x.segs 2 rfl (by first | rfl | (simp only [Sample.segs, List.take, List.flatten_cons, List.flatten_nil, List.length_append, List.length_nil, Pl.len]; rfl))) (part_one Try.isAgg3 y.segs 2 rfl (by first | rfl | (simp only [Sample.segs, List.take, List.flatten_cons, List.flatten_nil, List.length_append, List.length_nil, Pl.len]; rfl))) (run_equalIn_int w (d + 1) _ _ _ _ _ Try.underlying3)
    (eqf_cons (by decide) (part_one Try.isAgg3 x.segs 3 rfl (by first | rfl | (simp only [Sample.segs, List.take, List.flatten_cons, List.flatten_nil, List.length_append, List.length_nil, Pl.len]; rfl))) (part_one Try.isAgg3 y.segs 3 rfl (by first | rfl | (simp only [Sample.segs, List.take, List.flatten_cons, List.flatten_nil, List.length_append, List.length_nil, Pl.len]; rfl))) (run_equalIn_int w (d + 1) _ _ _ _ _ Try.underlying3)
    (eqf_nil)))))
theorem Sample.at_ID {w : World} {ad : Addr} {x : Sample} (h : At w ad (pSample.enc x)) : At w (ad.add 0) (pHash.enc x.ID) := At.seg (segs := x.segs) h 0 rfl (by
  first | rfl | simp only [Sample.segs, List.take, List.flatten_cons, List.flatten_nil, List.length_append, List.length_nil, Pl.len]; rfl)
theorem Sample.splice_ID (x : Sample) (y : (Vector Int 32)) : splice (pSample.enc x).toArray 0 (pHash.enc y).toArray = (pSample.enc { x with ID := y }).toArray := splice_seg x.segs 0 (pHash.enc y).toArray 0 rfl (by
  first | rfl | simp only [Sample.segs, List.take, List.flatten_cons, List.flatten_nil, List.length_append, List.length_nil, Pl.len]; rfl) (by simp [Pl.len])
theorem Sample.at_Class {w : World} {ad : Addr} {x : Sample} (h : At w ad (pSample.enc x)) : At w (ad.add 32) ((Pl.int .i64).enc x.Class) := At.seg (segs := x.segs) h 1 rfl (by
  first | rfl | simp only [Sample.segs, List.take, List.flatten_cons, List.flatten_nil, List.length_append, List.length_nil, Pl.len]; rfl)
theorem Sample.splice_Class (x : Sample) (y : Int) : splice (pSample.enc x).toArray 32 ((Pl.int .i64).enc y).toArray = (pSample.enc { x with Class := y }).toArray := splice_seg x.segs 1 ((Pl.int .i64).enc y).toArray 32 rfl (by
  first | rfl | simp only [Sample.segs, List.take, List.flatten_cons, List.flatten_nil, List.length_append, List.length_nil, Pl.len]; rfl) (by simp [Pl.len])
theorem Sample.at_Seen {w : World} {ad : Addr} {x : Sample} (h : At w ad (pSample.enc x)) : At w (ad.add 33) ((Pl.int .i64).enc x.Seen) := At.seg (segs := x.segs) h 2 rfl (by
  first | rfl | simp only [Sample.segs, List.take, List.flatten_cons, List.flatten_nil, List.length_append, List.length_nil, Pl.len]; rfl)
theorem Sample.splice_Seen (x : Sample) (y : Int) : splice (pSample.enc x).toArray 33 ((Pl.int .i64).enc y).toArray = (pSample.enc { x with Seen := y }).toArray := splice_seg x.segs 2 ((Pl.int .i64).enc y).toArray 33 rfl (by
  first | rfl | simp only [Sample.segs, List.take, List.flatten_cons, List.flatten_nil, List.length_append, List.length_nil, Pl.len]; rfl) (by simp [Pl.len])
theorem Sample.at_Confirmed {w : World} {ad : Addr} {x : Sample} (h : At w ad (pSample.enc x)) : At w (ad.add 34) ((Pl.int .i64).enc x.Confirmed) := At.seg (segs := x.segs) h 3 rfl (by
  first | rfl | simp only [Sample.segs, List.take, List.flatten_cons, List.flatten_nil, List.length_append, List.length_nil, Pl.len]; rfl)
theorem Sample.splice_Confirmed (x : Sample) (y : Int) : splice (pSample.enc x).toArray 34 ((Pl.int .i64).enc y).toArray = (pSample.enc { x with Confirmed := y }).toArray := splice_seg x.segs 3 ((Pl.int .i64).enc y).toArray 34 rfl (by
  first | rfl | simp only [Sample.segs, List.take, List.flatten_cons, List.flatten_nil, List.length_append, List.length_nil, Pl.len]; rfl) (by simp [Pl.len])
theorem zero33 : ∀ w, (zeroValue 33).run Try.prog w = .ok (.agg (pHash.enc (Vector.replicate 32 0 : Vector Int 32)).toArray) w := run_zero (by kernel_rfl)
theorem zero35 : ∀ w, (zeroValue 35).run Try.prog w = .ok (.agg (pSample.enc Sample.z).toArray) w := run_zero (by kernel_rfl)
theorem zero49 : ∀ w, (zeroValue 49).run Try.prog w = .ok (.agg (pA24i64.enc (Vector.replicate 24 0 : Vector Int 24)).toArray) w := run_zero (by kernel_rfl)
theorem zero53 : ∀ w, (zeroValue 53).run Try.prog w = .ok (.agg #[(.slice none 0 0), (.int .i64 (0 : Int))]) w := run_zero (by kernel_rfl)
theorem elt28 : Elt Try.prog pSample 28 35 (.agg (pSample.enc Sample.z).toArray) 56 := ⟨Try.underlying28, by kernel_rfl, by first | rfl | simp [Value.cells, Pl.len], by decide⟩
theorem elt42 : Elt Try.prog pHash 42 33 (.agg (pHash.enc (Vector.replicate 32 0 : Vector Int 32)).toArray) 32 := ⟨Try.underlying42, by kernel_rfl, by first | rfl | simp [Value.cells, Pl.len], by decide⟩
def fees_Rate.f (k : Nat) (fee_0 : Int) (weight_1 : Int) : Option Int := (Option.bind (α := Bool) (if (decide (fee_0 < 0)) = true then (some true) else (if (decide (fee_0 > 2100000000000000)) = true then (some true) else (if (decide (weight_1 < 1)) = true then (some true) else (some (decide (weight_1 > 80000)))))) (fun t4 => (if t4 = true then (some 0) else (if ¬ weight_1 = 0 then (some (if 1048576 < IntKind.i64.wrap ((IntKind.i64.wrap (1000 * fee_0)).tdiv weight_1) then 1048576 else IntKind.i64.wrap ((IntKind.i64.wrap (1000 * fee_0)).tdiv weight_1))) else none))))
theorem fees_Rate.calls (k : Nat) (fee_0 : Int) (weight_1 : Int)  (r : Int) (w0 : World)  (H : fees_Rate.f k fee_0 weight_1 = some r) :
    Calls Try.prog 8 #[(.int .i64 fee_0), (.int .i64 weight_1)] w0 fun e w' => ∃ v, e = .returned v ∧ v = (.int .i64 r) ∧ Below w0.heap.size w0 w' := by
  unfold fees_Rate.f at H
  have hB0 := Below.refl w0.heap.size w0
  refine enterL (n := 24) [(.int .i64 fee_0), (.int .i64 weight_1)] Try.func8 rfl rfl rfl ?_
  intro a hA
  refine wp_seq ?_
  refine wp_region_lit ?_
  refine L1 (stv hA (by decide) (run_assign (hA.ev rfl)) ?_); intro a hA
  refine LQ ?_
  refine TN ?_
  refine wp_seq ?_
  refine wp_seq ?_
  obtain ⟨o6, H5, H⟩ := Option.bind_eq_some_iff.1 H
  refine cutC (fun a w => ∃ (t4 : Bool), t4 = o6 ∧ w0 = w ∧ Has 24 [(0, (.int .i64 fee_0)), (1, (.int .i64 weight_1)), (18, (.bool t4))] a) ?_ ?_
  · refine wp_region_lit ?_
    refine L1 (stv hA (by decide) (run_move (hA.ev rfl)) ?_); intro a hA
    refine L1 (stv hA (by decide) (run_bin (hA.ev rfl) (hA.ev rfl) (bin_lss _ _ _ _)) ?_); intro a hA
    refine L1 (stv hA (by decide) (run_move (hA.ev rfl)) ?_); intro a hA
    refine bsplit (b := (decide (fee_0 < 0))) (fun hb7 => ?_) (fun hb7 => ?_)
    · replace H5 := ite_t hb7 H5
      have hA := hA.re (t := 7) rfl (congrArg Value.bool hb7)
      refine L1 (gate_off rfl (by decide) rfl hA (by decide) rfl rfl ?_); intro a hA
      refine L1 (gate_off rfl (by decide) rfl hA (by decide) rfl rfl ?_); intro a hA
      refine L1 (stv hA (by decide) (run_pick (hA.ev rfl) (fun _ => hA.ev rfl) (fun h => Bool.noConfusion h)) ?_); intro a hA
      refine L1 (stv hA (by decide) (run_move (hA.ev rfl)) ?_); intro a hA
      refine L1 (gate_off rfl (by decide) rfl hA (by decide) rfl rfl ?_); intro a hA
      refine L1 (gate_off rfl (by decide) rfl hA (by decide) rfl rfl ?_); intro a hA
      refine L1 (stv hA (by decide) (run_pick (hA.ev rfl) (fun _ => hA.ev rfl) (fun h => Bool.noConfusion h)) ?_); intro a hA
      refine L1 (stv hA (by decide) (run_move (hA.ev rfl)) ?_); intro a hA
      refine L1 (gate_off rfl (by decide) rfl hA (by decide) rfl rfl ?_); intro a hA
      refine L1 (gate_off rfl (by decide) rfl hA (by decide) rfl rfl ?_); intro a hA
      refine L1 (stv hA (by decide) (run_pick (hA.ev rfl) (fun _ => hA.ev rfl) (fun h => Bool.noConfusion h)) ?_); intro a hA
      refine LQ ?_
      exact ⟨true, Option.some.inj H5, rfl, (((hA.nil.cons (hA.get 18 _ rfl)).cons (hA.get 1 _ rfl)).cons (hA.get 0 _ rfl))⟩
    · replace H5 := ite_f hb7 H5
      have hA := hA.re (t := 7) rfl (congrArg Value.bool hb7)
      refine L1 (gate_on rfl rfl hA (by decide) rfl (stv hA (by decide) (run_move (hA.ev rfl)) ?_)); intro a hA
      refine L1 (gate_on rfl rfl hA (by decide) rfl (stv hA (by decide) (run_bin (hA.ev rfl) (hA.ev rfl) (bin_gtr _ _ _ _)) ?_)); intro a hA
      refine L1 (stv hA (by decide) (run_pick (hA.ev rfl) (fun h => Bool.noConfusion h) (fun _ => hA.ev rfl)) ?_); intro a hA
      refine L1 (stv hA (by decide) (run_move (hA.ev rfl)) ?_); intro a hA
      refine bsplit (b := (decide (fee_0 > 2100000000000000))) (fun hb8 => ?_) (fun hb8 => ?_)
      · replace H5 := ite_t hb8 H5
        have hA := hA.re (t := 11) rfl (congrArg Value.bool hb8)
        refine L1 (gate_off rfl (by decide) rfl hA (by decide) rfl rfl ?_); intro a hA
        refine L1 (gate_off rfl (by decide) rfl hA (by decide) rfl rfl ?_); intro a hA
        refine L1 (stv hA (by decide) (run_pick (hA.ev rfl) (fun _ => hA.ev rfl) (fun h => Bool.noConfusion h)) ?_); intro a hA
        refine L1 (stv hA (by decide) (run_move (hA.ev rfl)) ?_); intro a hA
        refine L1 (gate_off rfl (by decide) rfl hA (by decide) rfl rfl ?_); intro a hA
        refine L1 (gate_off rfl (by decide) rfl hA (by decide) rfl rfl ?_); intro a hA
        refine L1 (stv hA (by decide) (run_pick (hA.ev rfl) (fun _ => hA.ev rfl) (fun h => Bool.noConfusion h)) ?_); intro a hA
        refine LQ ?_
        exact ⟨true, Option.some.inj H5, rfl, (((hA.nil.cons (hA.get 18 _ rfl)).cons (hA.get 1 _ rfl)).cons (hA.get 0 _ rfl))⟩
      · replace H5 := ite_f hb8 H5
        have hA := hA.re (t := 11) rfl (congrArg Value.bool hb8)
        refine L1 (gate_on rfl rfl hA (by decide) rfl (stv hA (by decide) (run_move (hA.ev rfl)) ?_)); intro a hA
        refine L1 (gate_on rfl rfl hA (by decide) rfl (stv hA (by decide) (run_bin (hA.ev rfl) (hA.ev rfl) (bin_lss _ _ _ _)) ?_)); intro a hA
        refine L1 (stv hA (by decide) (run_pick (hA.ev rfl) (fun h => Bool.noConfusion h) (fun _ => hA.ev rfl)) ?_); intro a hA
        refine L1 (stv hA (by decide) (run_move (hA.ev rfl)) ?_); intro a hA
        refine bsplit (b := (decide (weight_1 < 1))) (fun hb9 => ?_) (fun hb9 => ?_)
        · replace H5 := ite_t hb9 H5
          have hA := hA.re (t := 15) rfl (congrArg Value.bool hb9)
          refine L1 (gate_off rfl (by decide) rfl hA (by decide) rfl rfl ?_); intro a hA
          refine L1 (gate_off rfl (by decide) rfl hA (by decide) rfl rfl ?_); intro a hA
          refine L1 (stv hA (by decide) (run_pick (hA.ev rfl) (fun _ => hA.ev rfl) (fun h => Bool.noConfusion h)) ?_); intro a hA
          refine LQ ?_
          exact ⟨true, Option.some.inj H5, rfl, (((hA.nil.cons (hA.get 18 _ rfl)).cons (hA.get 1 _ rfl)).cons (hA.get 0 _ rfl))⟩
        · replace H5 := ite_f hb9 H5
          have hA := hA.re (t := 15) rfl (congrArg Value.bool hb9)
          refine L1 (gate_on rfl rfl hA (by decide) rfl (stv hA (by decide) (run_move (hA.ev rfl)) ?_)); intro a hA
          refine L1 (gate_on rfl rfl hA (by decide) rfl (stv hA (by decide) (run_bin (hA.ev rfl) (hA.ev rfl) (bin_gtr _ _ _ _)) ?_)); intro a hA
          refine L1 (stv hA (by decide) (run_pick (hA.ev rfl) (fun h => Bool.noConfusion h) (fun _ => hA.ev rfl)) ?_); intro a hA
          refine LQ ?_
          exact ⟨(decide (weight_1 > 80000)), Option.some.inj H5, rfl, (((hA.nil.cons (hA.get 18 _ rfl)).cons (hA.get 1 _ rfl)).cons (hA.get 0 _ rfl))⟩
  rintro a _ ⟨t4, rfl, rfl, hA⟩
  try dsimp only at H
  refine TN ?_
  refine tcond (b := t4) hA rfl (fun hb11 => ?_) (fun hb11 => ?_)
  · replace H := ite_t hb11 H
    refine wp_seq ?_
    refine wp_region_lit ?_
    refine L1 (stv hA (by decide) (run_assign (hA.ev rfl)) ?_); intro a hA
    refine LQ ?_
    refine TN ?_
    refine wp_ret ?_
    cases H
    refine TR ?_
    exact ret_post1 (fn := Try.f8) hA rfl rfl ⟨_, rfl, rfl, hB0⟩
  · replace H := ite_f hb11 H
    refine wp_skip ?_
    refine TN ?_
    refine wp_seq ?_
    refine wp_region_lit ?_
    refine L1 (stv hA (by decide) (run_move (hA.ev rfl)) ?_); intro a hA
    refine L1 (stv hA (by decide) (run_bin (hA.ev rfl) (hA.ev rfl) (bin_mul _ _ _ _)) ?_); intro a hA
    refine L1 (stv hA (by decide) (run_move (hA.ev rfl)) ?_); intro a hA
    obtain ⟨hd12, H⟩ := ite_some H
    refine L1 (stv hA (by decide) (run_bin (hA.ev rfl) (hA.ev rfl) (bin_quo _ _ _ _ hd12)) ?_); intro a hA
    refine L1 (stv hA (by decide) (run_min (hA.ev rfl) (hA.ev rfl)) ?_); intro a hA
    refine L1 (stv hA (by decide) (run_assign (hA.ev rfl)) ?_); intro a hA
    refine LQ ?_
    refine TN ?_
    refine wp_ret ?_
    cases H
    exact ret_post1 (fn := Try.f8) hA rfl rfl ⟨_, rfl, rfl, hB0⟩

def fees_bounds.l0  : Nat → Int → Int → (Vector Int 24) → Option ((Vector Int 24))
  | 0, _, _, _ => none
  | k + 1, n54, t55, x56 => (if (decide (t55 < 24)) = true then (if 0 ≤ t55 ∧ t55 < (24 : Int) then (fees_bounds.l0  k (IntKind.i64.wrap (n54 + (IntKind.i64.wrap (n54.tdiv 2)))) (IntKind.i64.wrap (t55 + 1)) (vs x56 t55 n54)) else none) else (some x56))
def fees_bounds.f (k : Nat)  : Option (Vector Int 24) := (Option.bind (α := (Vector Int 24)) (fees_bounds.l0 k 10 0 (Vector.replicate 24 0 : Vector Int 24)) (fun x57 => (some x57)))
theorem fees_bounds.calls (k : Nat)   (r : (Vector Int 24)) (w0 : World)  (H : fees_bounds.f k  = some r) :
    Calls Try.prog 24 #[] w0 fun e w' => ∃ v, e = .returned v ∧ v = (.agg (pA24i64.enc r).toArray) ∧ Below w0.heap.size w0 w' := by
  unfold fees_bounds.f at H
  have hB0 := Below.refl w0.heap.size w0
  refine enterL (n := 16) [] Try.func24 rfl rfl rfl ?_
  intro a hA
  refine wp_seq ?_
  refine wp_region_lit ?_
  refine L1 (st_alloc (cs := (pA24i64.enc (Vector.replicate 24 0 : Vector Int 24)).toArray) zero49 rfl hA (by decide) ?_)
  intro w2 g1 hg3 hz4 hX5 hE6 a hA
  have ge8 : _ ≤ g1 := Nat.le_trans hB0.size (Nat.le_of_eq hg3.symm)
  refine LQ ?_
  refine TN ?_
  refine wp_seq ?_
  refine wp_region_lit ?_
  have hB9 := hB0.trans (hE6.mono hB0.size)
  refine L1 (st_alloc (cs := (pA24i64.enc (Vector.replicate 24 0 : Vector Int 24)).toArray) zero49 rfl hA (by decide) ?_)
  intro w11 g10 hg12 hz13 hX14 hE15 a hA
  have ge17 : _ ≤ g10 := Nat.le_trans hB9.size (Nat.le_of_eq hg12.symm)
  have sp18 := sep_lt (lt_box hX5) hg12
  have lg19 : g1 < g10 := hg12 ▸ (lt_box hX5) _ rfl
  refine LQ ?_
  refine TN ?_
  refine wp_seq ?_
  refine wp_region_lit ?_
  refine L1 (stv hA (by decide) (run_assign (hA.ev rfl)) ?_); intro a hA
  refine LQ ?_
  refine TN ?_
  refine wp_seq ?_
  refine wp_seq ?_
  refine wp_region_lit ?_
  refine L1 (stv hA (by decide) (run_move (hA.ev rfl)) ?_); intro a hA
  refine LQ ?_
  refine TN ?_
  obtain ⟨o59, H58, H⟩ := Option.bind_eq_some_iff.1 H
  refine cutC (fun a w => ∃ (x57 : (Vector Int 24)), x57 = o59 ∧ (Below w0.heap.size w0 w) ∧ (w.heap[g1]? = some (.cells (pA24i64.enc (Vector.replicate 24 0 : Vector Int 24)).toArray 49 (0, 0))) ∧ (w.heap[g10]? = some (.cells (pA24i64.enc x57).toArray 49 (0, 0))) ∧ Has 16 [(0, (.pointer (some (⟨g1, 0, none⟩)))), (1, (.pointer (some (⟨g10, 0, none⟩))))] a) ?_ ?_
  · refine wp_block ?_
    have hB66 := hB9.trans (hE15.mono hB9.size)
    have h67 := (hE15.block _ (lt_some hX5)).trans hX5
    refine wp_loop_ghost (fun m a w => ∃ (n54 : Int) (t55 : Int) (x56 : (Vector Int 24)), fees_bounds.l0 m n54 t55 x56 = some o59 ∧ (Below w0.heap.size w0 w) ∧ (w.heap[g1]? = some (.cells (pA24i64.enc (Vector.replicate 24 0 : Vector Int 24)).toArray 49 (0, 0))) ∧ (w.heap[g10]? = some (.cells (pA24i64.enc x56).toArray 49 (0, 0))) ∧ Has 16 [(0, (.pointer (some (⟨g1, 0, none⟩)))), (1, (.pointer (some (⟨g10, 0, none⟩)))), (2, (.int .i64 n54)), (4, (.int .i64 t55))] a) k ⟨10, 0, (Vector.replicate 24 0 : Vector Int 24), H58, hB66, h67, hX14, ((((hA.nil.cons (hA.get 4 _ rfl)).cons (hA.get 2 _ rfl)).cons (hA.get 1 _ rfl)).cons (hA.get 0 _ rfl))⟩ ?_
    rintro m68 a w69 ⟨n54, t55, x56, H58, hB63, hX64, hX65, hA⟩
    cases m68 with
    | zero => exact absurd H58 (by simp [fees_bounds.l0])
    | succ m68 =>
    rw [fees_bounds.l0] at H58
    refine wp_seq ?_
    refine wp_region_lit ?_
    refine L1 (stv hA (by decide) (run_bin (hA.ev rfl) (hA.ev rfl) (bin_lss _ _ _ _)) ?_); intro a hA
    refine LQ ?_
    refine TN ?_
    refine wp_seq ?_
    refine tcond (b := (decide (t55 < 24))) hA rfl (fun hb70 => ?_) (fun hb70 => ?_)
    · replace H58 := ite_t hb70 H58
      refine wp_skip ?_
      refine TN ?_
      refine wp_seq ?_
      refine wp_block ?_
      refine wp_seq ?_
      refine wp_region_lit ?_
      refine L1 (stv hA (by decide) (run_move (hA.ev rfl)) ?_); intro a hA
      refine L1 (stv hA (by decide) (run_assign (hA.ev rfl)) ?_); intro a hA
      refine LQ ?_
      refine TN ?_
      refine wp_seq ?_
      refine wp_region_lit ?_
      refine L1 (stv hA (by decide) (run_move (hA.ev rfl)) ?_); intro a hA
      refine L1 (stv hA (by decide) (run_move (hA.ev rfl)) ?_); intro a hA
      obtain ⟨⟨hi71, hj72⟩, H58⟩ := ite_some H58
      refine L1 (stv hA (by decide) (run_idxarr Try.underlying49 Try.sizeOf3 (hA.ev rfl) (hA.ev rfl) hi71 hj72) ?_); intro a hA
      refine L1 (st_store (g := g10) (off := (t55.toNat * 1)) (cur := (pA24i64.enc x56).toArray) Try.sizeOf3 hA rfl (by simp [add_mk]) rfl (by rfl) (one_val rfl) hX65 (by have h1 := hj72; have h0 := hi71; rw [List.size_toArray, Pl.len]; show _ ≤ 24; omega) ?_)
      intro w73 hX74 hU75 hz76 a hA
      replace hX74 : w73.heap[g10]? = some (.cells (pA24i64.enc (vs x56 t55 n54)).toArray 49 (0, 0)) := hX74.trans (congrArg (fun c => some (Obj.cells c 49 (0, 0))) (vec_splice _ _ hi71 hj72))
      refine LQ ?_
      refine TN ?_
      refine wp_region_lit ?_
      refine L1 (stv hA (by decide) (run_move (hA.ev rfl)) ?_); intro a hA
      refine L1 (stv hA (by decide) (run_move (hA.ev rfl)) ?_); intro a hA
      refine L1 (stv hA (by decide) (run_bin (hA.ev rfl) (hA.ev rfl) (bin_quo _ _ _ _ (by decide))) ?_); intro a hA
      refine L1 (stv hA (by decide) (run_bin (hA.ev rfl) (hA.ev rfl) (bin_add _ _ _ _)) ?_); intro a hA
      refine L1 (stv hA (by decide) (run_assign (hA.ev rfl)) ?_); intro a hA
      refine LQ ?_
      refine BN ?_
      refine TN ?_
      refine wp_region_lit ?_
      refine L1 (stv hA (by decide) (run_bin (hA.ev rfl) (hA.ev rfl) (bin_add _ _ _ _)) ?_); intro a hA
      refine L1 (stv hA (by decide) (run_move (hA.ev rfl)) ?_); intro a hA
      refine LQ ?_
      have hB77 := hB63.grown hU75 hB63.size (fun k hk => by cases hk; exact ge17)
      have h78 := (hU75.block _ (lt_some hX64) (sep_box (by omega) _ rfl)).trans hX64
      exact ⟨_, Nat.lt_succ_self m68, IntKind.i64.wrap (n54 + (IntKind.i64.wrap (n54.tdiv 2))), IntKind.i64.wrap (t55 + 1), vs x56 t55 n54, H58, hB77, h78, hX74, ((((hA.nil.cons (hA.get 4 _ rfl)).cons (hA.get 2 _ rfl)).cons (hA.get 1 _ rfl)).cons (hA.get 0 _ rfl))⟩
    · replace H58 := ite_f hb70 H58
      refine wp_exit ?_
      refine TX ?_
      refine TX ?_
      refine BX ?_
      exact ⟨x56, Option.some.inj H58, hB63, hX64, hX65, ((hA.nil.cons (hA.get 1 _ rfl)).cons (hA.get 0 _ rfl))⟩
  rintro a w79 ⟨x57, rfl, hB60, hX61, hX62, hA⟩
  try dsimp only at H
  refine TN ?_
  refine wp_seq ?_
  refine wp_region_lit ?_
  refine L1 (stv hA (by decide) (run_ld (hA.ev rfl) (run_loadP Try.isAgg49 Try.sizeOf49 (At.box' hX62))) ?_); intro a hA
  refine L1 (st_store (g := g1) (off := 0) (cur := (pA24i64.enc (Vector.replicate 24 0 : Vector Int 24)).toArray) Try.sizeOf49 hA rfl (by simp [add_mk]) rfl (agg_size _ _) (agg_one _ _) hX61 (Nat.le_of_ble_eq_true (enc_fit _ _ rfl)) ?_)
  intro w80 hX81 hU82 hz83 a hA
  replace hX81 : w80.heap[g1]? = some (.cells (pA24i64.enc x57).toArray 49 (0, 0)) := hX81.trans (congrArg (fun c => some (Obj.cells c 49 (0, 0))) (splice_all _ _ (agg_same _ _ _)))
  refine LQ ?_
  refine TN ?_
  refine wp_ret ?_
  have hB84 := hB60.grown hU82 hB60.size (fun k hk => by cases hk; exact ge8)
  cases H
  exact ret_cell (fn := Try.f24) hA rfl rfl (run_loadP Try.isAgg49 Try.sizeOf49 (At.box' hX81)) ⟨_, rfl, rfl, hB84⟩

def fees_Bound.f (k : Nat) (class_0 : Int) : Option Int := (Option.bind (α := Bool) (if (decide (class_0 < 0)) = true then (some true) else (some (decide (class_0 ≥ 24)))) (fun t2 => (if t2 = true then (some 0) else ((fees_bounds.f k ).bind fun r8 => (if 0 ≤ class_0 ∧ class_0 < (24 : Int) then (some (vg r8 class_0)) else none)))))
theorem fees_Bound.calls (k : Nat) (class_0 : Int)  (r : Int) (w0 : World)  (H : fees_Bound.f k class_0 = some r) :
    Calls Try.prog 10 #[(.int .i64 class_0)] w0 fun e w' => ∃ v, e = .returned v ∧ v = (.int .i64 r) ∧ Below w0.heap.size w0 w' := by
  unfold fees_Bound.f at H
  have hB0 := Below.refl w0.heap.size w0
  refine enterL (n := 12) [(.int .i64 class_0)] Try.func10 rfl rfl rfl ?_
  intro a hA
  refine wp_seq ?_
  refine wp_region_lit ?_
  refine L1 (stv hA (by decide) (run_assign (hA.ev rfl)) ?_); intro a hA
  refine LQ ?_
  refine TN ?_
  refine wp_seq ?_
  refine wp_seq ?_
  obtain ⟨o4, H3, H⟩ := Option.bind_eq_some_iff.1 H
  refine cutC (fun a w => ∃ (t2 : Bool), t2 = o4 ∧ w0 = w ∧ Has 12 [(0, (.int .i64 class_0)), (8, (.bool t2))] a) ?_ ?_
  · refine wp_region_lit ?_
    refine L1 (stv hA (by decide) (run_move (hA.ev rfl)) ?_); intro a hA
    refine L1 (stv hA (by decide) (run_bin (hA.ev rfl) (hA.ev rfl) (bin_lss _ _ _ _)) ?_); intro a hA
    refine L1 (stv hA (by decide) (run_move (hA.ev rfl)) ?_); intro a hA
    refine bsplit (b := (decide (class_0 < 0))) (fun hb5 => ?_) (fun hb5 => ?_)
    · replace H3 := ite_t hb5 H3
      have hA := hA.re (t := 5) rfl (congrArg Value.bool hb5)
      refine L1 (gate_off rfl (by decide) rfl hA (by decide) rfl rfl ?_); intro a hA
      refine L1 (gate_off rfl (by decide) rfl hA (by decide) rfl rfl ?_); intro a hA
      refine L1 (stv hA (by decide) (run_pick (hA.ev rfl) (fun _ => hA.ev rfl) (fun h => Bool.noConfusion h)) ?_); intro a hA
      refine LQ ?_
      exact ⟨true, Option.some.inj H3, rfl, ((hA.nil.cons (hA.get 8 _ rfl)).cons (hA.get 0 _ rfl))⟩
    · replace H3 := ite_f hb5 H3
      have hA := hA.re (t := 5) rfl (congrArg Value.bool hb5)
      refine L1 (gate_on rfl rfl hA (by decide) rfl (stv hA (by decide) (run_move (hA.ev rfl)) ?_)); intro a hA
      refine L1 (gate_on rfl rfl hA (by decide) rfl (stv hA (by decide) (run_bin (hA.ev rfl) (hA.ev rfl) (bin_geq _ _ _ _)) ?_)); intro a hA
      refine L1 (stv hA (by decide) (run_pick (hA.ev rfl) (fun h => Bool.noConfusion h) (fun _ => hA.ev rfl)) ?_); intro a hA
      refine LQ ?_
      exact ⟨(decide (class_0 ≥ 24)), Option.some.inj H3, rfl, ((hA.nil.cons (hA.get 8 _ rfl)).cons (hA.get 0 _ rfl))⟩
  rintro a _ ⟨t2, rfl, rfl, hA⟩
  try dsimp only at H
  refine TN ?_
  refine tcond (b := t2) hA rfl (fun hb7 => ?_) (fun hb7 => ?_)
  · replace H := ite_t hb7 H
    refine wp_seq ?_
    refine wp_region_lit ?_
    refine L1 (stv hA (by decide) (run_assign (hA.ev rfl)) ?_); intro a hA
    refine LQ ?_
    refine TN ?_
    refine wp_ret ?_
    cases H
    refine TR ?_
    exact ret_post1 (fn := Try.f10) hA rfl rfl ⟨_, rfl, rfl, hB0⟩
  · replace H := ite_f hb7 H
    refine wp_skip ?_
    refine TN ?_
    refine wp_seq ?_
    refine wp_region_lit ?_
    obtain ⟨r8, H9, H⟩ := Option.bind_eq_some_iff.1 H
    refine L1 (st_call Try.call24 hA [] rfl (by decide) (fees_bounds.calls _ _ _ H9) ?_)
    rintro _ w10 ⟨rfl, hE11⟩ a hA
    refine L1 (stv hA (by decide) (run_move (hA.ev rfl)) ?_); intro a hA
    obtain ⟨⟨hi12, hj13⟩, H⟩ := ite_some H
    refine L1 (stv hA (by decide) (run_index_vec Try.underlying49 Try.isAgg3 Try.sizeOf3 (hA.ev rfl) (hA.ev rfl) hi12 hj13) ?_); intro a hA
    refine L1 (stv hA (by decide) (run_assign (hA.ev rfl)) ?_); intro a hA
    refine LQ ?_
    refine TN ?_
    refine wp_ret ?_
    have hB14 := hB0.trans (hE11.mono hB0.size)
    cases H
    exact ret_post1 (fn := Try.f10) hA rfl rfl ⟨_, rfl, rfl, hB14⟩

def fees_Class.l0 (rate_0 : Int) (r1 : (Vector Int 24)) : Nat → Int → Int → Option (Int)
  | 0, _, _ => none
  | k + 1, t37, t38 => (if (decide (t38 < 24)) = true then (if 0 ≤ t38 ∧ t38 < (24 : Int) then (Option.bind (α := Int) (if (decide ((vg r1 t38) ≤ rate_0)) = true then (some t38) else (some t37)) (fun t48 => (fees_Class.l0 rate_0 r1 k t48 (IntKind.i64.wrap (t38 + 1))))) else none) else (some t37))
def fees_Class.f (k : Nat) (rate_0 : Int) : Option Int := ((fees_bounds.f k ).bind fun r1 => (Option.bind (α := Int) (fees_Class.l0 rate_0 r1 k (-1) 0) (fun t39 => (some t39))))
theorem fees_Class.calls (k : Nat) (rate_0 : Int)  (r : Int) (w0 : World)  (H : fees_Class.f k rate_0 = some r) :
    Calls Try.prog 12 #[(.int .i64 rate_0)] w0 fun e w' => ∃ v, e = .returned v ∧ v = (.int .i64 r) ∧ Below w0.heap.size w0 w' := by
  unfold fees_Class.f at H
  have hB0 := Below.refl w0.heap.size w0
  refine enterL (n := 17) [(.int .i64 rate_0)] Try.func12 rfl rfl rfl ?_
  intro a hA
  refine wp_seq ?_
  refine wp_region_lit ?_
  refine L1 (stv hA (by decide) (run_assign (hA.ev rfl)) ?_); intro a hA
  refine LQ ?_
  refine TN ?_
  refine wp_seq ?_
  refine wp_region_lit ?_
  refine L1 (stv hA (by decide) (run_assign (hA.ev rfl)) ?_); intro a hA
  refine LQ ?_
  refine TN ?_
  refine wp_seq ?_
  refine wp_seq ?_
  refine wp_region_lit ?_
  obtain ⟨r1, H2, H⟩ := Option.bind_eq_some_iff.1 H
  refine L1 (st_call Try.call24 hA [] rfl (by decide) (fees_bounds.calls _ _ _ H2) ?_)
  rintro _ w3 ⟨rfl, hE4⟩ a hA
  refine L1 (stv hA (by decide) (run_move (hA.ev rfl)) ?_); intro a hA
  refine LQ ?_
  refine TN ?_
  obtain ⟨o41, H40, H⟩ := Option.bind_eq_some_iff.1 H
  refine cutC (fun a w => ∃ (t39 : Int), t39 = o41 ∧ w3 = w ∧ Has 17 [(3, (.int .i64 t39))] a) ?_ ?_
  · refine wp_block ?_
    refine wp_loop_ghost (fun m a w => ∃ (t37 : Int) (t38 : Int), fees_Class.l0 rate_0 r1 m t37 t38 = some o41 ∧ w3 = w ∧ Has 17 [(0, (.int .i64 rate_0)), (3, (.int .i64 t37)), (6, (.agg (pA24i64.enc r1).toArray)), (7, (.int .i64 t38))] a) k ⟨(-1), 0, H40, rfl, ((((hA.nil.cons (hA.get 7 _ rfl)).cons (hA.get 6 _ rfl)).cons (hA.get 3 _ rfl)).cons (hA.get 0 _ rfl))⟩ ?_
    rintro m42 a _ ⟨t37, t38, H40, rfl, hA⟩
    cases m42 with
    | zero => exact absurd H40 (by simp [fees_Class.l0])
    | succ m42 =>
    rw [fees_Class.l0] at H40
    refine wp_seq ?_
    refine wp_region_lit ?_
    refine L1 (stv hA (by decide) (run_bin (hA.ev rfl) (hA.ev rfl) (bin_lss _ _ _ _)) ?_); intro a hA
    refine LQ ?_
    refine TN ?_
    refine wp_seq ?_
    refine tcond (b := (decide (t38 < 24))) hA rfl (fun hb44 => ?_) (fun hb44 => ?_)
    · replace H40 := ite_t hb44 H40
      refine wp_skip ?_
      refine TN ?_
      refine wp_seq ?_
      refine wp_block ?_
      refine wp_seq ?_
      refine wp_region_lit ?_
      refine L1 (stv hA (by decide) (run_move (hA.ev rfl)) ?_); intro a hA
      obtain ⟨⟨hi45, hj46⟩, H40⟩ := ite_some H40
      refine L1 (stv hA (by decide) (run_index_vec Try.underlying49 Try.isAgg3 Try.sizeOf3 (hA.ev rfl) (hA.ev rfl) hi45 hj46) ?_); intro a hA
      refine L1 (stv hA (by decide) (run_assign (hA.ev rfl)) ?_); intro a hA
      refine L1 (stv hA (by decide) (run_assign (hA.ev rfl)) ?_); intro a hA
      refine LQ ?_
      refine TN ?_
      refine wp_seq ?_
      refine wp_region_lit ?_
      refine L1 (stv hA (by decide) (run_move (hA.ev rfl)) ?_); intro a hA
      refine L1 (stv hA (by decide) (run_move (hA.ev rfl)) ?_); intro a hA
      refine L1 (stv hA (by decide) (run_bin (hA.ev rfl) (hA.ev rfl) (bin_leq _ _ _ _)) ?_); intro a hA
      refine LQ ?_
      refine TN ?_
      obtain ⟨o50, H49, H40⟩ := Option.bind_eq_some_iff.1 H40
      refine cutC (fun a w => ∃ (t48 : Int), t48 = o50 ∧ w3 = w ∧ Has 17 [(0, (.int .i64 rate_0)), (3, (.int .i64 t48)), (6, (.agg (pA24i64.enc r1).toArray)), (7, (.int .i64 t38))] a) ?_ ?_
      · refine tcond (b := (decide ((vg r1 t38) ≤ rate_0))) hA rfl (fun hb51 => ?_) (fun hb51 => ?_)
        · replace H49 := ite_t hb51 H49
          refine wp_region_lit ?_
          refine L1 (stv hA (by decide) (run_move (hA.ev rfl)) ?_); intro a hA
          refine L1 (stv hA (by decide) (run_assign (hA.ev rfl)) ?_); intro a hA
          refine LQ ?_
          exact ⟨t38, Option.some.inj H49, rfl, ((((hA.nil.cons (hA.get 7 _ rfl)).cons (hA.get 6 _ rfl)).cons (hA.get 3 _ rfl)).cons (hA.get 0 _ rfl))⟩
        · replace H49 := ite_f hb51 H49
          refine wp_skip ?_
          exact ⟨t37, Option.some.inj H49, rfl, ((((hA.nil.cons (hA.get 7 _ rfl)).cons (hA.get 6 _ rfl)).cons (hA.get 3 _ rfl)).cons (hA.get 0 _ rfl))⟩
      rintro a _ ⟨t48, rfl, rfl, hA⟩
      try dsimp only at H40
      refine BN ?_
      refine TN ?_
      refine wp_region_lit ?_
      refine L1 (stv hA (by decide) (run_bin (hA.ev rfl) (hA.ev rfl) (bin_add _ _ _ _)) ?_); intro a hA
      refine L1 (stv hA (by decide) (run_move (hA.ev rfl)) ?_); intro a hA
      refine LQ ?_
      exact ⟨_, Nat.lt_succ_self m42, t48, IntKind.i64.wrap (t38 + 1), H40, rfl, ((((hA.nil.cons (hA.get 7 _ rfl)).cons (hA.get 6 _ rfl)).cons (hA.get 3 _ rfl)).cons (hA.get 0 _ rfl))⟩
    · replace H40 := ite_f hb44 H40
      refine wp_exit ?_
      refine TX ?_
      refine TX ?_
      refine BX ?_
      exact ⟨t37, Option.some.inj H40, rfl, (hA.nil.cons (hA.get 3 _ rfl))⟩
  rintro a _ ⟨t39, rfl, rfl, hA⟩
  try dsimp only at H
  refine TN ?_
  refine wp_seq ?_
  refine wp_region_lit ?_
  refine L1 (stv hA (by decide) (run_move (hA.ev rfl)) ?_); intro a hA
  refine L1 (stv hA (by decide) (run_assign (hA.ev rfl)) ?_); intro a hA
  refine LQ ?_
  refine TN ?_
  refine wp_ret ?_
  have hB54 := hB0.trans (hE4.mono hB0.size)
  cases H
  exact ret_post1 (fn := Try.f12) hA rfl rfl ⟨_, rfl, rfl, hB54⟩

def law33_sane.f (k : Nat)  : Option Bool := (Option.bind (α := Bool) ((fees_Bound.f k 0).bind fun r33 => (if (r33 == 10) = true then ((fees_Bound.f k 3).bind fun r39 => (if (r39 == 33) = true then ((fees_Class.f k 21).bind fun r45 => (if (r45 == 1) = true then ((fees_Class.f k 9).bind fun r51 => (if (r51 == (-1)) = true then ((fees_Rate.f k 5 1000).bind fun r57 => (some (r57 == 5))) else (some false))) else (some false))) else (some false))) else (some false))) (fun t29 => (some t29)))
theorem law33_sane.calls (k : Nat)   (r : Bool) (w0 : World)  (H : law33_sane.f k  = some r) :
    Calls Try.prog 6 #[] w0 fun e w' => ∃ v, e = .returned v ∧ v = (.bool r) ∧ Below w0.heap.size w0 w' := by
  unfold law33_sane.f at H
  have hB0 := Below.refl w0.heap.size w0
  refine enterL (n := 19) [] Try.func6 rfl rfl rfl ?_
  intro a hA
  refine wp_seq ?_
  refine wp_region_lit ?_
  refine L1 (stv hA (by decide) (run_assign (hA.ev rfl)) ?_); intro a hA
  refine LQ ?_
  refine TN ?_
  refine wp_seq ?_
  obtain ⟨o31, H30, H⟩ := Option.bind_eq_some_iff.1 H
  refine cutC (fun a w => ∃ (t29 : Bool), t29 = o31 ∧ (Below w0.heap.size w0 w) ∧ Has 19 [(0, (.bool t29))] a) ?_ ?_
  · refine wp_region_lit ?_
    obtain ⟨r33, H34, H30⟩ := Option.bind_eq_some_iff.1 H30
    refine L1 (st_call Try.call10 hA [(.int .i64 0)] rfl (by decide) (fees_Bound.calls _ _ _ _ H34) ?_)
    rintro _ w35 ⟨rfl, hE36⟩ a hA
    refine L1 (stv hA (by decide) (run_bin (hA.ev rfl) (hA.ev rfl) (bin_eql _ _ _ _)) ?_); intro a hA
    refine L1 (stv hA (by decide) (run_move (hA.ev rfl)) ?_); intro a hA
    refine bsplit (b := (r33 == 10)) (fun hb37 => ?_) (fun hb37 => ?_)
    · replace H30 := ite_t hb37 H30
      have hA := hA.re (t := 3) rfl (congrArg Value.bool hb37)
      have hB38 := hB0.trans (hE36.mono hB0.size)
      obtain ⟨r39, H40, H30⟩ := Option.bind_eq_some_iff.1 H30
      refine L1 (gate_on rfl rfl hA (by decide) rfl (st_call Try.call10 hA [(.int .i64 3)] rfl (by decide) (fees_Bound.calls _ _ _ _ H40) ?_))
      rintro _ w41 ⟨rfl, hE42⟩ a hA
      refine L1 (gate_on rfl rfl hA (by decide) rfl (stv hA (by decide) (run_bin (hA.ev rfl) (hA.ev rfl) (bin_eql _ _ _ _)) ?_)); intro a hA
      refine L1 (stv hA (by decide) (run_pick (hA.ev rfl) (fun _ => hA.ev rfl) (fun h => Bool.noConfusion h)) ?_); intro a hA
      refine L1 (stv hA (by decide) (run_move (hA.ev rfl)) ?_); intro a hA
      refine bsplit (b := (r39 == 33)) (fun hb43 => ?_) (fun hb43 => ?_)
      · replace H30 := ite_t hb43 H30
        have hA := hA.re (t := 7) rfl (congrArg Value.bool hb43)
        have hB44 := hB38.trans (hE42.mono hB38.size)
        obtain ⟨r45, H46, H30⟩ := Option.bind_eq_some_iff.1 H30
        refine L1 (gate_on rfl rfl hA (by decide) rfl (st_call Try.call12 hA [(.int .i64 21)] rfl (by decide) (fees_Class.calls _ _ _ _ H46) ?_))
        rintro _ w47 ⟨rfl, hE48⟩ a hA
        refine L1 (gate_on rfl rfl hA (by decide) rfl (stv hA (by decide) (run_bin (hA.ev rfl) (hA.ev rfl) (bin_eql _ _ _ _)) ?_)); intro a hA
        refine L1 (stv hA (by decide) (run_pick (hA.ev rfl) (fun _ => hA.ev rfl) (fun h => Bool.noConfusion h)) ?_); intro a hA
        refine L1 (stv hA (by decide) (run_move (hA.ev rfl)) ?_); intro a hA
        refine bsplit (b := (r45 == 1)) (fun hb49 => ?_) (fun hb49 => ?_)
        · replace H30 := ite_t hb49 H30
          have hA := hA.re (t := 11) rfl (congrArg Value.bool hb49)
          have hB50 := hB44.trans (hE48.mono hB44.size)
          obtain ⟨r51, H52, H30⟩ := Option.bind_eq_some_iff.1 H30
          refine L1 (gate_on rfl rfl hA (by decide) rfl (st_call Try.call12 hA [(.int .i64 9)] rfl (by decide) (fees_Class.calls _ _ _ _ H52) ?_))
          rintro _ w53 ⟨rfl, hE54⟩ a hA
          refine L1 (gate_on rfl rfl hA (by decide) rfl (stv hA (by decide) (run_bin (hA.ev rfl) (hA.ev rfl) (bin_eql _ _ _ _)) ?_)); intro a hA
          refine L1 (stv hA (by decide) (run_pick (hA.ev rfl) (fun _ => hA.ev rfl) (fun h => Bool.noConfusion h)) ?_); intro a hA
          refine L1 (stv hA (by decide) (run_move (hA.ev rfl)) ?_); intro a hA
          refine bsplit (b := (r51 == (-1))) (fun hb55 => ?_) (fun hb55 => ?_)
          · replace H30 := ite_t hb55 H30
            have hA := hA.re (t := 15) rfl (congrArg Value.bool hb55)
            have hB56 := hB50.trans (hE54.mono hB50.size)
            obtain ⟨r57, H58, H30⟩ := Option.bind_eq_some_iff.1 H30
            refine L1 (gate_on rfl rfl hA (by decide) rfl (st_call Try.call8 hA [(.int .i64 5), (.int .i64 1000)] rfl (by decide) (fees_Rate.calls _ _ _ _ _ H58) ?_))
            rintro _ w59 ⟨rfl, hE60⟩ a hA
            refine L1 (gate_on rfl rfl hA (by decide) rfl (stv hA (by decide) (run_bin (hA.ev rfl) (hA.ev rfl) (bin_eql _ _ _ _)) ?_)); intro a hA
            refine L1 (stv hA (by decide) (run_pick (hA.ev rfl) (fun _ => hA.ev rfl) (fun h => Bool.noConfusion h)) ?_); intro a hA
            refine L1 (stv hA (by decide) (run_assign (hA.ev rfl)) ?_); intro a hA
            refine LQ ?_
            have hB61 := hB56.trans (hE60.mono hB56.size)
            exact ⟨(r57 == 5), Option.some.inj H30, hB61, (hA.nil.cons (hA.get 0 _ rfl))⟩
          · replace H30 := ite_f hb55 H30
            have hA := hA.re (t := 15) rfl (congrArg Value.bool hb55)
            refine L1 (gate_off rfl (by decide) rfl hA (by decide) rfl rfl ?_); intro a hA
            refine L1 (gate_off rfl (by decide) rfl hA (by decide) rfl rfl ?_); intro a hA
            refine L1 (stv hA (by decide) (run_pick (hA.ev rfl) (fun h => Bool.noConfusion h) (fun _ => hA.ev rfl)) ?_); intro a hA
            refine L1 (stv hA (by decide) (run_assign (hA.ev rfl)) ?_); intro a hA
            refine LQ ?_
            have hB62 := hB50.trans (hE54.mono hB50.size)
            exact ⟨false, Option.some.inj H30, hB62, (hA.nil.cons (hA.get 0 _ rfl))⟩
        · replace H30 := ite_f hb49 H30
          have hA := hA.re (t := 11) rfl (congrArg Value.bool hb49)
          refine L1 (gate_off rfl (by decide) rfl hA (by decide) rfl rfl ?_); intro a hA
          refine L1 (gate_off rfl (by decide) rfl hA (by decide) rfl rfl ?_); intro a hA
          refine L1 (stv hA (by decide) (run_pick (hA.ev rfl) (fun h => Bool.noConfusion h) (fun _ => hA.ev rfl)) ?_); intro a hA
          refine L1 (stv hA (by decide) (run_move (hA.ev rfl)) ?_); intro a hA
          refine L1 (gate_off rfl (by decide) rfl hA (by decide) rfl rfl ?_); intro a hA
          refine L1 (gate_off rfl (by decide) rfl hA (by decide) rfl rfl ?_); intro a hA
          refine L1 (stv hA (by decide) (run_pick (hA.ev rfl) (fun h => Bool.noConfusion h) (fun _ => hA.ev rfl)) ?_); intro a hA
          refine L1 (stv hA (by decide) (run_assign (hA.ev rfl)) ?_); intro a hA
          refine LQ ?_
          have hB63 := hB44.trans (hE48.mono hB44.size)
          exact ⟨false, Option.some.inj H30, hB63, (hA.nil.cons (hA.get 0 _ rfl))⟩
      · replace H30 := ite_f hb43 H30
        have hA := hA.re (t := 7) rfl (congrArg Value.bool hb43)
        refine L1 (gate_off rfl (by decide) rfl hA (by decide) rfl rfl ?_); intro a hA
        refine L1 (gate_off rfl (by decide) rfl hA (by decide) rfl rfl ?_); intro a hA
        refine L1 (stv hA (by decide) (run_pick (hA.ev rfl) (fun h => Bool.noConfusion h) (fun _ => hA.ev rfl)) ?_); intro a hA
        refine L1 (stv hA (by decide) (run_move (hA.ev rfl)) ?_); intro a hA
        refine L1 (gate_off rfl (by decide) rfl hA (by decide) rfl rfl ?_); intro a hA
        refine L1 (gate_off rfl (by decide) rfl hA (by decide) rfl rfl ?_); intro a hA
        refine L1 (stv hA (by decide) (run_pick (hA.ev rfl) (fun h => Bool.noConfusion h) (fun _ => hA.ev rfl)) ?_); intro a hA
        refine L1 (stv hA (by decide) (run_move (hA.ev rfl)) ?_); intro a hA
        refine L1 (gate_off rfl (by decide) rfl hA (by decide) rfl rfl ?_); intro a hA
        refine L1 (gate_off rfl (by decide) rfl hA (by decide) rfl rfl ?_); intro a hA
        refine L1 (stv hA (by decide) (run_pick (hA.ev rfl) (fun h => Bool.noConfusion h) (fun _ => hA.ev rfl)) ?_); intro a hA
        refine L1 (stv hA (by decide) (run_assign (hA.ev rfl)) ?_); intro a hA
        refine LQ ?_
        have hB64 := hB38.trans (hE42.mono hB38.size)
        exact ⟨false, Option.some.inj H30, hB64, (hA.nil.cons (hA.get 0 _ rfl))⟩
    · replace H30 := ite_f hb37 H30
      have hA := hA.re (t := 3) rfl (congrArg Value.bool hb37)
      refine L1 (gate_off rfl (by decide) rfl hA (by decide) rfl rfl ?_); intro a hA
      refine L1 (gate_off rfl (by decide) rfl hA (by decide) rfl rfl ?_); intro a hA
      refine L1 (stv hA (by decide) (run_pick (hA.ev rfl) (fun h => Bool.noConfusion h) (fun _ => hA.ev rfl)) ?_); intro a hA
      refine L1 (stv hA (by decide) (run_move (hA.ev rfl)) ?_); intro a hA
      refine L1 (gate_off rfl (by decide) rfl hA (by decide) rfl rfl ?_); intro a hA
      refine L1 (gate_off rfl (by decide) rfl hA (by decide) rfl rfl ?_); intro a hA
      refine L1 (stv hA (by decide) (run_pick (hA.ev rfl) (fun h => Bool.noConfusion h) (fun _ => hA.ev rfl)) ?_); intro a hA
      refine L1 (stv hA (by decide) (run_move (hA.ev rfl)) ?_); intro a hA
      refine L1 (gate_off rfl (by decide) rfl hA (by decide) rfl rfl ?_); intro a hA
      refine L1 (gate_off rfl (by decide) rfl hA (by decide) rfl rfl ?_); intro a hA
      refine L1 (stv hA (by decide) (run_pick (hA.ev rfl) (fun h => Bool.noConfusion h) (fun _ => hA.ev rfl)) ?_); intro a hA
      refine L1 (stv hA (by decide) (run_move (hA.ev rfl)) ?_); intro a hA
      refine L1 (gate_off rfl (by decide) rfl hA (by decide) rfl rfl ?_); intro a hA
      refine L1 (gate_off rfl (by decide) rfl hA (by decide) rfl rfl ?_); intro a hA
      refine L1 (stv hA (by decide) (run_pick (hA.ev rfl) (fun h => Bool.noConfusion h) (fun _ => hA.ev rfl)) ?_); intro a hA
      refine L1 (stv hA (by decide) (run_assign (hA.ev rfl)) ?_); intro a hA
      refine LQ ?_
      have hB65 := hB0.trans (hE36.mono hB0.size)
      exact ⟨false, Option.some.inj H30, hB65, (hA.nil.cons (hA.get 0 _ rfl))⟩
  rintro a w66 ⟨t29, rfl, hB32, hA⟩
  try dsimp only at H
  refine TN ?_
  refine wp_ret ?_
  cases H
  exact ret_post1 (fn := Try.f6) hA rfl rfl ⟨_, rfl, rfl, hB32⟩

def mill_Mod.f (k : Nat) (v_0 : Int) (n_1 : Int) : Option Int := (if ¬ n_1 = 0 then (Option.bind (α := Int) (if (decide ((v_0.tmod n_1) < 0)) = true then (some (IntKind.i64.wrap ((v_0.tmod n_1) + n_1))) else (some (v_0.tmod n_1))) (fun r3 => (some r3))) else none)
theorem mill_Mod.calls (k : Nat) (v_0 : Int) (n_1 : Int)  (r : Int) (w0 : World)  (H : mill_Mod.f k v_0 n_1 = some r) :
    Calls Try.prog 7 #[(.int .i64 v_0), (.int .i64 n_1)] w0 fun e w' => ∃ v, e = .returned v ∧ v = (.int .i64 r) ∧ Below w0.heap.size w0 w' := by
  unfold mill_Mod.f at H
  have hB0 := Below.refl w0.heap.size w0
  refine enterL (n := 15) [(.int .i64 v_0), (.int .i64 n_1)] Try.func7 rfl rfl rfl ?_
  intro a hA
  refine wp_seq ?_
  refine wp_region_lit ?_
  refine L1 (stv hA (by decide) (run_assign (hA.ev rfl)) ?_); intro a hA
  refine LQ ?_
  refine TN ?_
  refine wp_seq ?_
  refine wp_region_lit ?_
  refine L1 (stv hA (by decide) (run_move (hA.ev rfl)) ?_); intro a hA
  refine L1 (stv hA (by decide) (run_move (hA.ev rfl)) ?_); intro a hA
  obtain ⟨hd1, H⟩ := ite_some H
  refine L1 (stv hA (by decide) (run_bin (hA.ev rfl) (hA.ev rfl) (bin_rem _ _ _ _ hd1)) ?_); intro a hA
  refine L1 (stv hA (by decide) (run_assign (hA.ev rfl)) ?_); intro a hA
  refine LQ ?_
  refine TN ?_
  refine wp_seq ?_
  refine wp_seq ?_
  refine wp_region_lit ?_
  refine L1 (stv hA (by decide) (run_move (hA.ev rfl)) ?_); intro a hA
  refine L1 (stv hA (by decide) (run_bin (hA.ev rfl) (hA.ev rfl) (bin_lss _ _ _ _)) ?_); intro a hA
  refine LQ ?_
  refine TN ?_
  obtain ⟨o5, H4, H⟩ := Option.bind_eq_some_iff.1 H
  refine cutC (fun a w => ∃ (r3 : Int), r3 = o5 ∧ w0 = w ∧ Has 15 [(5, (.int .i64 r3))] a) ?_ ?_
  · refine tcond (b := (decide ((v_0.tmod n_1) < 0))) hA rfl (fun hb6 => ?_) (fun hb6 => ?_)
    · replace H4 := ite_t hb6 H4
      refine wp_region_lit ?_
      refine L1 (stv hA (by decide) (run_move (hA.ev rfl)) ?_); intro a hA
      refine L1 (stv hA (by decide) (run_move (hA.ev rfl)) ?_); intro a hA
      refine L1 (stv hA (by decide) (run_bin (hA.ev rfl) (hA.ev rfl) (bin_add _ _ _ _)) ?_); intro a hA
      refine L1 (stv hA (by decide) (run_assign (hA.ev rfl)) ?_); intro a hA
      refine LQ ?_
      exact ⟨IntKind.i64.wrap ((v_0.tmod n_1) + n_1), Option.some.inj H4, rfl, (hA.nil.cons (hA.get 5 _ rfl))⟩
    · replace H4 := ite_f hb6 H4
      refine wp_skip ?_
      exact ⟨v_0.tmod n_1, Option.some.inj H4, rfl, (hA.nil.cons (hA.get 5 _ rfl))⟩
  rintro a _ ⟨r3, rfl, rfl, hA⟩
  try dsimp only at H
  refine TN ?_
  refine wp_seq ?_
  refine wp_region_lit ?_
  refine L1 (stv hA (by decide) (run_move (hA.ev rfl)) ?_); intro a hA
  refine L1 (stv hA (by decide) (run_assign (hA.ev rfl)) ?_); intro a hA
  refine LQ ?_
  refine TN ?_
  refine wp_ret ?_
  cases H
  exact ret_post1 (fn := Try.f7) hA rfl rfl ⟨_, rfl, rfl, hB0⟩

def mill_Deck_Left.f (k : Nat) (d_0_L : (List Int)) (d_0_At : Int) : Option (Bool × Int) := (some ((decide (d_0_At < (d_0_L.length : Int))), d_0_At))
theorem mill_Deck_Left.calls (k : Nat) (d_0_L : (List Int)) (d_0_At : Int) (A0_0 : Option Addr) (c0_0 : Nat) (g : Nat) (wb : World) (r : (Bool × Int)) (w0 : World) (hX : w0.heap[g]? = some (.cells #[(.slice A0_0 d_0_L.length c0_0), (.int .i64 d_0_At)] 53 (0, 0))) (hge : wb.heap.size ≤ g) (hB : Below wb.heap.size wb w0) (hr0_0 : Row (Pl.int .i64) wb A0_0 d_0_L) (H : mill_Deck_Left.f k d_0_L d_0_At = some r) :
    Calls Try.prog 32 #[(.pointer (some (⟨g, 0, none⟩)))] w0 fun e w' => ∃ v, e = .returned v ∧ v = (.bool r.1) ∧ w'.heap[g]? = some (.cells #[(.slice A0_0 d_0_L.length c0_0), (.int .i64 r.2)] 53 (0, 0)) ∧ w0.grownBy w' (some g) := by
  unfold mill_Deck_Left.f at H
  have hK0 := grown_refl w0 (some g)
  refine enterL (n := 13) [(.pointer (some (⟨g, 0, none⟩)))] Try.func32 rfl rfl rfl ?_
  intro a hA
  refine wp_seq ?_
  refine wp_region_lit ?_
  refine L1 (stv hA (by decide) (run_assign (hA.ev rfl)) ?_); intro a hA
  refine LQ ?_
  refine TN ?_
  refine wp_seq ?_
  refine draw (fun w' => Below w0.heap.size w0 w') [] rfl ?_
  intro w1 hw hS
  have hE2 := hS
  clear hw
  refine d_takef (i := 0) (L' := #[true, false, false, false, false, false, false, false, false, false, false]) rfl (by kernel_rfl) rfl (fun _ _ _ h => h) hA (by decide) (fun _ => hS) (fun a w' hA => run_move (hA.ev rfl)) ?_; intro a hA
  refine d_takef (i := 1) (L' := #[true, true, false, false, false, false, false, false, false, false, false]) rfl (by kernel_rfl) rfl (fun _ _ _ h => h) hA (by decide) (fun _ => hS) (fun a w' hA => run_nilchk (hA.ev rfl)) ?_; intro a hA
  refine d_takef (i := 2) (L' := #[true, true, true, false, false, false, false, false, false, false, false]) rfl (by kernel_rfl) rfl (fun _ _ _ h => h) hA (by decide) (fun _ => hS) (fun a w' hA => run_field' Try.underlying53 rfl rfl Try.sizeOf3 (by decide) (hA.ev rfl)) ?_; intro a hA
  refine d_take (i := 3) (L' := #[true, true, true, true, false, false, false, false, false, false, false]) rfl (by kernel_rfl) rfl (fun _ _ _ h => h) hA (by decide) rfl hS (fun a w' hA hS' => run_ld (hA.ev rfl) (run_loadS Try.isAgg3 (((At.seg1 (At.box hX) 1 rfl)).ext fun b h => hS'.block b h))) ?_; intro a hA
  refine d_takef (i := 4) (L' := #[true, true, true, true, true, false, false, false, false, false, false]) rfl (by kernel_rfl) rfl (fun _ _ _ h => h) hA (by decide) (fun _ => hS) (fun a w' hA => run_move (hA.ev rfl)) ?_; intro a hA
  refine d_takef (i := 5) (L' := #[true, true, true, true, true, true, false, false, false, false, false]) rfl (by kernel_rfl) rfl (fun _ _ _ h => h) hA (by decide) (fun _ => hS) (fun a w' hA => run_nilchk (hA.ev rfl)) ?_; intro a hA
  refine d_takef (i := 6) (L' := #[true, true, true, true, true, true, true, false, false, false, false]) rfl (by kernel_rfl) rfl (fun _ _ _ h => h) hA (by decide) (fun _ => hS) (fun a w' hA => run_field' Try.underlying53 rfl rfl Try.sizeOf24 (by decide) (hA.ev rfl)) ?_; intro a hA
  refine d_take (i := 7) (L' := #[true, true, true, true, true, true, true, true, false, false, false]) rfl (by kernel_rfl) rfl (fun _ _ _ h => h) hA (by decide) rfl hS (fun a w' hA hS' => run_ld (hA.ev rfl) (run_loadS Try.isAgg24 (((At.seg1 (At.box hX) 0 rfl)).ext fun b h => hS'.block b h))) ?_; intro a hA
  refine d_takef (i := 8) (L' := #[true, true, true, true, true, true, true, true, true, false, false]) rfl (by kernel_rfl) rfl (fun _ _ _ h => h) hA (by decide) (fun _ => hS) (fun a w' hA => run_len_slice Try.underlying24 (hA.ev rfl)) ?_; intro a hA
  refine d_takef (i := 9) (L' := #[true, true, true, true, true, true, true, true, true, true, false]) rfl (by kernel_rfl) rfl (fun _ _ _ h => h) hA (by decide) (fun _ => hS) (fun a w' hA => run_bin (hA.ev rfl) (hA.ev rfl) (bin_lss _ _ _ _)) ?_; intro a hA
  refine d_takef (i := 10) (L' := #[true, true, true, true, true, true, true, true, true, true, true]) rfl (by kernel_rfl) rfl (fun _ _ _ h => h) hA (by decide) (fun _ => hS) (fun a w' hA => run_assign (hA.ev rfl)) ?_; intro a hA
  refine d_done (by kernel_rfl) ?_
  refine TN ?_
  refine wp_ret ?_
  have hK3 := grown_E hK0 hE2
  have h4 := (hE2.block _ (lt_some hX)).trans hX
  cases H
  exact ret_post1 (fn := Try.f32) hA rfl rfl ⟨_, rfl, rfl, h4, hK3⟩

def mill_Deck_Next.f (k : Nat) (d_0_L : (List Int)) (d_0_At : Int) (n_1 : Int) : Option (Int × Int) := ((mill_Deck_Left.f k d_0_L d_0_At).bind fun r1 => (if (!r1.1) = true then (some (0, r1.2)) else (if 0 ≤ IntKind.i64.wrap ((IntKind.i64.wrap (r1.2 + 1)) - 1) ∧ IntKind.i64.wrap ((IntKind.i64.wrap (r1.2 + 1)) - 1) < (d_0_L.length : Int) then ((mill_Mod.f k (d_0_L.getD (IntKind.i64.wrap ((IntKind.i64.wrap (r1.2 + 1)) - 1)).toNat (0 : Int)) n_1).bind fun r26 => (some (r26, IntKind.i64.wrap (r1.2 + 1)))) else none)))
theorem mill_Deck_Next.calls (k : Nat) (d_0_L : (List Int)) (d_0_At : Int) (n_1 : Int) (A0_0 : Option Addr) (c0_0 : Nat) (g : Nat) (wb : World) (r : (Int × Int)) (w0 : World) (hX : w0.heap[g]? = some (.cells #[(.slice A0_0 d_0_L.length c0_0), (.int .i64 d_0_At)] 53 (0, 0))) (hge : wb.heap.size ≤ g) (hB : Below wb.heap.size wb w0) (hr0_0 : Row (Pl.int .i64) wb A0_0 d_0_L) (H : mill_Deck_Next.f k d_0_L d_0_At n_1 = some r) :
    Calls Try.prog 18 #[(.pointer (some (⟨g, 0, none⟩))), (.int .i64 n_1)] w0 fun e w' => ∃ v, e = .returned v ∧ v = (.int .i64 r.1) ∧ w'.heap[g]? = some (.cells #[(.slice A0_0 d_0_L.length c0_0), (.int .i64 r.2)] 53 (0, 0)) ∧ w0.grownBy w' (some g) := by
  unfold mill_Deck_Next.f at H
  have hK0 := grown_refl w0 (some g)
  refine enterL (n := 28) [(.pointer (some (⟨g, 0, none⟩))), (.int .i64 n_1)] Try.func18 rfl rfl rfl ?_
  intro a hA
  refine wp_seq ?_
  refine wp_region_lit ?_
  refine L1 (stv hA (by decide) (run_assign (hA.ev rfl)) ?_); intro a hA
  refine LQ ?_
  refine TN ?_
  refine wp_seq ?_
  refine wp_seq ?_
  refine wp_region_lit ?_
  refine L1 (stv hA (by decide) (run_move (hA.ev rfl)) ?_); intro a hA
  obtain ⟨r1, H2, H⟩ := Option.bind_eq_some_iff.1 H
  refine L1 (st_call Try.call32 hA [(.pointer (some (⟨g, 0, none⟩)))] rfl (by decide) (mill_Deck_Left.calls _ _ _ _ _ _ _ _ _ (hX) (hge) (hB) (hr0_0) H2) ?_)
  rintro _ w3 ⟨rfl, hX5, hE4⟩ a hA
  refine L1 (stv hA (by decide) (run_not (hA.ev rfl)) ?_); intro a hA
  refine LQ ?_
  refine TN ?_
  refine tcond (b := (!r1.1)) hA rfl (fun hb6 => ?_) (fun hb6 => ?_)
  · replace H := ite_t hb6 H
    refine wp_seq ?_
    refine wp_region_lit ?_
    refine L1 (stv hA (by decide) (run_assign (hA.ev rfl)) ?_); intro a hA
    refine LQ ?_
    refine TN ?_
    refine wp_ret ?_
    have hK7 := grown_trans hK0 hE4
    cases H
    refine TR ?_
    exact ret_post1 (fn := Try.f18) hA rfl rfl ⟨_, rfl, rfl, hX5, hK7⟩
  · replace H := ite_f hb6 H
    refine wp_skip ?_
    refine TN ?_
    refine wp_seq ?_
    refine wp_region_lit ?_
    refine L1 (stv hA (by decide) (run_move (hA.ev rfl)) ?_); intro a hA
    refine L1 (stv hA (by decide) (run_nilchk (hA.ev rfl)) ?_); intro a hA
    refine L1 (stv hA (by decide) (run_field' Try.underlying53 rfl rfl Try.sizeOf3 (by decide) (hA.ev rfl)) ?_); intro a hA
    refine L1 (stv hA (by decide) (run_ld (hA.ev rfl) (run_loadS Try.isAgg3 (At.seg1 (At.box hX5) 1 rfl))) ?_); intro a hA
    refine L1 (stv hA (by decide) (run_bin (hA.ev rfl) (hA.ev rfl) (bin_add _ _ _ _)) ?_); intro a hA
    refine L1 (stv hA (by decide) (run_nilchk (hA.ev rfl)) ?_); intro a hA
    refine L1 (stv hA (by decide) (run_field' Try.underlying53 rfl rfl Try.sizeOf3 (by decide) (hA.ev rfl)) ?_); intro a hA
    have hB8 := hB.grown hE4 hB.size (fun k hk => by cases hk; exact hge)
    refine L1 (st_store (g := g) (off := 1) (cur := #[(.slice A0_0 d_0_L.length c0_0), (.int .i64 r1.2)]) Try.sizeOf3 hA rfl (by simp [add_mk]) rfl (by rfl) (one_val rfl) hX5 (Nat.le_of_ble_eq_true rfl) ?_)
    intro w9 hX10 hU11 hz12 a hA
    replace hX10 : w9.heap[g]? = some (.cells #[(.slice A0_0 d_0_L.length c0_0), (.int .i64 (IntKind.i64.wrap (r1.2 + 1)))] 53 (0, 0)) := hX10.trans (congrArg (fun c => some (Obj.cells c 53 (0, 0))) (rfl))
    refine LQ ?_
    refine TN ?_
    refine wp_seq ?_
    have hB13 := hB8.grown hU11 hB8.size (fun k hk => by cases hk; exact hge)
    refine draw (fun w' => Below w9.heap.size w9 w') [] rfl ?_
    intro w14 hw hS
    have hE15 := hS
    clear hw
    refine d_takef (i := 0) (L' := #[true, false, false, false, false, false, false, false, false, false, false, false, false, false]) rfl (by kernel_rfl) rfl (fun _ _ _ h => h) hA (by decide) (fun _ => hS) (fun a w' hA => run_move (hA.ev rfl)) ?_; intro a hA
    refine d_takef (i := 1) (L' := #[true, true, false, false, false, false, false, false, false, false, false, false, false, false]) rfl (by kernel_rfl) rfl (fun _ _ _ h => h) hA (by decide) (fun _ => hS) (fun a w' hA => run_nilchk (hA.ev rfl)) ?_; intro a hA
    refine d_takef (i := 2) (L' := #[true, true, true, false, false, false, false, false, false, false, false, false, false, false]) rfl (by kernel_rfl) rfl (fun _ _ _ h => h) hA (by decide) (fun _ => hS) (fun a w' hA => run_field' Try.underlying53 rfl rfl Try.sizeOf24 (by decide) (hA.ev rfl)) ?_; intro a hA
    refine d_take (i := 3) (L' := #[true, true, true, true, false, false, false, false, false, false, false, false, false, false]) rfl (by kernel_rfl) rfl (fun _ _ _ h => h) hA (by decide) rfl hS (fun a w' hA hS' => run_ld (hA.ev rfl) (run_loadS Try.isAgg24 (((At.seg1 (At.box hX10) 0 rfl)).ext fun b h => hS'.block b h))) ?_; intro a hA
    refine d_takef (i := 4) (L' := #[true, true, true, true, true, false, false, false, false, false, false, false, false, false]) rfl (by kernel_rfl) rfl (fun _ _ _ h => h) hA (by decide) (fun _ => hS) (fun a w' hA => run_move (hA.ev rfl)) ?_; intro a hA
    refine d_takef (i := 5) (L' := #[true, true, true, true, true, true, false, false, false, false, false, false, false, false]) rfl (by kernel_rfl) rfl (fun _ _ _ h => h) hA (by decide) (fun _ => hS) (fun a w' hA => run_nilchk (hA.ev rfl)) ?_; intro a hA
    refine d_takef (i := 6) (L' := #[true, true, true, true, true, true, true, false, false, false, false, false, false, false]) rfl (by kernel_rfl) rfl (fun _ _ _ h => h) hA (by decide) (fun _ => hS) (fun a w' hA => run_field' Try.underlying53 rfl rfl Try.sizeOf3 (by decide) (hA.ev rfl)) ?_; intro a hA
    refine d_take (i := 7) (L' := #[true, true, true, true, true, true, true, true, false, false, false, false, false, false]) rfl (by kernel_rfl) rfl (fun _ _ _ h => h) hA (by decide) rfl hS (fun a w' hA hS' => run_ld (hA.ev rfl) (run_loadS Try.isAgg3 (((At.seg1 (At.box hX10) 1 rfl)).ext fun b h => hS'.block b h))) ?_; intro a hA
    refine d_takef (i := 8) (L' := #[true, true, true, true, true, true, true, true, true, false, false, false, false, false]) rfl (by kernel_rfl) rfl (fun _ _ _ h => h) hA (by decide) (fun _ => hS) (fun a w' hA => run_bin (hA.ev rfl) (hA.ev rfl) (bin_sub _ _ _ _)) ?_; intro a hA
    obtain ⟨⟨hi16, hj17⟩, H⟩ := ite_some H
    obtain ⟨ad18, hq19, hat20⟩ := (hr0_0.ext hB13).elem (0 : Int) (IntKind.i64.wrap ((IntKind.i64.wrap (r1.2 + 1)) - 1)) hi16 hj17
    refine d_takef (i := 9) (L' := #[true, true, true, true, true, true, true, true, true, true, false, false, false, false]) rfl (by kernel_rfl) rfl (fun _ _ _ h => h) hA (by decide) (fun _ => hS) (fun a w' hA => run_idx Try.underlying24 Try.sizeOf3 (hA.ev rfl) hq19 (hA.ev rfl) hi16 hj17) ?_; intro a hA
    refine d_take (i := 10) (L' := #[true, true, true, true, true, true, true, true, true, true, true, false, false, false]) rfl (by kernel_rfl) rfl (fun _ _ _ h => h) hA (by decide) rfl hS (fun a w' hA hS' => run_ld (hA.ev rfl) (run_loadS Try.isAgg3 ((hat20).ext fun b h => hS'.block b h))) ?_; intro a hA
    refine d_takef (i := 11) (L' := #[true, true, true, true, true, true, true, true, true, true, true, true, false, false]) rfl (by kernel_rfl) rfl (fun _ _ _ h => h) hA (by decide) (fun _ => hS) (fun a w' hA => run_move (hA.ev rfl)) ?_; intro a hA
    have hB21 := hB13.trans (hE15.mono hB13.size)
    have hK22 := grown_trans hK0 hE4
    have hK23 := grown_trans hK22 hU11
    have hK24 := grown_E hK23 hE15
    have h25 := (hE15.block _ (lt_some hX10)).trans hX10
    obtain ⟨r26, H27, H⟩ := Option.bind_eq_some_iff.1 H
    refine d_one (i := 12) (L' := #[true, true, true, true, true, true, true, true, true, true, true, true, true, false]) (by kernel_rfl) rfl rfl (st_call Try.call7 hA [(.int .i64 (d_0_L.getD (IntKind.i64.wrap ((IntKind.i64.wrap (r1.2 + 1)) - 1)).toNat (0 : Int))), (.int .i64 n_1)] rfl (by decide) (mill_Mod.calls _ _ _ _ _ H27) ?_)
    rintro _ w28 ⟨rfl, hE29⟩ a hA
    replace hS := hS.trans (hE29.mono hS.size)
    refine ⟨fun _ => hS, ?_⟩
    refine d_takef (i := 13) (L' := #[true, true, true, true, true, true, true, true, true, true, true, true, true, true]) rfl (by kernel_rfl) rfl (fun _ _ _ h => h) hA (by decide) (fun _ => hS) (fun a w' hA => run_assign (hA.ev rfl)) ?_; intro a hA
    refine d_done (by kernel_rfl) ?_
    refine TN ?_
    refine wp_ret ?_
    have hK30 := grown_E hK24 hE29
    have h31 := (hE29.block _ (lt_some h25)).trans h25
    cases H
    exact ret_post1 (fn := Try.f18) hA rfl rfl ⟨_, rfl, rfl, h31, hK30⟩

def mill_Hash.f (k : Nat) (d_0_L : (List Int)) (d_0_At : Int) : Option ((Vector Int 32) × Int) := ((mill_Deck_Next.f k d_0_L d_0_At 5).bind fun r15 => ((mill_Deck_Next.f k d_0_L r15.2 7).bind fun r23 => (some (((((Vector.replicate 32 0 : Vector Int 32).setIfInBounds 0 (IntKind.u8.wrap r15.1)).setIfInBounds 31 (IntKind.u8.wrap r23.1))), r23.2))))
theorem mill_Hash.calls (k : Nat) (d_0_L : (List Int)) (d_0_At : Int) (A0_0 : Option Addr) (c0_0 : Nat) (g : Nat) (wb : World) (r : ((Vector Int 32) × Int)) (w0 : World) (hX : w0.heap[g]? = some (.cells #[(.slice A0_0 d_0_L.length c0_0), (.int .i64 d_0_At)] 53 (0, 0))) (hge : wb.heap.size ≤ g) (hB : Below wb.heap.size wb w0) (hr0_0 : Row (Pl.int .i64) wb A0_0 d_0_L) (H : mill_Hash.f k d_0_L d_0_At = some r) :
    Calls Try.prog 27 #[(.pointer (some (⟨g, 0, none⟩)))] w0 fun e w' => ∃ v, e = .returned v ∧ v = (.agg (pHash.enc r.1).toArray) ∧ w'.heap[g]? = some (.cells #[(.slice A0_0 d_0_L.length c0_0), (.int .i64 r.2)] 53 (0, 0)) ∧ w0.grownBy w' (some g) := by
  unfold mill_Hash.f at H
  have hK0 := grown_refl w0 (some g)
  refine enterL (n := 10) [(.pointer (some (⟨g, 0, none⟩)))] Try.func27 rfl rfl rfl ?_
  intro a hA
  refine wp_seq ?_
  refine wp_region_lit ?_
  refine L1 (st_alloc (cs := (pHash.enc (Vector.replicate 32 0 : Vector Int 32)).toArray) zero33 rfl hA (by decide) ?_)
  intro w2 g1 hg3 hz4 hX5 hE6 a hA
  have ge8 : _ ≤ g1 := Nat.le_trans hB.size (Nat.le_of_eq hg3.symm)
  have gw9 : w0.heap.size ≤ g1 := Nat.le_trans hK0.size (Nat.le_of_eq hg3.symm)
  have sp10 := sep_lt (lt_box hX) hg3
  have lg11 : g < g1 := hg3 ▸ (lt_box hX) _ rfl
  refine LQ ?_
  refine TN ?_
  refine wp_seq ?_
  refine wp_region_lit ?_
  refine L1 (stv hA (by decide) (run_move (hA.ev rfl)) ?_); intro a hA
  have hB12 := hB.trans (hE6.mono hB.size)
  have hK13 := grown_E hK0 hE6
  have h14 := (hE6.block _ (lt_some hX)).trans hX
  obtain ⟨r15, H16, H⟩ := Option.bind_eq_some_iff.1 H
  refine L1 (st_call Try.call18 hA [(.pointer (some (⟨g, 0, none⟩))), (.int .i64 5)] rfl (by decide) (mill_Deck_Next.calls _ _ _ _ _ _ _ _ _ _ (h14) (hge) (hB12) (hr0_0) H16) ?_)
  rintro _ w17 ⟨rfl, hX19, hE18⟩ a hA
  refine L1 (stv hA (by decide) (run_conv Try.underlying3 Try.underlying5 (hA.ev rfl)) ?_); intro a hA
  refine L1 (stv hA (by decide) (run_move (hA.ev rfl)) ?_); intro a hA
  have hB20 := hB12.grown hE18 hB12.size (fun k hk => by cases hk; exact hge)
  have hK21 := grown_trans hK13 hE18
  have h22 := (hE18.block _ (lt_some hX5) (sep_box (by omega) _ rfl)).trans hX5
  obtain ⟨r23, H24, H⟩ := Option.bind_eq_some_iff.1 H
  refine L1 (st_call Try.call18 hA [(.pointer (some (⟨g, 0, none⟩))), (.int .i64 7)] rfl (by decide) (mill_Deck_Next.calls _ _ _ _ _ _ _ _ _ _ (hX19) (hge) (hB20) (hr0_0) H24) ?_)
  rintro _ w25 ⟨rfl, hX27, hE26⟩ a hA
  refine L1 (stv hA (by decide) (run_conv Try.underlying3 Try.underlying5 (hA.ev rfl)) ?_); intro a hA
  refine L1 (stv hA (by decide) (run_build_arr [(0, (.int .u8 (IntKind.u8.wrap r15.1))), (31, (.int .u8 (IntKind.u8.wrap r23.1)))] zero33 Try.underlying33 Try.sizeOf5 hA rfl (fill_step rfl rfl (enc_fit _ _ rfl) (vec_splice' _ _ _ (by decide)) (fill_step rfl rfl (enc_fit _ _ rfl) (vec_splice' _ _ _ (by decide)) (fill_nil)))) ?_); intro a hA
  have hB28 := hB20.grown hE26 hB20.size (fun k hk => by cases hk; exact hge)
  have h29 := (hE26.block _ (lt_some h22) (sep_box (by omega) _ rfl)).trans h22
  refine L1 (st_store (g := g1) (off := 0) (cur := (pHash.enc (Vector.replicate 32 0 : Vector Int 32)).toArray) Try.sizeOf33 hA rfl (by simp [add_mk]) rfl (agg_size _ _) (agg_one _ _) h29 (Nat.le_of_ble_eq_true (enc_fit _ _ rfl)) ?_)
  intro w30 hX31 hU32 hz33 a hA
  replace hX31 : w30.heap[g1]? = some (.cells (pHash.enc ((((Vector.replicate 32 0 : Vector Int 32).setIfInBounds 0 (IntKind.u8.wrap r15.1)).setIfInBounds 31 (IntKind.u8.wrap r23.1)))).toArray 33 (0, 0)) := hX31.trans (congrArg (fun c => some (Obj.cells c 33 (0, 0))) (splice_all _ _ (agg_same _ _ _)))
  refine LQ ?_
  refine TN ?_
  refine wp_ret ?_
  have hK34 := grown_trans hK21 hE26
  have hK35 := grown_new hK34 hU32 (fun k hk => by cases hk; exact gw9)
  have h36 := (hU32.block _ (lt_some hX27) (sep_box (by omega) _ rfl)).trans hX27
  cases H
  exact ret_cell (fn := Try.f27) hA rfl rfl (run_loadP Try.isAgg33 Try.sizeOf33 (At.box' hX31)) ⟨_, rfl, rfl, h36, hK35⟩

def mill_Hashes.l0 (d_0_L : (List Int)) : Nat → (List (Vector Int 32)) → Int → Int → Option ((List (Vector Int 32)) × Int)
  | 0, _, _, _ => none
  | k + 1, out127, t131, x132 => (if (decide (t131 > 0)) = true then ((mill_Hash.f k d_0_L x132).bind fun r155 => (if (out127.length + [r155.1].length) * 32 ≤ 140737488355328 then (mill_Hashes.l0 d_0_L k (out127 ++ [r155.1]) (IntKind.i64.wrap (t131 - 1)) r155.2) else none)) else (some (out127, x132)))
def mill_Hashes.f (k : Nat) (d_0_L : (List Int)) (d_0_At : Int) (n_1 : Int) : Option ((List (Vector Int 32)) × Int) := ((mill_Deck_Next.f k d_0_L d_0_At (IntKind.i64.wrap (n_1 + 1))).bind fun r1 => (Option.bind (α := (List (Vector Int 32)) × Int) (mill_Hashes.l0 d_0_L k ([] : List (Vector Int 32)) r1.1 r1.2) (fun st => match st with | (out133, x137) => (some (out133, x137)))))
theorem mill_Hashes.calls (k : Nat) (d_0_L : (List Int)) (d_0_At : Int) (n_1 : Int) (A0_0 : Option Addr) (c0_0 : Nat) (g : Nat) (wb : World) (r : ((List (Vector Int 32)) × Int)) (w0 : World) (hX : w0.heap[g]? = some (.cells #[(.slice A0_0 d_0_L.length c0_0), (.int .i64 d_0_At)] 53 (0, 0))) (hge : wb.heap.size ≤ g) (hB : Below wb.heap.size wb w0) (hr0_0 : Row (Pl.int .i64) wb A0_0 d_0_L) (H : mill_Hashes.f k d_0_L d_0_At n_1 = some r) :
    Calls Try.prog 20 #[(.pointer (some (⟨g, 0, none⟩))), (.int .i64 n_1)] w0 fun e w' => ∃ v, e = .returned v ∧ Own pHash 33 w0.heap.size w' v r.1 ∧ w'.heap[g]? = some (.cells #[(.slice A0_0 d_0_L.length c0_0), (.int .i64 r.2)] 53 (0, 0)) ∧ w0.grownBy w' (some g) := by
  unfold mill_Hashes.f at H
  have hK0 := grown_refl w0 (some g)
  refine enterL (n := 21) [(.pointer (some (⟨g, 0, none⟩))), (.int .i64 n_1)] Try.func20 rfl rfl rfl ?_
  intro a hA
  refine wp_seq ?_
  refine wp_region_lit ?_
  refine L1 (stv hA (by decide) (run_assign (hA.ev rfl)) ?_); intro a hA
  refine LQ ?_
  refine TN ?_
  refine wp_seq ?_
  refine wp_region_lit ?_
  refine L1 (stv hA (by decide) (run_assign (hA.ev rfl)) ?_); intro a hA
  refine LQ ?_
  refine TN ?_
  refine wp_seq ?_
  refine wp_seq ?_
  refine wp_region_lit ?_
  refine L1 (stv hA (by decide) (run_move (hA.ev rfl)) ?_); intro a hA
  refine L1 (stv hA (by decide) (run_move (hA.ev rfl)) ?_); intro a hA
  refine L1 (stv hA (by decide) (run_bin (hA.ev rfl) (hA.ev rfl) (bin_add _ _ _ _)) ?_); intro a hA
  obtain ⟨r1, H2, H⟩ := Option.bind_eq_some_iff.1 H
  refine L1 (st_call Try.call18 hA [(.pointer (some (⟨g, 0, none⟩))), (.int .i64 (IntKind.i64.wrap (n_1 + 1)))] rfl (by decide) (mill_Deck_Next.calls _ _ _ _ _ _ _ _ _ _ (hX) (hge) (hB) (hr0_0) H2) ?_)
  rintro _ w3 ⟨rfl, hX5, hE4⟩ a hA
  refine L1 (stv hA (by decide) (run_assign (hA.ev rfl)) ?_); intro a hA
  refine LQ ?_
  refine TN ?_
  obtain ⟨o139, H138, H⟩ := Option.bind_eq_some_iff.1 H
  refine cutC (fun a w => ∃ (out133 : (List (Vector Int 32))) (x137 : Int) (A134 : Option Addr) (c135 : Nat), (out133, x137) = o139 ∧ (Below wb.heap.size wb w) ∧ (World.grownBy w0 w (some g)) ∧ (w.heap[g]? = some (.cells #[(.slice A0_0 d_0_L.length c0_0), (.int .i64 x137)] 53 (0, 0))) ∧ (Own pHash 33 w0.heap.size w (.slice A134 out133.length c135) out133) ∧ (Sep (some g) (Value.ownBlock (.slice A134 out133.length c135))) ∧ Has 21 [(5, (.slice A134 out133.length c135))] a) ?_ ?_
  · refine wp_block ?_
    have hB150 := hB.grown hE4 hB.size (fun k hk => by cases hk; exact hge)
    have hK151 := grown_trans hK0 hE4
    refine wp_loop_ghost (fun m a w => ∃ (out127 : (List (Vector Int 32))) (t131 : Int) (x132 : Int) (A128 : Option Addr) (c129 : Nat), mill_Hashes.l0 d_0_L m out127 t131 x132 = some o139 ∧ (Below wb.heap.size wb w) ∧ (World.grownBy w0 w (some g)) ∧ (w.heap[g]? = some (.cells #[(.slice A0_0 d_0_L.length c0_0), (.int .i64 x132)] 53 (0, 0))) ∧ (Own pHash 33 w0.heap.size w (.slice A128 out127.length c129) out127) ∧ (Sep (some g) (Value.ownBlock (.slice A128 out127.length c129))) ∧ Has 21 [(0, (.pointer (some (⟨g, 0, none⟩)))), (5, (.slice A128 out127.length c129)), (6, (.int .i64 t131))] a) k ⟨([] : List (Vector Int 32)), r1.1, r1.2, none, 0, H138, hB150, hK151, hX5, (Own.nil _ _ _ _), sep_none, (((hA.nil.cons (hA.get 6 _ rfl)).cons (hA.get 5 _ rfl)).cons (hA.get 0 _ rfl))⟩ ?_
    rintro m152 a w153 ⟨out127, t131, x132, A128, c129, H138, hB145, hK146, hX147, hO148, sp149, hA⟩
    cases m152 with
    | zero => exact absurd H138 (by simp [mill_Hashes.l0])
    | succ m152 =>
    rw [mill_Hashes.l0] at H138
    refine wp_seq ?_
    refine wp_seq ?_
    refine wp_region_lit ?_
    refine L1 (stv hA (by decide) (run_move (hA.ev rfl)) ?_); intro a hA
    refine L1 (stv hA (by decide) (run_bin (hA.ev rfl) (hA.ev rfl) (bin_gtr _ _ _ _)) ?_); intro a hA
    refine LQ ?_
    refine TN ?_
    refine tcond (b := (decide (t131 > 0))) hA rfl (fun hb154 => ?_) (fun hb154 => ?_)
    · replace H138 := ite_t hb154 H138
      refine wp_skip ?_
      refine TN ?_
      refine wp_seq ?_
      refine wp_block ?_
      refine wp_region_lit ?_
      refine L1 (stv hA (by decide) (run_move (hA.ev rfl)) ?_); intro a hA
      refine L1 (stv hA (by decide) (run_move (hA.ev rfl)) ?_); intro a hA
      obtain ⟨r155, H156, H138⟩ := Option.bind_eq_some_iff.1 H138
      refine L1 (st_call Try.call27 hA [(.pointer (some (⟨g, 0, none⟩)))] rfl (by decide) (mill_Hash.calls _ _ _ _ _ _ _ _ _ (hX147) (hge) (hB145) (hr0_0) H156) ?_)
      rintro _ w157 ⟨rfl, hX159, hE158⟩ a hA
      have hB160 := hB145.grown hE158 hB145.size (fun k hk => by cases hk; exact hge)
      have h161 := hO148.kept hE158 ((sp149).symm)
      have hK162 := grown_trans hK146 hE158
      refine L1 (st_lit1 (x1 := r155.1) elt42 (by decide) hA rfl rfl (by decide) ?_)
      intro w164 g163 hg165 hz166 hO167 hE168 a hA
      replace hO167 := hO167.base hK162.size
      have sp170 : Sep (some g) (Value.ownBlock (.slice (some ⟨g163, 0, none⟩) 1 1)) := sep_lt (lt_box hX159) hg165
      have sp171 : Sep (Value.ownBlock (.slice A128 out127.length c129)) (Value.ownBlock (.slice (some ⟨g163, 0, none⟩) 1 1)) := sep_lt (fun k hk => (h161.lt k hk).2) hg165
      have hB172 := hB160.trans (hE168.mono hB160.size)
      have h173 := h161.ext hE168
      have h174 := (hE168.block _ (lt_some hX159)).trans hX159
      obtain ⟨hl175, H138⟩ := ite_some H138
      have hK181 := grown_E hK162 hE168
      refine L1 (st_append (ys := [r155.1]) elt42 (h173) (hO167.row) hl175 hK181.size hA rfl rfl (by decide) ?_)
      intro v176 w177 hO178 hU179 ht180 a hA
      have sp185 := sep_app (sp149) (lt_box h174) ht180
      have sp186 := sep_app ((sp171).symm) (fun k hk => (hO167.lt k hk).2) ht180
      obtain ⟨A183, c184, rfl⟩ := hO178.form1
      refine L1 (stv hA (by decide) (run_assign (hA.ev rfl)) ?_); intro a hA
      refine LQ ?_
      refine BN ?_
      refine TN ?_
      refine wp_region_lit ?_
      refine L1 (stv hA (by decide) (run_move (hA.ev rfl)) ?_); intro a hA
      refine L1 (stv hA (by decide) (run_bin (hA.ev rfl) (hA.ev rfl) (bin_sub _ _ _ _)) ?_); intro a hA
      refine L1 (stv hA (by decide) (run_assign (hA.ev rfl)) ?_); intro a hA
      refine LQ ?_
      have hB187 := hB172.grown hU179 hB172.size (fun k hk => Nat.le_trans hB.size ((h173).lt k hk).1)
      have hK188 := grown_new hK181 hU179 (fun k hk => ((h173).lt k hk).1)
      have h189 := (hU179.block _ (lt_some h174) ((sep_lenR (sp149)) _ rfl)).trans h174
      exact ⟨_, Nat.lt_succ_self m152, (out127 ++ [r155.1]), IntKind.i64.wrap (t131 - 1), r155.2, A183, c184, H138, hB187, hK188, h189, hO178, (sp185), (((hA.nil.cons (hA.get 6 _ rfl)).cons (hA.get 5 _ rfl)).cons (hA.get 0 _ rfl))⟩
    · replace H138 := ite_f hb154 H138
      refine wp_exit ?_
      refine TX ?_
      refine TX ?_
      refine BX ?_
      exact ⟨out127, x132, A128, c129, Option.some.inj H138, hB145, hK146, hX147, hO148, (sp149), (hA.nil.cons (hA.get 5 _ rfl))⟩
  rintro a w190 ⟨out133, x137, A134, c135, rfl, hB140, hK141, hX142, hO143, sp144, hA⟩
  try dsimp only at H
  refine TN ?_
  refine wp_seq ?_
  refine wp_region_lit ?_
  refine L1 (stv hA (by decide) (run_move (hA.ev rfl)) ?_); intro a hA
  refine L1 (stv hA (by decide) (run_assign (hA.ev rfl)) ?_); intro a hA
  refine LQ ?_
  refine TN ?_
  refine wp_ret ?_
  cases H
  exact ret_post1 (fn := Try.f20) hA rfl rfl ⟨_, rfl, hO143, hX142, hK141⟩

def ref33_Confirm.l1 (ids_1 : (List (Vector Int 32))) (height_2 : Int) (i1211 : Int) : Nat → (List Sample) → Int → Option ((List Sample))
  | 0, _, _ => none
  | k + 1, out1509, t1513 => (if (decide (t1513 < (ids_1.length : Int))) = true then (Option.bind (α := Bool) (if 0 ≤ i1211 ∧ i1211 < (out1509.length : Int) then (if 0 ≤ t1513 ∧ t1513 < (ids_1.length : Int) then (if (((out1509.getD i1211.toNat Sample.z).ID) == (ids_1.getD t1513.toNat (Vector.replicate 32 0 : Vector Int 32))) = true then (if 0 ≤ i1211 ∧ i1211 < (out1509.length : Int) then (if (((out1509.getD i1211.toNat Sample.z).Confirmed) == 0) = true then (if 0 ≤ i1211 ∧ i1211 < (out1509.length : Int) then (some (decide (((out1509.getD i1211.toNat Sample.z).Seen) < height_2))) else none) else (some false)) else none) else (some false)) else none) else none) (fun t1551 => (Option.bind (α := (List Sample)) (if t1551 = true then (if 0 ≤ i1211 ∧ i1211 < (out1509.length : Int) then (some (out1509.set i1211.toNat ({ out1509.getD i1211.toNat Sample.z with Confirmed := height_2 }))) else none) else (some out1509)) (fun out1596 => (ref33_Confirm.l1 ids_1 height_2 i1211 k out1596 (IntKind.i64.wrap (t1513 + 1))))))) else (some out1509))
def ref33_Confirm.l0 (ids_1 : (List (Vector Int 32))) (height_2 : Int) : Nat → (List Sample) → Int → Option ((List Sample))
  | 0, _, _ => none
  | k + 1, out1207, i1211 => (if (decide (i1211 < (out1207.length : Int))) = true then (Option.bind (α := (List Sample)) (ref33_Confirm.l1 ids_1 height_2 i1211 k out1207 0) (fun out1514 => (ref33_Confirm.l0 ids_1 height_2 k out1514 (IntKind.i64.wrap (i1211 + 1))))) else (some out1207))
def ref33_Confirm.f (k : Nat) (l_0 : (List Sample)) (ids_1 : (List (Vector Int 32))) (height_2 : Int) : Option (List Sample) := (if (([] : List Sample).length + l_0.length) * 56 ≤ 140737488355328 then (Option.bind (α := (List Sample)) (ref33_Confirm.l0 ids_1 height_2 k (([] : List Sample) ++ l_0) 0) (fun out1212 => (some out1212))) else none)
theorem ref33_Confirm.calls (k : Nat) (l_0 : (List Sample)) (ids_1 : (List (Vector Int 32))) (height_2 : Int) (A0 : Option Addr) (c0 : Nat) (A1 : Option Addr) (c1 : Nat) (r : (List Sample)) (w0 : World) (hr0 : Row pSample w0 A0 l_0) (hr1 : Row pHash w0 A1 ids_1) (H : ref33_Confirm.f k l_0 ids_1 height_2 = some r) :
    Calls Try.prog 25 #[(.slice A0 l_0.length c0), (.slice A1 ids_1.length c1), (.int .i64 height_2)] w0 fun e w' => ∃ v, e = .returned v ∧ Own pSample 35 w0.heap.size w' v r ∧ Below w0.heap.size w0 w' := by
  unfold ref33_Confirm.f at H
  have hB0 := Below.refl w0.heap.size w0
  refine enterL (n := 58) [(.slice A0 l_0.length c0), (.slice A1 ids_1.length c1), (.int .i64 height_2)] Try.func25 rfl rfl rfl ?_
  intro a hA
  refine wp_seq ?_
  refine wp_region_lit ?_
  refine L1 (stv hA (by decide) (run_assign (hA.ev rfl)) ?_); intro a hA
  refine LQ ?_
  refine TN ?_
  refine wp_seq ?_
  refine wp_region_lit ?_
  refine L1 (st_lit0 elt28 hA (by decide) ?_)
  intro w2 g1 hg3 hz4 hO5 hE6 a hA
  replace hO5 := hO5.base hB0.size
  refine L1 (stv hA (by decide) (run_move (hA.ev rfl)) ?_); intro a hA
  have hB8 := hB0.trans (hE6.mono hB0.size)
  obtain ⟨hl9, H⟩ := ite_some H
  refine L1 (st_append (ys := l_0) elt28 (hO5) ((hr0.ext hB8)) hl9 hB8.size hA rfl rfl (by decide) ?_)
  intro v10 w11 hO12 hU13 ht14 a hA
  obtain ⟨A16, c17, rfl⟩ := hO12.form1
  refine L1 (stv hA (by decide) (run_assign (hA.ev rfl)) ?_); intro a hA
  refine LQ ?_
  refine TN ?_
  refine wp_seq ?_
  refine wp_seq ?_
  refine wp_region_lit ?_
  refine L1 (stv hA (by decide) (run_assign (hA.ev rfl)) ?_); intro a hA
  refine LQ ?_
  refine TN ?_
  obtain ⟨o1217, H1216, H⟩ := Option.bind_eq_some_iff.1 H
  refine cutC (fun a w => ∃ (out1212 : (List Sample)) (A1213 : Option Addr) (c1214 : Nat), out1212 = o1217 ∧ (Below w0.heap.size w0 w) ∧ (Own pSample 35 w0.heap.size w (.slice A1213 out1212.length c1214) out1212) ∧ Has 58 [(7, (.slice A1213 out1212.length c1214))] a) ?_ ?_
  · refine wp_block ?_
    have hB1222 := hB8.grown hU13 hB8.size (fun k hk => ((hO5).lt k hk).1)
    refine wp_loop_ghost (fun m a w => ∃ (out1207 : (List Sample)) (i1211 : Int) (A1208 : Option Addr) (c1209 : Nat), ref33_Confirm.l0 ids_1 height_2 m out1207 i1211 = some o1217 ∧ (Below w0.heap.size w0 w) ∧ (Own pSample 35 w0.heap.size w (.slice A1208 out1207.length c1209) out1207) ∧ Has 58 [(1, (.slice A1 ids_1.length c1)), (2, (.int .i64 height_2)), (7, (.slice A1208 out1207.length c1209)), (8, (.int .i64 i1211))] a) k ⟨(([] : List Sample) ++ l_0), 0, A16, c17, H1216, hB1222, hO12, ((((hA.nil.cons (hA.get 8 _ rfl)).cons (hA.get 7 _ rfl)).cons (hA.get 2 _ rfl)).cons (hA.get 1 _ rfl))⟩ ?_
    rintro m1223 a w1224 ⟨out1207, i1211, A1208, c1209, H1216, hB1220, hO1221, hA⟩
    cases m1223 with
    | zero => exact absurd H1216 (by simp [ref33_Confirm.l0])
    | succ m1223 =>
    rw [ref33_Confirm.l0] at H1216
    refine wp_seq ?_
    refine wp_seq ?_
    refine wp_region_lit ?_
    refine L1 (stv hA (by decide) (run_move (hA.ev rfl)) ?_); intro a hA
    refine L1 (stv hA (by decide) (run_move (hA.ev rfl)) ?_); intro a hA
    refine L1 (stv hA (by decide) (run_len_slice Try.underlying28 (hA.ev rfl)) ?_); intro a hA
    refine L1 (stv hA (by decide) (run_bin (hA.ev rfl) (hA.ev rfl) (bin_lss _ _ _ _)) ?_); intro a hA
    refine LQ ?_
    refine TN ?_
    refine tcond (b := (decide (i1211 < (out1207.length : Int)))) hA rfl (fun hb1225 => ?_) (fun hb1225 => ?_)
    · replace H1216 := ite_t hb1225 H1216
      refine wp_skip ?_
      refine TN ?_
      refine wp_seq ?_
      refine wp_block ?_
      refine wp_seq ?_
      refine wp_region_lit ?_
      refine L1 (stv hA (by decide) (run_assign (hA.ev rfl)) ?_); intro a hA
      refine LQ ?_
      refine TN ?_
      obtain ⟨o1519, H1518, H1216⟩ := Option.bind_eq_some_iff.1 H1216
      refine cutC (fun a w => ∃ (out1514 : (List Sample)) (A1515 : Option Addr) (c1516 : Nat), out1514 = o1519 ∧ (Below w0.heap.size w0 w) ∧ (Own pSample 35 w0.heap.size w (.slice A1515 out1514.length c1516) out1514) ∧ Has 58 [(1, (.slice A1 ids_1.length c1)), (2, (.int .i64 height_2)), (7, (.slice A1515 out1514.length c1516)), (8, (.int .i64 i1211))] a) ?_ ?_
      · refine wp_block ?_
        refine wp_loop_ghost (fun m a w => ∃ (out1509 : (List Sample)) (t1513 : Int) (A1510 : Option Addr) (c1511 : Nat), ref33_Confirm.l1 ids_1 height_2 i1211 m out1509 t1513 = some o1519 ∧ (Below w0.heap.size w0 w) ∧ (Own pSample 35 w0.heap.size w (.slice A1510 out1509.length c1511) out1509) ∧ Has 58 [(1, (.slice A1 ids_1.length c1)), (2, (.int .i64 height_2)), (7, (.slice A1510 out1509.length c1511)), (8, (.int .i64 i1211)), (9, (.int .i64 t1513))] a) m1223 ⟨out1207, 0, A1208, c1209, H1518, hB1220, hO1221, (((((hA.nil.cons (hA.get 9 _ rfl)).cons (hA.get 8 _ rfl)).cons (hA.get 7 _ rfl)).cons (hA.get 2 _ rfl)).cons (hA.get 1 _ rfl))⟩ ?_
        rintro m1524 a w1525 ⟨out1509, t1513, A1510, c1511, H1518, hB1522, hO1523, hA⟩
        cases m1524 with
        | zero => exact absurd H1518 (by simp [ref33_Confirm.l1])
        | succ m1524 =>
        rw [ref33_Confirm.l1] at H1518
        refine wp_seq ?_
        refine wp_seq ?_
        refine wp_region_lit ?_
        refine L1 (stv hA (by decide) (run_move (hA.ev rfl)) ?_); intro a hA
        refine L1 (stv hA (by decide) (run_move (hA.ev rfl)) ?_); intro a hA
        refine L1 (stv hA (by decide) (run_len_slice Try.underlying42 (hA.ev rfl)) ?_); intro a hA
        refine L1 (stv hA (by decide) (run_bin (hA.ev rfl) (hA.ev rfl) (bin_lss _ _ _ _)) ?_); intro a hA
        refine LQ ?_
        refine TN ?_
        refine tcond (b := (decide (t1513 < (ids_1.length : Int)))) hA rfl (fun hb1526 => ?_) (fun hb1526 => ?_)
        · replace H1518 := ite_t hb1526 H1518
          refine wp_skip ?_
          refine TN ?_
          refine wp_seq ?_
          refine wp_block ?_
          refine wp_seq ?_
          obtain ⟨o1553, H1552, H1518⟩ := Option.bind_eq_some_iff.1 H1518
          refine cutC (fun a w => ∃ (t1551 : Bool), t1551 = o1553 ∧ (Below w0.heap.size w0 w) ∧ (Own pSample 35 w0.heap.size w (.slice A1510 out1509.length c1511) out1509) ∧ Has 58 [(1, (.slice A1 ids_1.length c1)), (2, (.int .i64 height_2)), (7, (.slice A1510 out1509.length c1511)), (8, (.int .i64 i1211)), (9, (.int .i64 t1513)), (51, (.bool t1551))] a) ?_ ?_
          · refine draw (fun w' => Below w1525.heap.size w1525 w') [] rfl ?_
            intro w1556 hw hS
            have hE1557 := hS
            clear hw
            refine d_takef (i := 0) (L' := #[true, false, false, false, false, false, false, false, false, false, false, false, false, false, false, false, false, false, false, false, false, false, false, false, false, false, false]) rfl (by kernel_rfl) rfl (fun _ _ _ h => h) hA (by decide) (fun _ => hS) (fun a w' hA => run_move (hA.ev rfl)) ?_; intro a hA
            refine d_takef (i := 1) (L' := #[true, true, false, false, false, false, false, false, false, false, false, false, false, false, false, false, false, false, false, false, false, false, false, false, false, false, false]) rfl (by kernel_rfl) rfl (fun _ _ _ h => h) hA (by decide) (fun _ => hS) (fun a w' hA => run_move (hA.ev rfl)) ?_; intro a hA
            obtain ⟨⟨hi1558, hj1559⟩, H1552⟩ := ite_some H1552
            obtain ⟨ad1560, hq1561, hat1562⟩ := hO1523.row.elem Sample.z i1211 hi1558 hj1559
            refine d_takef (i := 2) (L' := #[true, true, true, false, false, false, false, false, false, false, false, false, false, false, false, false, false, false, false, false, false, false, false, false, false, false, false]) rfl (by kernel_rfl) rfl (fun _ _ _ h => h) hA (by decide) (fun _ => hS) (fun a w' hA => run_idx Try.underlying28 Try.sizeOf35 (hA.ev rfl) hq1561 (hA.ev rfl) hi1558 hj1559) ?_; intro a hA
            refine d_takef (i := 3) (L' := #[true, true, true, true, false, false, false, false, false, false, false, false, false, false, false, false, false, false, false, false, false, false, false, false, false, false, false]) rfl (by kernel_rfl) rfl (fun _ _ _ h => h) hA (by decide) (fun _ => hS) (fun a w' hA => run_field' Try.underlying35 rfl rfl Try.sizeOf33 (by decide) (hA.ev rfl)) ?_; intro a hA
            refine d_take (i := 4) (L' := #[true, true, true, true, true, false, false, false, false, false, false, false, false, false, false, false, false, false, false, false, false, false, false, false, false, false, false]) rfl (by kernel_rfl) rfl (fun _ _ _ h => h) hA (by decide) rfl hS (fun a w' hA hS' => run_ld (hA.ev rfl) (run_loadP Try.isAgg33 Try.sizeOf33 ((Sample.at_ID hat1562).ext fun b h => hS'.block b h))) ?_; intro a hA
            refine d_takef (i := 5) (L' := #[true, true, true, true, true, true, false, false, false, false, false, false, false, false, false, false, false, false, false, false, false, false, false, false, false, false, false]) rfl (by kernel_rfl) rfl (fun _ _ _ h => h) hA (by decide) (fun _ => hS) (fun a w' hA => run_move (hA.ev rfl)) ?_; intro a hA
            refine d_takef (i := 6) (L' := #[true, true, true, true, true, true, true, false, false, false, false, false, false, false, false, false, false, false, false, false, false, false, false, false, false, false, false]) rfl (by kernel_rfl) rfl (fun _ _ _ h => h) hA (by decide) (fun _ => hS) (fun a w' hA => run_move (hA.ev rfl)) ?_; intro a hA
            obtain ⟨⟨hi1563, hj1564⟩, H1552⟩ := ite_some H1552
            obtain ⟨ad1565, hq1566, hat1567⟩ := (hr1.ext hB1522).elem (Vector.replicate 32 0 : Vector Int 32) t1513 hi1563 hj1564
            refine d_takef (i := 7) (L' := #[true, true, true, true, true, true, true, true, false, false, false, false, false, false, false, false, false, false, false, false, false, false, false, false, false, false, false]) rfl (by kernel_rfl) rfl (fun _ _ _ h => h) hA (by decide) (fun _ => hS) (fun a w' hA => run_idx Try.underlying42 Try.sizeOf33 (hA.ev rfl) hq1566 (hA.ev rfl) hi1563 hj1564) ?_; intro a hA
            refine d_take (i := 8) (L' := #[true, true, true, true, true, true, true, true, true, false, false, false, false, false, false, false, false, false, false, false, false, false, false, false, false, false, false]) rfl (by kernel_rfl) rfl (fun _ _ _ h => h) hA (by decide) rfl hS (fun a w' hA hS' => run_ld (hA.ev rfl) (run_loadP Try.isAgg33 Try.sizeOf33 ((hat1567).ext fun b h => hS'.block b h))) ?_; intro a hA
            refine d_takef (i := 9) (L' := #[true, true, true, true, true, true, true, true, true, true, false, false, false, false, false, false, false, false, false, false, false, false, false, false, false, false, false]) rfl (by kernel_rfl) rfl (fun _ _ _ h => h) hA (by decide) (fun _ => hS) (fun a w' hA => run_aggeql eq_Hash rfl (by kernel_rfl) (hA.ev rfl) (hA.ev rfl)) ?_; intro a hA
            refine d_takef (i := 10) (L' := #[true, true, true, true, true, true, true, true, true, true, true, false, false, false, false, false, false, false, false, false, false, false, false, false, false, false, false]) rfl (by kernel_rfl) rfl (fun _ _ _ h => h) hA (by decide) (fun _ => hS) (fun a w' hA => run_move (hA.ev rfl)) ?_; intro a hA
            refine bsplit (b := (((out1509.getD i1211.toNat Sample.z).ID) == (ids_1.getD t1513.toNat (Vector.replicate 32 0 : Vector Int 32)))) (fun hb1568 => ?_) (fun hb1568 => ?_)
            · replace H1552 := ite_t hb1568 H1552
              have hA := hA.re (t := 35) rfl (congrArg Value.bool hb1568)
              refine d_takegf (i := 11) (L' := #[true, true, true, true, true, true, true, true, true, true, true, true, false, false, false, false, false, false, false, false, false, false, false, false, false, false, false]) rfl (by kernel_rfl) rfl (fun _ _ _ h => h) rfl hA (by decide) (by decide) rfl (fun _ => hS) (fun a w' hA => run_move (hA.ev rfl)) ?_; intro a hA
              refine d_takegf (i := 12) (L' := #[true, true, true, true, true, true, true, true, true, true, true, true, true, false, false, false, false, false, false, false, false, false, false, false, false, false, false]) rfl (by kernel_rfl) rfl (fun _ _ _ h => h) rfl hA (by decide) (by decide) rfl (fun _ => hS) (fun a w' hA => run_move (hA.ev rfl)) ?_; intro a hA
              obtain ⟨⟨hi1569, hj1570⟩, H1552⟩ := ite_some H1552
              obtain ⟨ad1571, hq1572, hat1573⟩ := hO1523.row.elem Sample.z i1211 hi1569 hj1570
              refine d_takegf (i := 13) (L' := #[true, true, true, true, true, true, true, true, true, true, true, true, true, true, false, false, false, false, false, false, false, false, false, false, false, false, false]) rfl (by kernel_rfl) rfl (fun _ _ _ h => h) rfl hA (by decide) (by decide) rfl (fun _ => hS) (fun a w' hA => run_idx Try.underlying28 Try.sizeOf35 (hA.ev rfl) hq1572 (hA.ev rfl) hi1569 hj1570) ?_; intro a hA
              refine d_takegf (i := 14) (L' := #[true, true, true, true, true, true, true, true, true, true, true, true, true, true, true, false, false, false, false, false, false, false, false, false, false, false, false]) rfl (by kernel_rfl) rfl (fun _ _ _ h => h) rfl hA (by decide) (by decide) rfl (fun _ => hS) (fun a w' hA => run_field' Try.underlying35 rfl rfl Try.sizeOf3 (by decide) (hA.ev rfl)) ?_; intro a hA
              refine d_takeg (i := 15) (L' := #[true, true, true, true, true, true, true, true, true, true, true, true, true, true, true, true, false, false, false, false, false, false, false, false, false, false, false]) rfl (by kernel_rfl) rfl (fun _ _ _ h => h) rfl hA (by decide) (by decide) rfl rfl hS (fun a w' hA hS' => run_ld (hA.ev rfl) (run_loadS Try.isAgg3 ((Sample.at_Confirmed hat1573).ext fun b h => hS'.block b h))) ?_; intro a hA
              refine d_takegf (i := 16) (L' := #[true, true, true, true, true, true, true, true, true, true, true, true, true, true, true, true, true, false, false, false, false, false, false, false, false, false, false]) rfl (by kernel_rfl) rfl (fun _ _ _ h => h) rfl hA (by decide) (by decide) rfl (fun _ => hS) (fun a w' hA => run_bin (hA.ev rfl) (hA.ev rfl) (bin_eql _ _ _ _)) ?_; intro a hA
              refine d_takef (i := 17) (L' := #[true, true, true, true, true, true, true, true, true, true, true, true, true, true, true, true, true, true, false, false, false, false, false, false, false, false, false]) rfl (by kernel_rfl) rfl (fun _ _ _ h => h) hA (by decide) (fun _ => hS) (fun a w' hA => run_pick (hA.ev rfl) (fun _ => hA.ev rfl) (fun h => Bool.noConfusion h)) ?_; intro a hA
              refine d_takef (i := 18) (L' := #[true, true, true, true, true, true, true, true, true, true, true, true, true, true, true, true, true, true, true, false, false, false, false, false, false, false, false]) rfl (by kernel_rfl) rfl (fun _ _ _ h => h) hA (by decide) (fun _ => hS) (fun a w' hA => run_move (hA.ev rfl)) ?_; intro a hA
              refine bsplit (b := (((out1509.getD i1211.toNat Sample.z).Confirmed) == 0)) (fun hb1574 => ?_) (fun hb1574 => ?_)
              · replace H1552 := ite_t hb1574 H1552
                have hA := hA.re (t := 43) rfl (congrArg Value.bool hb1574)
                refine d_takegf (i := 19) (L' := #[true, true, true, true, true, true, true, true, true, true, true, true, true, true, true, true, true, true, true, true, false, false, false, false, false, false, false]) rfl (by kernel_rfl) rfl (fun _ _ _ h => h) rfl hA (by decide) (by decide) rfl (fun _ => hS) (fun a w' hA => run_move (hA.ev rfl)) ?_; intro a hA
                refine d_takegf (i := 20) (L' := #[true, true, true, true, true, true, true, true, true, true, true, true, true, true, true, true, true, true, true, true, true, false, false, false, false, false, false]) rfl (by kernel_rfl) rfl (fun _ _ _ h => h) rfl hA (by decide) (by decide) rfl (fun _ => hS) (fun a w' hA => run_move (hA.ev rfl)) ?_; intro a hA
                obtain ⟨⟨hi1575, hj1576⟩, H1552⟩ := ite_some H1552
                obtain ⟨ad1577, hq1578, hat1579⟩ := hO1523.row.elem Sample.z i1211 hi1575 hj1576
                refine d_takegf (i := 21) (L' := #[true, true, true, true, true, true, true, true, true, true, true, true, true, true, true, true, true, true, true, true, true, true, false, false, false, false, false]) rfl (by kernel_rfl) rfl (fun _ _ _ h => h) rfl hA (by decide) (by decide) rfl (fun _ => hS) (fun a w' hA => run_idx Try.underlying28 Try.sizeOf35 (hA.ev rfl) hq1578 (hA.ev rfl) hi1575 hj1576) ?_; intro a hA
                refine d_takegf (i := 22) (L' := #[true, true, true, true, true, true, true, true, true, true, true, true, true, true, true, true, true, true, true, true, true, true, true, false, false, false, false]) rfl (by kernel_rfl) rfl (fun _ _ _ h => h) rfl hA (by decide) (by decide) rfl (fun _ => hS) (fun a w' hA => run_field' Try.underlying35 rfl rfl Try.sizeOf3 (by decide) (hA.ev rfl)) ?_; intro a hA
                refine d_takeg (i := 23) (L' := #[true, true, true, true, true, true, true, true, true, true, true, true, true, true, true, true, true, true, true, true, true, true, true, true, false, false, false]) rfl (by kernel_rfl) rfl (fun _ _ _ h => h) rfl hA (by decide) (by decide) rfl rfl hS (fun a w' hA hS' => run_ld (hA.ev rfl) (run_loadS Try.isAgg3 ((Sample.at_Seen hat1579).ext fun b h => hS'.block b h))) ?_; intro a hA
                refine d_takegf (i := 24) (L' := #[true, true, true, true, true, true, true, true, true, true, true, true, true, true, true, true, true, true, true, true, true, true, true, true, true, false, false]) rfl (by kernel_rfl) rfl (fun _ _ _ h => h) rfl hA (by decide) (by decide) rfl (fun _ => hS) (fun a w' hA => run_move (hA.ev rfl)) ?_; intro a hA
                refine d_takegf (i := 25) (L' := #[true, true, true, true, true, true, true, true, true, true, true, true, true, true, true, true, true, true, true, true, true, true, true, true, true, true, false]) rfl (by kernel_rfl) rfl (fun _ _ _ h => h) rfl hA (by decide) (by decide) rfl (fun _ => hS) (fun a w' hA => run_bin (hA.ev rfl) (hA.ev rfl) (bin_lss _ _ _ _)) ?_; intro a hA
                refine d_takef (i := 26) (L' := #[true, true, true, true, true, true, true, true, true, true, true, true, true, true, true, true, true, true, true, true, true, true, true, true, true, true, true]) rfl (by kernel_rfl) rfl (fun _ _ _ h => h) hA (by decide) (fun _ => hS) (fun a w' hA => run_pick (hA.ev rfl) (fun _ => hA.ev rfl) (fun h => Bool.noConfusion h)) ?_; intro a hA
                refine d_done (by kernel_rfl) ?_
                have hB1580 := hB1522.trans (hE1557.mono hB1522.size)
                have h1581 := hO1523.ext hE1557
                exact ⟨(decide (((out1509.getD i1211.toNat Sample.z).Seen) < height_2)), Option.some.inj H1552, hB1580, h1581, ((((((hA.nil.cons (hA.get 51 _ rfl)).cons (hA.get 9 _ rfl)).cons (hA.get 8 _ rfl)).cons (hA.get 7 _ rfl)).cons (hA.get 2 _ rfl)).cons (hA.get 1 _ rfl))⟩
              · replace H1552 := ite_f hb1574 H1552
                have hA := hA.re (t := 43) rfl (congrArg Value.bool hb1574)
                refine d_skip (i := 19) (L' := #[true, true, true, true, true, true, true, true, true, true, true, true, true, true, true, true, true, true, true, true, false, false, false, false, false, false, false]) rfl (by kernel_rfl) rfl (fun _ _ _ h => h) rfl hA (by decide) (by decide) rfl rfl (fun _ => hS) ?_; intro a hA
                refine d_skip (i := 20) (L' := #[true, true, true, true, true, true, true, true, true, true, true, true, true, true, true, true, true, true, true, true, true, false, false, false, false, false, false]) rfl (by kernel_rfl) rfl (fun _ _ _ h => h) rfl hA (by decide) (by decide) rfl rfl (fun _ => hS) ?_; intro a hA
                refine d_skip (i := 21) (L' := #[true, true, true, true, true, true, true, true, true, true, true, true, true, true, true, true, true, true, true, true, true, true, false, false, false, false, false]) rfl (by kernel_rfl) rfl (fun _ _ _ h => h) rfl hA (by decide) (by decide) rfl rfl (fun _ => hS) ?_; intro a hA
                refine d_skip (i := 22) (L' := #[true, true, true, true, true, true, true, true, true, true, true, true, true, true, true, true, true, true, true, true, true, true, true, false, false, false, false]) rfl (by kernel_rfl) rfl (fun _ _ _ h => h) rfl hA (by decide) (by decide) rfl rfl (fun _ => hS) ?_; intro a hA
                refine d_skip (i := 23) (L' := #[true, true, true, true, true, true, true, true, true, true, true, true, true, true, true, true, true, true, true, true, true, true, true, true, false, false, false]) rfl (by kernel_rfl) rfl (fun _ _ _ h => h) rfl hA (by decide) (by decide) rfl rfl (fun _ => hS) ?_; intro a hA
                refine d_skip (i := 24) (L' := #[true, true, true, true, true, true, true, true, true, true, true, true, true, true, true, true, true, true, true, true, true, true, true, true, true, false, false]) rfl (by kernel_rfl) rfl (fun _ _ _ h => h) rfl hA (by decide) (by decide) rfl rfl (fun _ => hS) ?_; intro a hA
                refine d_skip (i := 25) (L' := #[true, true, true, true, true, true, true, true, true, true, true, true, true, true, true, true, true, true, true, true, true, true, true, true, true, true, false]) rfl (by kernel_rfl) rfl (fun _ _ _ h => h) rfl hA (by decide) (by decide) rfl rfl (fun _ => hS) ?_; intro a hA
                refine d_takef (i := 26) (L' := #[true, true, true, true, true, true, true, true, true, true, true, true, true, true, true, true, true, true, true, true, true, true, true, true, true, true, true]) rfl (by kernel_rfl) rfl (fun _ _ _ h => h) hA (by decide) (fun _ => hS) (fun a w' hA => run_pick (hA.ev rfl) (fun h => Bool.noConfusion h) (fun _ => hA.ev rfl)) ?_; intro a hA
                refine d_done (by kernel_rfl) ?_
                have hB1582 := hB1522.trans (hE1557.mono hB1522.size)
                have h1583 := hO1523.ext hE1557
                exact ⟨false, Option.some.inj H1552, hB1582, h1583, ((((((hA.nil.cons (hA.get 51 _ rfl)).cons (hA.get 9 _ rfl)).cons (hA.get 8 _ rfl)).cons (hA.get 7 _ rfl)).cons (hA.get 2 _ rfl)).cons (hA.get 1 _ rfl))⟩
            · replace H1552 := ite_f hb1568 H1552
              have hA := hA.re (t := 35) rfl (congrArg Value.bool hb1568)
              refine d_skip (i := 11) (L' := #[true, true, true, true, true, true, true, true, true, true, true, true, false, false, false, false, false, false, false, false, false, false, false, false, false, false, false]) rfl (by kernel_rfl) rfl (fun _ _ _ h => h) rfl hA (by decide) (by decide) rfl rfl (fun _ => hS) ?_; intro a hA
              refine d_skip (i := 12) (L' := #[true, true, true, true, true, true, true, true, true, true, true, true, true, false, false, false, false, false, false, false, false, false, false, false, false, false, false]) rfl (by kernel_rfl) rfl (fun _ _ _ h => h) rfl hA (by decide) (by decide) rfl rfl (fun _ => hS) ?_; intro a hA
              refine d_skip (i := 13) (L' := #[true, true, true, true, true, true, true, true, true, true, true, true, true, true, false, false, false, false, false, false, false, false, false, false, false, false, false]) rfl (by kernel_rfl) rfl (fun _ _ _ h => h) rfl hA (by decide) (by decide) rfl rfl (fun _ => hS) ?_; intro a hA
              refine d_skip (i := 14) (L' := #[true, true, true, true, true, true, true, true, true, true, true, true, true, true, true, false, false, false, false, false, false, false, false, false, false, false, false]) rfl (by kernel_rfl) rfl (fun _ _ _ h => h) rfl hA (by decide) (by decide) rfl rfl (fun _ => hS) ?_; intro a hA
              refine d_skip (i := 15) (L' := #[true, true, true, true, true, true, true, true, true, true, true, true, true, true, true, true, false, false, false, false, false, false, false, false, false, false, false]) rfl (by kernel_rfl) rfl (fun _ _ _ h => h) rfl hA (by decide) (by decide) rfl rfl (fun _ => hS) ?_; intro a hA
              refine d_skip (i := 16) (L' := #[true, true, true, true, true, true, true, true, true, true, true, true, true, true, true, true, true, false, false, false, false, false, false, false, false, false, false]) rfl (by kernel_rfl) rfl (fun _ _ _ h => h) rfl hA (by decide) (by decide) rfl rfl (fun _ => hS) ?_; intro a hA
              refine d_takef (i := 17) (L' := #[true, true, true, true, true, true, true, true, true, true, true, true, true, true, true, true, true, true, false, false, false, false, false, false, false, false, false]) rfl (by kernel_rfl) rfl (fun _ _ _ h => h) hA (by decide) (fun _ => hS) (fun a w' hA => run_pick (hA.ev rfl) (fun h => Bool.noConfusion h) (fun _ => hA.ev rfl)) ?_; intro a hA
              refine d_takef (i := 18) (L' := #[true, true, true, true, true, true, true, true, true, true, true, true, true, true, true, true, true, true, true, false, false, false, false, false, false, false, false]) rfl (by kernel_rfl) rfl (fun _ _ _ h => h) hA (by decide) (fun _ => hS) (fun a w' hA => run_move (hA.ev rfl)) ?_; intro a hA
              refine d_skip (i := 19) (L' := #[true, true, true, true, true, true, true, true, true, true, true, true, true, true, true, true, true, true, true, true, false, false, false, false, false, false, false]) rfl (by kernel_rfl) rfl (fun _ _ _ h => h) rfl hA (by decide) (by decide) rfl rfl (fun _ => hS) ?_; intro a hA
              refine d_skip (i := 20) (L' := #[true, true, true, true, true, true, true, true, true, true, true, true, true, true, true, true, true, true, true, true, true, false, false, false, false, false, false]) rfl (by kernel_rfl) rfl (fun _ _ _ h => h) rfl hA (by decide) (by decide) rfl rfl (fun _ => hS) ?_; intro a hA
              refine d_skip (i := 21) (L' := #[true, true, true, true, true, true, true, true, true, true, true, true, true, true, true, true, true, true, true, true, true, true, false, false, false, false, false]) rfl (by kernel_rfl) rfl (fun _ _ _ h => h) rfl hA (by decide) (by decide) rfl rfl (fun _ => hS) ?_; intro a hA
              refine d_skip (i := 22) (L' := #[true, true, true, true, true, true, true, true, true, true, true, true, true, true, true, true, true, true, true, true, true, true, true, false, false, false, false]) rfl (by kernel_rfl) rfl (fun _ _ _ h => h) rfl hA (by decide) (by decide) rfl rfl (fun _ => hS) ?_; intro a hA
              refine d_skip (i := 23) (L' := #[true, true, true, true, true, true, true, true, true, true, true, true, true, true, true, true, true, true, true, true, true, true, true, true, false, false, false]) rfl (by kernel_rfl) rfl (fun _ _ _ h => h) rfl hA (by decide) (by decide) rfl rfl (fun _ => hS) ?_; intro a hA
              refine d_skip (i := 24) (L' := #[true, true, true, true, true, true, true, true, true, true, true, true, true, true, true, true, true, true, true, true, true, true, true, true, true, false, false]) rfl (by kernel_rfl) rfl (fun _ _ _ h => h) rfl hA (by decide) (by decide) rfl rfl (fun _ => hS) ?_; intro a hA
              refine d_skip (i := 25) (L' := #[true, true, true, true, true, true, true, true, true, true, true, true, true, true, true, true, true, true, true, true, true, true, true, true, true, true, false]) rfl (by kernel_rfl) rfl (fun _ _ _ h => h) rfl hA (by decide) (by decide) rfl rfl (fun _ => hS) ?_; intro a hA
              refine d_takef (i := 26) (L' := #[true, true, true, true, true, true, true, true, true, true, true, true, true, true, true, true, true, true, true, true, true, true, true, true, true, true, true]) rfl (by kernel_rfl) rfl (fun _ _ _ h => h) hA (by decide) (fun _ => hS) (fun a w' hA => run_pick (hA.ev rfl) (fun h => Bool.noConfusion h) (fun _ => hA.ev rfl)) ?_; intro a hA
              refine d_done (by kernel_rfl) ?_
              have hB1584 := hB1522.trans (hE1557.mono hB1522.size)
              have h1585 := hO1523.ext hE1557
              exact ⟨false, Option.some.inj H1552, hB1584, h1585, ((((((hA.nil.cons (hA.get 51 _ rfl)).cons (hA.get 9 _ rfl)).cons (hA.get 8 _ rfl)).cons (hA.get 7 _ rfl)).cons (hA.get 2 _ rfl)).cons (hA.get 1 _ rfl))⟩
          rintro a w1586 ⟨t1551, rfl, hB1554, hO1555, hA⟩
          try dsimp only at H1518
          refine TN ?_
          obtain ⟨o1601, H1600, H1518⟩ := Option.bind_eq_some_iff.1 H1518
          refine cutC (fun a w => ∃ (out1596 : (List Sample)) (A1597 : Option Addr) (c1598 : Nat), out1596 = o1601 ∧ (Below w0.heap.size w0 w) ∧ (Own pSample 35 w0.heap.size w (.slice A1597 out1596.length c1598) out1596) ∧ Has 58 [(1, (.slice A1 ids_1.length c1)), (2, (.int .i64 height_2)), (7, (.slice A1597 out1596.length c1598)), (8, (.int .i64 i1211)), (9, (.int .i64 t1513))] a) ?_ ?_
          · refine tcond (b := t1551) hA rfl (fun hb1604 => ?_) (fun hb1604 => ?_)
            · replace H1600 := ite_t hb1604 H1600
              refine wp_region_lit ?_
              refine L1 (stv hA (by decide) (run_move (hA.ev rfl)) ?_); intro a hA
              refine L1 (stv hA (by decide) (run_move (hA.ev rfl)) ?_); intro a hA
              refine L1 (stv hA (by decide) (run_move (hA.ev rfl)) ?_); intro a hA
              obtain ⟨⟨hi1605, hj1606⟩, H1600⟩ := ite_some H1600
              obtain ⟨ad1607, hq1608, hat1609⟩ := hO1555.row.elem Sample.z i1211 hi1605 hj1606
              refine L1 (stv hA (by decide) (run_idx Try.underlying28 Try.sizeOf35 (hA.ev rfl) hq1608 (hA.ev rfl) hi1605 hj1606) ?_); intro a hA
              refine L1 (stv hA (by decide) (run_field' Try.underlying35 rfl rfl Try.sizeOf3 (by decide) (hA.ev rfl)) ?_); intro a hA
              refine L1 (st_setrowf (x1 := out1509.getD i1211.toNat Sample.z) (y1 := { out1509.getD i1211.toNat Sample.z with Confirmed := height_2 }) (off := 34) elt28 hO1555 Try.sizeOf3 rfl (one_val rfl) hA rfl rfl hq1608 rfl hi1605 hj1606 (getD_getD _ _ _) (by decide) (Sample.splice_Confirmed _ _) ?_)
              intro w1610 hO1611 hU1612 a hA
              replace hA := hA.re (t := 7) rfl (len_set out1509 i1211.toNat ({ out1509.getD i1211.toNat Sample.z with Confirmed := height_2 }))
              replace hA := hA.re (t := 52) rfl (len_set out1509 i1211.toNat ({ out1509.getD i1211.toNat Sample.z with Confirmed := height_2 }))
              refine LQ ?_
              have hB1613 := hB1554.grown hU1612 hB1554.size (fun k hk => ((hO1555).lt k hk).1)
              exact ⟨(out1509.set i1211.toNat ({ out1509.getD i1211.toNat Sample.z with Confirmed := height_2 })), A1510, c1511, Option.some.inj H1600, hB1613, hO1611, (((((hA.nil.cons (hA.get 9 _ rfl)).cons (hA.get 8 _ rfl)).cons (hA.get 7 _ rfl)).cons (hA.get 2 _ rfl)).cons (hA.get 1 _ rfl))⟩
            · replace H1600 := ite_f hb1604 H1600
              refine wp_skip ?_
              exact ⟨out1509, A1510, c1511, Option.some.inj H1600, hB1554, hO1555, (((((hA.nil.cons (hA.get 9 _ rfl)).cons (hA.get 8 _ rfl)).cons (hA.get 7 _ rfl)).cons (hA.get 2 _ rfl)).cons (hA.get 1 _ rfl))⟩
          rintro a w1614 ⟨out1596, A1597, c1598, rfl, hB1602, hO1603, hA⟩
          try dsimp only at H1518
          refine BN ?_
          refine TN ?_
          refine wp_region_lit ?_
          refine L1 (stv hA (by decide) (run_move (hA.ev rfl)) ?_); intro a hA
          refine L1 (stv hA (by decide) (run_bin (hA.ev rfl) (hA.ev rfl) (bin_add _ _ _ _)) ?_); intro a hA
          refine L1 (stv hA (by decide) (run_assign (hA.ev rfl)) ?_); intro a hA
          refine LQ ?_
          exact ⟨_, Nat.lt_succ_self m1524, out1596, IntKind.i64.wrap (t1513 + 1), A1597, c1598, H1518, hB1602, hO1603, (((((hA.nil.cons (hA.get 9 _ rfl)).cons (hA.get 8 _ rfl)).cons (hA.get 7 _ rfl)).cons (hA.get 2 _ rfl)).cons (hA.get 1 _ rfl))⟩
        · replace H1518 := ite_f hb1526 H1518
          refine wp_exit ?_
          refine TX ?_
          refine TX ?_
          refine BX ?_
          exact ⟨out1509, A1510, c1511, Option.some.inj H1518, hB1522, hO1523, ((((hA.nil.cons (hA.get 8 _ rfl)).cons (hA.get 7 _ rfl)).cons (hA.get 2 _ rfl)).cons (hA.get 1 _ rfl))⟩
      rintro a w1615 ⟨out1514, A1515, c1516, rfl, hB1520, hO1521, hA⟩
      try dsimp only at H1216
      refine BN ?_
      refine TN ?_
      refine wp_region_lit ?_
      refine L1 (stv hA (by decide) (run_move (hA.ev rfl)) ?_); intro a hA
      refine L1 (stv hA (by decide) (run_bin (hA.ev rfl) (hA.ev rfl) (bin_add _ _ _ _)) ?_); intro a hA
      refine L1 (stv hA (by decide) (run_assign (hA.ev rfl)) ?_); intro a hA
      refine LQ ?_
      exact ⟨_, Nat.lt_succ_self m1223, out1514, IntKind.i64.wrap (i1211 + 1), A1515, c1516, H1216, hB1520, hO1521, ((((hA.nil.cons (hA.get 8 _ rfl)).cons (hA.get 7 _ rfl)).cons (hA.get 2 _ rfl)).cons (hA.get 1 _ rfl))⟩
    · replace H1216 := ite_f hb1225 H1216
      refine wp_exit ?_
      refine TX ?_
      refine TX ?_
      refine BX ?_
      exact ⟨out1207, A1208, c1209, Option.some.inj H1216, hB1220, hO1221, (hA.nil.cons (hA.get 7 _ rfl))⟩
  rintro a w1616 ⟨out1212, A1213, c1214, rfl, hB1218, hO1219, hA⟩
  try dsimp only at H
  refine TN ?_
  refine wp_seq ?_
  refine wp_region_lit ?_
  refine L1 (stv hA (by decide) (run_move (hA.ev rfl)) ?_); intro a hA
  refine L1 (stv hA (by decide) (run_assign (hA.ev rfl)) ?_); intro a hA
  refine LQ ?_
  refine TN ?_
  refine wp_ret ?_
  cases H
  exact ret_post1 (fn := Try.f25) hA rfl rfl ⟨_, rfl, hO1219, hB1218⟩

def ref33_in.f (k : Nat) (n_0 : Int) (low_1 : Int) (high_2 : Int) : Option Bool := (Option.bind (α := Bool) (if (decide (n_0 ≥ low_1)) = true then (some (decide (n_0 ≤ high_2))) else (some false)) (fun t2 => (some t2)))
theorem ref33_in.calls (k : Nat) (n_0 : Int) (low_1 : Int) (high_2 : Int)  (r : Bool) (w0 : World)  (H : ref33_in.f k n_0 low_1 high_2 = some r) :
    Calls Try.prog 23 #[(.int .i64 n_0), (.int .i64 low_1), (.int .i64 high_2)] w0 fun e w' => ∃ v, e = .returned v ∧ v = (.bool r) ∧ Below w0.heap.size w0 w' := by
  unfold ref33_in.f at H
  have hB0 := Below.refl w0.heap.size w0
  refine enterL (n := 15) [(.int .i64 n_0), (.int .i64 low_1), (.int .i64 high_2)] Try.func23 rfl rfl rfl ?_
  intro a hA
  refine wp_seq ?_
  refine wp_region_lit ?_
  refine L1 (stv hA (by decide) (run_assign (hA.ev rfl)) ?_); intro a hA
  refine LQ ?_
  refine TN ?_
  refine wp_seq ?_
  obtain ⟨o4, H3, H⟩ := Option.bind_eq_some_iff.1 H
  refine cutC (fun a w => ∃ (t2 : Bool), t2 = o4 ∧ w0 = w ∧ Has 15 [(6, (.bool t2))] a) ?_ ?_
  · refine wp_region_lit ?_
    refine L1 (stv hA (by decide) (run_move (hA.ev rfl)) ?_); intro a hA
    refine L1 (stv hA (by decide) (run_move (hA.ev rfl)) ?_); intro a hA
    refine L1 (stv hA (by decide) (run_bin (hA.ev rfl) (hA.ev rfl) (bin_geq _ _ _ _)) ?_); intro a hA
    refine L1 (stv hA (by decide) (run_move (hA.ev rfl)) ?_); intro a hA
    refine bsplit (b := (decide (n_0 ≥ low_1))) (fun hb5 => ?_) (fun hb5 => ?_)
    · replace H3 := ite_t hb5 H3
      have hA := hA.re (t := 10) rfl (congrArg Value.bool hb5)
      refine L1 (gate_on rfl rfl hA (by decide) rfl (stv hA (by decide) (run_move (hA.ev rfl)) ?_)); intro a hA
      refine L1 (gate_on rfl rfl hA (by decide) rfl (stv hA (by decide) (run_move (hA.ev rfl)) ?_)); intro a hA
      refine L1 (gate_on rfl rfl hA (by decide) rfl (stv hA (by decide) (run_bin (hA.ev rfl) (hA.ev rfl) (bin_leq _ _ _ _)) ?_)); intro a hA
      refine L1 (stv hA (by decide) (run_pick (hA.ev rfl) (fun _ => hA.ev rfl) (fun h => Bool.noConfusion h)) ?_); intro a hA
      refine L1 (stv hA (by decide) (run_assign (hA.ev rfl)) ?_); intro a hA
      refine LQ ?_
      exact ⟨(decide (n_0 ≤ high_2)), Option.some.inj H3, rfl, (hA.nil.cons (hA.get 6 _ rfl))⟩
    · replace H3 := ite_f hb5 H3
      have hA := hA.re (t := 10) rfl (congrArg Value.bool hb5)
      refine L1 (gate_off rfl (by decide) rfl hA (by decide) rfl rfl ?_); intro a hA
      refine L1 (gate_off rfl (by decide) rfl hA (by decide) rfl rfl ?_); intro a hA
      refine L1 (gate_off rfl (by decide) rfl hA (by decide) rfl rfl ?_); intro a hA
      refine L1 (stv hA (by decide) (run_pick (hA.ev rfl) (fun h => Bool.noConfusion h) (fun _ => hA.ev rfl)) ?_); intro a hA
      refine L1 (stv hA (by decide) (run_assign (hA.ev rfl)) ?_); intro a hA
      refine LQ ?_
      exact ⟨false, Option.some.inj H3, rfl, (hA.nil.cons (hA.get 6 _ rfl))⟩
  rintro a _ ⟨t2, rfl, rfl, hA⟩
  try dsimp only at H
  refine TN ?_
  refine wp_ret ?_
  cases H
  exact ret_post1 (fn := Try.f23) hA rfl rfl ⟨_, rfl, rfl, hB0⟩

def ref33_Bound.l0 (class_0 : Int) : Nat → Int → Int → Option (Int)
  | 0, _, _ => none
  | k + 1, n17, i18 => (if (decide (i18 < class_0)) = true then (ref33_Bound.l0 class_0 k (IntKind.i64.wrap (n17 + (IntKind.i64.wrap (n17.tdiv 2)))) (IntKind.i64.wrap (i18 + 1))) else (some n17))
def ref33_Bound.f (k : Nat) (class_0 : Int) : Option Int := ((ref33_in.f k class_0 0 23).bind fun r1 => (if (!r1) = true then (some 0) else (Option.bind (α := Int) (ref33_Bound.l0 class_0 k 10 0) (fun n19 => (some n19)))))
theorem ref33_Bound.calls (k : Nat) (class_0 : Int)  (r : Int) (w0 : World)  (H : ref33_Bound.f k class_0 = some r) :
    Calls Try.prog 11 #[(.int .i64 class_0)] w0 fun e w' => ∃ v, e = .returned v ∧ v = (.int .i64 r) ∧ Below w0.heap.size w0 w' := by
  unfold ref33_Bound.f at H
  have hB0 := Below.refl w0.heap.size w0
  refine enterL (n := 18) [(.int .i64 class_0)] Try.func11 rfl rfl rfl ?_
  intro a hA
  refine wp_seq ?_
  refine wp_region_lit ?_
  refine L1 (stv hA (by decide) (run_assign (hA.ev rfl)) ?_); intro a hA
  refine LQ ?_
  refine TN ?_
  refine wp_seq ?_
  refine wp_seq ?_
  refine wp_region_lit ?_
  refine L1 (stv hA (by decide) (run_move (hA.ev rfl)) ?_); intro a hA
  obtain ⟨r1, H2, H⟩ := Option.bind_eq_some_iff.1 H
  refine L1 (st_call Try.call23 hA [(.int .i64 class_0), (.int .i64 0), (.int .i64 23)] rfl (by decide) (ref33_in.calls _ _ _ _ _ _ H2) ?_)
  rintro _ w3 ⟨rfl, hE4⟩ a hA
  refine L1 (stv hA (by decide) (run_not (hA.ev rfl)) ?_); intro a hA
  refine LQ ?_
  refine TN ?_
  refine tcond (b := (!r1)) hA rfl (fun hb5 => ?_) (fun hb5 => ?_)
  · replace H := ite_t hb5 H
    refine wp_seq ?_
    refine wp_region_lit ?_
    refine L1 (stv hA (by decide) (run_assign (hA.ev rfl)) ?_); intro a hA
    refine LQ ?_
    refine TN ?_
    refine wp_ret ?_
    have hB6 := hB0.trans (hE4.mono hB0.size)
    cases H
    refine TR ?_
    exact ret_post1 (fn := Try.f11) hA rfl rfl ⟨_, rfl, rfl, hB6⟩
  · replace H := ite_f hb5 H
    refine wp_skip ?_
    refine TN ?_
    refine wp_seq ?_
    refine wp_region_lit ?_
    refine L1 (stv hA (by decide) (run_assign (hA.ev rfl)) ?_); intro a hA
    refine LQ ?_
    refine TN ?_
    refine wp_seq ?_
    refine wp_seq ?_
    refine wp_region_lit ?_
    refine L1 (stv hA (by decide) (run_assign (hA.ev rfl)) ?_); intro a hA
    refine LQ ?_
    refine TN ?_
    obtain ⟨o21, H20, H⟩ := Option.bind_eq_some_iff.1 H
    refine cutC (fun a w => ∃ (n19 : Int), n19 = o21 ∧ w3 = w ∧ Has 18 [(3, (.int .i64 n19))] a) ?_ ?_
    · refine wp_block ?_
      refine wp_loop_ghost (fun m a w => ∃ (n17 : Int) (i18 : Int), ref33_Bound.l0 class_0 m n17 i18 = some o21 ∧ w3 = w ∧ Has 18 [(0, (.int .i64 class_0)), (3, (.int .i64 n17)), (4, (.int .i64 i18))] a) k ⟨10, 0, H20, rfl, (((hA.nil.cons (hA.get 4 _ rfl)).cons (hA.get 3 _ rfl)).cons (hA.get 0 _ rfl))⟩ ?_
      rintro m22 a _ ⟨n17, i18, H20, rfl, hA⟩
      cases m22 with
      | zero => exact absurd H20 (by simp [ref33_Bound.l0])
      | succ m22 =>
      rw [ref33_Bound.l0] at H20
      refine wp_seq ?_
      refine wp_seq ?_
      refine wp_region_lit ?_
      refine L1 (stv hA (by decide) (run_move (hA.ev rfl)) ?_); intro a hA
      refine L1 (stv hA (by decide) (run_move (hA.ev rfl)) ?_); intro a hA
      refine L1 (stv hA (by decide) (run_bin (hA.ev rfl) (hA.ev rfl) (bin_lss _ _ _ _)) ?_); intro a hA
      refine LQ ?_
      refine TN ?_
      refine tcond (b := (decide (i18 < class_0))) hA rfl (fun hb24 => ?_) (fun hb24 => ?_)
      · replace H20 := ite_t hb24 H20
        refine wp_skip ?_
        refine TN ?_
        refine wp_seq ?_
        refine wp_block ?_
        refine wp_region_lit ?_
        refine L1 (stv hA (by decide) (run_move (hA.ev rfl)) ?_); intro a hA
        refine L1 (stv hA (by decide) (run_move (hA.ev rfl)) ?_); intro a hA
        refine L1 (stv hA (by decide) (run_bin (hA.ev rfl) (hA.ev rfl) (bin_quo _ _ _ _ (by decide))) ?_); intro a hA
        refine L1 (stv hA (by decide) (run_bin (hA.ev rfl) (hA.ev rfl) (bin_add _ _ _ _)) ?_); intro a hA
        refine L1 (stv hA (by decide) (run_assign (hA.ev rfl)) ?_); intro a hA
        refine LQ ?_
        refine BN ?_
        refine TN ?_
        refine wp_region_lit ?_
        refine L1 (stv hA (by decide) (run_move (hA.ev rfl)) ?_); intro a hA
        refine L1 (stv hA (by decide) (run_bin (hA.ev rfl) (hA.ev rfl) (bin_add _ _ _ _)) ?_); intro a hA
        refine L1 (stv hA (by decide) (run_assign (hA.ev rfl)) ?_); intro a hA
        refine LQ ?_
        exact ⟨_, Nat.lt_succ_self m22, IntKind.i64.wrap (n17 + (IntKind.i64.wrap (n17.tdiv 2))), IntKind.i64.wrap (i18 + 1), H20, rfl, (((hA.nil.cons (hA.get 4 _ rfl)).cons (hA.get 3 _ rfl)).cons (hA.get 0 _ rfl))⟩
      · replace H20 := ite_f hb24 H20
        refine wp_exit ?_
        refine TX ?_
        refine TX ?_
        refine BX ?_
        exact ⟨n17, Option.some.inj H20, rfl, (hA.nil.cons (hA.get 3 _ rfl))⟩
    rintro a _ ⟨n19, rfl, rfl, hA⟩
    try dsimp only at H
    refine TN ?_
    refine wp_seq ?_
    refine wp_region_lit ?_
    refine L1 (stv hA (by decide) (run_move (hA.ev rfl)) ?_); intro a hA
    refine L1 (stv hA (by decide) (run_assign (hA.ev rfl)) ?_); intro a hA
    refine LQ ?_
    refine TN ?_
    refine wp_ret ?_
    have hB26 := hB0.trans (hE4.mono hB0.size)
    cases H
    exact ret_post1 (fn := Try.f11) hA rfl rfl ⟨_, rfl, rfl, hB26⟩

def ref33_Class.l0 (rate_0 : Int) : Nat → Int → Int → Option (Int)
  | 0, _, _ => none
  | k + 1, out41, c42 => (if (decide (c42 < 24)) = true then ((ref33_Bound.f k c42).bind fun r51 => (Option.bind (α := Int) (if (decide (r51 ≤ rate_0)) = true then (some c42) else (some out41)) (fun out56 => (ref33_Class.l0 rate_0 k out56 (IntKind.i64.wrap (c42 + 1)))))) else (some out41))
def ref33_Class.f (k : Nat) (rate_0 : Int) : Option Int := (Option.bind (α := Int) (ref33_Class.l0 rate_0 k (-1) 0) (fun out43 => (some out43)))
theorem ref33_Class.calls (k : Nat) (rate_0 : Int)  (r : Int) (w0 : World)  (H : ref33_Class.f k rate_0 = some r) :
    Calls Try.prog 13 #[(.int .i64 rate_0)] w0 fun e w' => ∃ v, e = .returned v ∧ v = (.int .i64 r) ∧ Below w0.heap.size w0 w' := by
  unfold ref33_Class.f at H
  have hB0 := Below.refl w0.heap.size w0
  refine enterL (n := 15) [(.int .i64 rate_0)] Try.func13 rfl rfl rfl ?_
  intro a hA
  refine wp_seq ?_
  refine wp_region_lit ?_
  refine L1 (stv hA (by decide) (run_assign (hA.ev rfl)) ?_); intro a hA
  refine LQ ?_
  refine TN ?_
  refine wp_seq ?_
  refine wp_region_lit ?_
  refine L1 (stv hA (by decide) (run_assign (hA.ev rfl)) ?_); intro a hA
  refine LQ ?_
  refine TN ?_
  refine wp_seq ?_
  refine wp_seq ?_
  refine wp_region_lit ?_
  refine L1 (stv hA (by decide) (run_assign (hA.ev rfl)) ?_); intro a hA
  refine LQ ?_
  refine TN ?_
  obtain ⟨o45, H44, H⟩ := Option.bind_eq_some_iff.1 H
  refine cutC (fun a w => ∃ (out43 : Int), out43 = o45 ∧ (Below w0.heap.size w0 w) ∧ Has 15 [(3, (.int .i64 out43))] a) ?_ ?_
  · refine wp_block ?_
    refine wp_loop_ghost (fun m a w => ∃ (out41 : Int) (c42 : Int), ref33_Class.l0 rate_0 m out41 c42 = some o45 ∧ (Below w0.heap.size w0 w) ∧ Has 15 [(0, (.int .i64 rate_0)), (3, (.int .i64 out41)), (4, (.int .i64 c42))] a) k ⟨(-1), 0, H44, hB0, (((hA.nil.cons (hA.get 4 _ rfl)).cons (hA.get 3 _ rfl)).cons (hA.get 0 _ rfl))⟩ ?_
    rintro m48 a w49 ⟨out41, c42, H44, hB47, hA⟩
    cases m48 with
    | zero => exact absurd H44 (by simp [ref33_Class.l0])
    | succ m48 =>
    rw [ref33_Class.l0] at H44
    refine wp_seq ?_
    refine wp_seq ?_
    refine wp_region_lit ?_
    refine L1 (stv hA (by decide) (run_move (hA.ev rfl)) ?_); intro a hA
    refine L1 (stv hA (by decide) (run_bin (hA.ev rfl) (hA.ev rfl) (bin_lss _ _ _ _)) ?_); intro a hA
    refine LQ ?_
    refine TN ?_
    refine tcond (b := (decide (c42 < 24))) hA rfl (fun hb50 => ?_) (fun hb50 => ?_)
    · replace H44 := ite_t hb50 H44
      refine wp_skip ?_
      refine TN ?_
      refine wp_seq ?_
      refine wp_block ?_
      refine wp_seq ?_
      refine wp_region_lit ?_
      refine L1 (stv hA (by decide) (run_move (hA.ev rfl)) ?_); intro a hA
      obtain ⟨r51, H52, H44⟩ := Option.bind_eq_some_iff.1 H44
      refine L1 (st_call Try.call11 hA [(.int .i64 c42)] rfl (by decide) (ref33_Bound.calls _ _ _ _ H52) ?_)
      rintro _ w53 ⟨rfl, hE54⟩ a hA
      refine L1 (stv hA (by decide) (run_move (hA.ev rfl)) ?_); intro a hA
      refine L1 (stv hA (by decide) (run_bin (hA.ev rfl) (hA.ev rfl) (bin_leq _ _ _ _)) ?_); intro a hA
      refine LQ ?_
      refine TN ?_
      obtain ⟨o58, H57, H44⟩ := Option.bind_eq_some_iff.1 H44
      refine cutC (fun a w => ∃ (out56 : Int), out56 = o58 ∧ w53 = w ∧ Has 15 [(0, (.int .i64 rate_0)), (3, (.int .i64 out56)), (4, (.int .i64 c42))] a) ?_ ?_
      · refine tcond (b := (decide (r51 ≤ rate_0))) hA rfl (fun hb59 => ?_) (fun hb59 => ?_)
        · replace H57 := ite_t hb59 H57
          refine wp_region_lit ?_
          refine L1 (stv hA (by decide) (run_move (hA.ev rfl)) ?_); intro a hA
          refine L1 (stv hA (by decide) (run_assign (hA.ev rfl)) ?_); intro a hA
          refine LQ ?_
          exact ⟨c42, Option.some.inj H57, rfl, (((hA.nil.cons (hA.get 4 _ rfl)).cons (hA.get 3 _ rfl)).cons (hA.get 0 _ rfl))⟩
        · replace H57 := ite_f hb59 H57
          refine wp_skip ?_
          exact ⟨out41, Option.some.inj H57, rfl, (((hA.nil.cons (hA.get 4 _ rfl)).cons (hA.get 3 _ rfl)).cons (hA.get 0 _ rfl))⟩
      rintro a _ ⟨out56, rfl, rfl, hA⟩
      try dsimp only at H44
      refine BN ?_
      refine TN ?_
      refine wp_region_lit ?_
      refine L1 (stv hA (by decide) (run_move (hA.ev rfl)) ?_); intro a hA
      refine L1 (stv hA (by decide) (run_bin (hA.ev rfl) (hA.ev rfl) (bin_add _ _ _ _)) ?_); intro a hA
      refine L1 (stv hA (by decide) (run_assign (hA.ev rfl)) ?_); intro a hA
      refine LQ ?_
      have hB61 := hB47.trans (hE54.mono hB47.size)
      exact ⟨_, Nat.lt_succ_self m48, out56, IntKind.i64.wrap (c42 + 1), H44, hB61, (((hA.nil.cons (hA.get 4 _ rfl)).cons (hA.get 3 _ rfl)).cons (hA.get 0 _ rfl))⟩
    · replace H44 := ite_f hb50 H44
      refine wp_exit ?_
      refine TX ?_
      refine TX ?_
      refine BX ?_
      exact ⟨out41, Option.some.inj H44, hB47, (hA.nil.cons (hA.get 3 _ rfl))⟩
  rintro a w62 ⟨out43, rfl, hB46, hA⟩
  try dsimp only at H
  refine TN ?_
  refine wp_seq ?_
  refine wp_region_lit ?_
  refine L1 (stv hA (by decide) (run_move (hA.ev rfl)) ?_); intro a hA
  refine L1 (stv hA (by decide) (run_assign (hA.ev rfl)) ?_); intro a hA
  refine LQ ?_
  refine TN ?_
  refine wp_ret ?_
  cases H
  exact ret_post1 (fn := Try.f13) hA rfl rfl ⟨_, rfl, rfl, hB46⟩

def ref33_find.l0 (l_0 : (List Sample)) (id_1 : (Vector Int 32)) : Nat → Int → Option (Out Int (Unit))
  | 0, _ => none
  | k + 1, i47 => (if (decide (i47 < (l_0.length : Int))) = true then (if 0 ≤ i47 ∧ i47 < (l_0.length : Int) then (if (((l_0.getD i47.toNat Sample.z).ID) == id_1) = true then (some (.ret i47)) else (ref33_find.l0 l_0 id_1 k (IntKind.i64.wrap (i47 + 1)))) else none) else (some (.go ())))
def ref33_find.f (k : Nat) (l_0 : (List Sample)) (id_1 : (Vector Int 32)) : Option Int := (Option.bind (α := Out Int (Unit)) (ref33_find.l0 l_0 id_1 k 0) (fun o => match o with | .ret r => some r | .go _ => (some (-1))))
theorem ref33_find.calls (k : Nat) (l_0 : (List Sample)) (id_1 : (Vector Int 32)) (A0 : Option Addr) (c0 : Nat) (r : Int) (w0 : World) (hr0 : Row pSample w0 A0 l_0) (H : ref33_find.f k l_0 id_1 = some r) :
    Calls Try.prog 35 #[(.slice A0 l_0.length c0), (.agg (pHash.enc id_1).toArray)] w0 fun e w' => ∃ v, e = .returned v ∧ v = (.int .i64 r) ∧ Below w0.heap.size w0 w' := by
  unfold ref33_find.f at H
  have hB0 := Below.refl w0.heap.size w0
  refine enterL (n := 20) [(.slice A0 l_0.length c0), (.agg (pHash.enc id_1).toArray)] Try.func35 rfl rfl rfl ?_
  intro a hA
  refine wp_seq ?_
  refine wp_region_lit ?_
  refine L1 (st_box (cs := (pHash.enc id_1).toArray) hA rfl rfl (by decide) ?_)
  intro w2 g1 hg3 hz4 hX5 hE6 a hA
  have ge8 : _ ≤ g1 := Nat.le_trans hB0.size (Nat.le_of_eq hg3.symm)
  refine L1 (stv hA (by decide) (run_assign (hA.ev rfl)) ?_); intro a hA
  refine LQ ?_
  refine TN ?_
  refine wp_seq ?_
  refine wp_seq ?_
  refine wp_region_lit ?_
  refine L1 (stv hA (by decide) (run_assign (hA.ev rfl)) ?_); intro a hA
  refine LQ ?_
  refine TN ?_
  obtain ⟨o49, H48, H⟩ := Option.bind_eq_some_iff.1 H
  refine cutC (fun a w => (.go ()) = o49 ∧ (Below w0.heap.size w0 w) ∧ Has 20 [] a) ?_ ?_
  · refine wp_block ?_
    have hB53 := hB0.trans (hE6.mono hB0.size)
    refine wp_loop_ghost (fun m a w => ∃ (i47 : Int), ref33_find.l0 l_0 id_1 m i47 = some o49 ∧ (Below w0.heap.size w0 w) ∧ (w.heap[g1]? = some (.cells (pHash.enc id_1).toArray 33 (0, 0))) ∧ Has 20 [(0, (.slice A0 l_0.length c0)), (3, (.pointer (some (⟨g1, 0, none⟩)))), (5, (.int .i64 i47))] a) k ⟨0, H48, hB53, hX5, (((hA.nil.cons (hA.get 5 _ rfl)).cons (hA.get 3 _ rfl)).cons (hA.get 0 _ rfl))⟩ ?_
    rintro m54 a w55 ⟨i47, H48, hB51, hX52, hA⟩
    cases m54 with
    | zero => exact absurd H48 (by simp [ref33_find.l0])
    | succ m54 =>
    rw [ref33_find.l0] at H48
    refine wp_seq ?_
    refine wp_seq ?_
    refine wp_region_lit ?_
    refine L1 (stv hA (by decide) (run_move (hA.ev rfl)) ?_); intro a hA
    refine L1 (stv hA (by decide) (run_move (hA.ev rfl)) ?_); intro a hA
    refine L1 (stv hA (by decide) (run_len_slice Try.underlying28 (hA.ev rfl)) ?_); intro a hA
    refine L1 (stv hA (by decide) (run_bin (hA.ev rfl) (hA.ev rfl) (bin_lss _ _ _ _)) ?_); intro a hA
    refine LQ ?_
    refine TN ?_
    refine tcond (b := (decide (i47 < (l_0.length : Int)))) hA rfl (fun hb56 => ?_) (fun hb56 => ?_)
    · replace H48 := ite_t hb56 H48
      refine wp_skip ?_
      refine TN ?_
      refine wp_seq ?_
      refine wp_block ?_
      refine wp_seq ?_
      refine draw (fun w' => Below w55.heap.size w55 w') [] rfl ?_
      intro w57 hw hS
      have hE58 := hS
      clear hw
      refine d_takef (i := 0) (L' := #[true, false, false, false, false, false, false]) rfl (by kernel_rfl) rfl (fun _ _ _ h => h) hA (by decide) (fun _ => hS) (fun a w' hA => run_move (hA.ev rfl)) ?_; intro a hA
      refine d_takef (i := 1) (L' := #[true, true, false, false, false, false, false]) rfl (by kernel_rfl) rfl (fun _ _ _ h => h) hA (by decide) (fun _ => hS) (fun a w' hA => run_move (hA.ev rfl)) ?_; intro a hA
      obtain ⟨⟨hi59, hj60⟩, H48⟩ := ite_some H48
      obtain ⟨ad61, hq62, hat63⟩ := (hr0.ext hB51).elem Sample.z i47 hi59 hj60
      refine d_takef (i := 2) (L' := #[true, true, true, false, false, false, false]) rfl (by kernel_rfl) rfl (fun _ _ _ h => h) hA (by decide) (fun _ => hS) (fun a w' hA => run_idx Try.underlying28 Try.sizeOf35 (hA.ev rfl) hq62 (hA.ev rfl) hi59 hj60) ?_; intro a hA
      refine d_takef (i := 3) (L' := #[true, true, true, true, false, false, false]) rfl (by kernel_rfl) rfl (fun _ _ _ h => h) hA (by decide) (fun _ => hS) (fun a w' hA => run_field' Try.underlying35 rfl rfl Try.sizeOf33 (by decide) (hA.ev rfl)) ?_; intro a hA
      refine d_take (i := 4) (L' := #[true, true, true, true, true, false, false]) rfl (by kernel_rfl) rfl (fun _ _ _ h => h) hA (by decide) rfl hS (fun a w' hA hS' => run_ld (hA.ev rfl) (run_loadP Try.isAgg33 Try.sizeOf33 ((Sample.at_ID hat63).ext fun b h => hS'.block b h))) ?_; intro a hA
      refine d_take (i := 5) (L' := #[true, true, true, true, true, true, false]) rfl (by kernel_rfl) rfl (fun _ _ _ h => h) hA (by decide) rfl hS (fun a w' hA hS' => run_ld (hA.ev rfl) (run_loadP Try.isAgg33 Try.sizeOf33 ((At.box' hX52).ext fun b h => hS'.block b h))) ?_; intro a hA
      refine d_takef (i := 6) (L' := #[true, true, true, true, true, true, true]) rfl (by kernel_rfl) rfl (fun _ _ _ h => h) hA (by decide) (fun _ => hS) (fun a w' hA => run_aggeql eq_Hash rfl (by kernel_rfl) (hA.ev rfl) (hA.ev rfl)) ?_; intro a hA
      refine d_done (by kernel_rfl) ?_
      refine TN ?_
      refine tcond (b := (((l_0.getD i47.toNat Sample.z).ID) == id_1)) hA rfl (fun hb64 => ?_) (fun hb64 => ?_)
      · replace H48 := ite_t hb64 H48
        refine wp_seq ?_
        refine wp_region_lit ?_
        refine L1 (stv hA (by decide) (run_move (hA.ev rfl)) ?_); intro a hA
        refine L1 (stv hA (by decide) (run_assign (hA.ev rfl)) ?_); intro a hA
        refine LQ ?_
        refine TN ?_
        refine wp_ret ?_
        have hB65 := hB51.trans (hE58.mono hB51.size)
        cases H48
        dsimp only at H
        cases H
        refine BR ?_
        refine TR ?_
        refine TR ?_
        refine BR ?_
        refine TR ?_
        refine TR ?_
        exact ret_post1 (fn := Try.f35) hA rfl rfl ⟨_, rfl, rfl, hB65⟩
      · replace H48 := ite_f hb64 H48
        refine wp_skip ?_
        refine BN ?_
        refine TN ?_
        refine wp_region_lit ?_
        refine L1 (stv hA (by decide) (run_move (hA.ev rfl)) ?_); intro a hA
        refine L1 (stv hA (by decide) (run_bin (hA.ev rfl) (hA.ev rfl) (bin_add _ _ _ _)) ?_); intro a hA
        refine L1 (stv hA (by decide) (run_assign (hA.ev rfl)) ?_); intro a hA
        refine LQ ?_
        have hB66 := hB51.trans (hE58.mono hB51.size)
        have h67 := (hE58.block _ (lt_some hX52)).trans hX52
        exact ⟨_, Nat.lt_succ_self m54, IntKind.i64.wrap (i47 + 1), H48, hB66, h67, (((hA.nil.cons (hA.get 5 _ rfl)).cons (hA.get 3 _ rfl)).cons (hA.get 0 _ rfl))⟩
    · replace H48 := ite_f hb56 H48
      refine wp_exit ?_
      refine TX ?_
      refine TX ?_
      refine BX ?_
      exact ⟨Option.some.inj H48, hB51, hA.nil⟩
  rintro a w68 ⟨rfl, hB50, hA⟩
  try dsimp only at H
  refine TN ?_
  refine wp_seq ?_
  refine wp_region_lit ?_
  refine L1 (stv hA (by decide) (run_assign (hA.ev rfl)) ?_); intro a hA
  refine LQ ?_
  refine TN ?_
  refine wp_ret ?_
  cases H
  exact ret_post1 (fn := Try.f35) hA rfl rfl ⟨_, rfl, rfl, hB50⟩

def ref33_Observe.f (k : Nat) (l_0 : (List Sample)) (id_1 : (Vector Int 32)) (rate_2 : Int) (height_3 : Int) : Option ((List Sample) × Int) := (Option.bind (α := Bool) ((ref33_Class.f k rate_2).bind fun r27 => (if (decide (r27 < 0)) = true then (some true) else ((ref33_in.f k height_3 1 16777216).bind fun r36 => (some (!r36))))) (fun t21 => (if t21 = true then (some (([] : List Sample), 5)) else ((ref33_find.f k l_0 id_1).bind fun r44 => (if (decide (r44 ≥ 0)) = true then (some (([] : List Sample), 150)) else (if (decide ((l_0.length : Int) ≥ 2048)) = true then (some (([] : List Sample), 380)) else (if (([] : List Sample).length + l_0.length) * 56 ≤ 140737488355328 then ((ref33_Class.f k rate_2).bind fun r82 => (if ((([] : List Sample) ++ l_0).length + [({ { { Sample.z with ID := id_1 } with Class := r82 } with Seen := height_3 })].length) * 56 ≤ 140737488355328 then (some (((([] : List Sample) ++ l_0) ++ [({ { { Sample.z with ID := id_1 } with Class := r82 } with Seen := height_3 })]), 0)) else none)) else none)))))))
theorem ref33_Observe.calls (k : Nat) (l_0 : (List Sample)) (id_1 : (Vector Int 32)) (rate_2 : Int) (height_3 : Int) (A0 : Option Addr) (c0 : Nat) (r : ((List Sample) × Int)) (w0 : World) (hr0 : Row pSample w0 A0 l_0) (H : ref33_Observe.f k l_0 id_1 rate_2 height_3 = some r) :
    Calls Try.prog 26 #[(.slice A0 l_0.length c0), (.agg (pHash.enc id_1).toArray), (.int .i64 rate_2), (.int .i64 height_3)] w0 fun e w' => ∃ v, e = .returned v ∧ (∃ v0 : Value, v = .tuple #[v0, (.int .i64 r.2)] ∧ Own pSample 35 w0.heap.size w' v0 r.1) ∧ Below w0.heap.size w0 w' := by
  unfold ref33_Observe.f at H
  have hB0 := Below.refl w0.heap.size w0
  refine enterL (n := 38) [(.slice A0 l_0.length c0), (.agg (pHash.enc id_1).toArray), (.int .i64 rate_2), (.int .i64 height_3)] Try.func26 rfl rfl rfl ?_
  intro a hA
  refine wp_seq ?_
  refine wp_region_lit ?_
  refine L1 (st_box (cs := (pHash.enc id_1).toArray) hA rfl rfl (by decide) ?_)
  intro w2 g1 hg3 hz4 hX5 hE6 a hA
  have ge8 : _ ≤ g1 := Nat.le_trans hB0.size (Nat.le_of_eq hg3.symm)
  refine L1 (stv hA (by decide) (run_assign (hA.ev rfl)) ?_); intro a hA
  refine L1 (stv hA (by decide) (run_assign (hA.ev rfl)) ?_); intro a hA
  refine LQ ?_
  refine TN ?_
  refine wp_seq ?_
  refine wp_block ?_
  refine wp_seq ?_
  obtain ⟨o23, H22, H⟩ := Option.bind_eq_some_iff.1 H
  refine cutC (fun a w => ∃ (t21 : Bool), t21 = o23 ∧ (Below w0.heap.size w0 w) ∧ (w.heap[g1]? = some (.cells (pHash.enc id_1).toArray 33 (0, 0))) ∧ Has 38 [(0, (.slice A0 l_0.length c0)), (2, (.int .i64 rate_2)), (3, (.int .i64 height_3)), (5, (.pointer (some (⟨g1, 0, none⟩)))), (10, (.bool t21))] a) ?_ ?_
  · refine wp_region_lit ?_
    refine L1 (stv hA (by decide) (run_move (hA.ev rfl)) ?_); intro a hA
    have hB26 := hB0.trans (hE6.mono hB0.size)
    obtain ⟨r27, H28, H22⟩ := Option.bind_eq_some_iff.1 H22
    refine L1 (st_call Try.call13 hA [(.int .i64 rate_2)] rfl (by decide) (ref33_Class.calls _ _ _ _ H28) ?_)
    rintro _ w29 ⟨rfl, hE30⟩ a hA
    refine L1 (stv hA (by decide) (run_bin (hA.ev rfl) (hA.ev rfl) (bin_lss _ _ _ _)) ?_); intro a hA
    refine L1 (stv hA (by decide) (run_move (hA.ev rfl)) ?_); intro a hA
    refine bsplit (b := (decide (r27 < 0))) (fun hb31 => ?_) (fun hb31 => ?_)
    · replace H22 := ite_t hb31 H22
      have hA := hA.re (t := 14) rfl (congrArg Value.bool hb31)
      refine L1 (gate_off rfl (by decide) rfl hA (by decide) rfl rfl ?_); intro a hA
      refine L1 (gate_off rfl (by decide) rfl hA (by decide) rfl rfl ?_); intro a hA
      refine L1 (gate_off rfl (by decide) rfl hA (by decide) rfl rfl ?_); intro a hA
      refine L1 (stv hA (by decide) (run_pick (hA.ev rfl) (fun _ => hA.ev rfl) (fun h => Bool.noConfusion h)) ?_); intro a hA
      refine L1 (stv hA (by decide) (run_assign (hA.ev rfl)) ?_); intro a hA
      refine LQ ?_
      have hB32 := hB26.trans (hE30.mono hB26.size)
      have h33 := (hE30.block _ (lt_some hX5)).trans hX5
      exact ⟨true, Option.some.inj H22, hB32, h33, (((((hA.nil.cons (hA.get 10 _ rfl)).cons (hA.get 5 _ rfl)).cons (hA.get 3 _ rfl)).cons (hA.get 2 _ rfl)).cons (hA.get 0 _ rfl))⟩
    · replace H22 := ite_f hb31 H22
      have hA := hA.re (t := 14) rfl (congrArg Value.bool hb31)
      refine L1 (gate_on rfl rfl hA (by decide) rfl (stv hA (by decide) (run_move (hA.ev rfl)) ?_)); intro a hA
      have hB34 := hB26.trans (hE30.mono hB26.size)
      have h35 := (hE30.block _ (lt_some hX5)).trans hX5
      obtain ⟨r36, H37, H22⟩ := Option.bind_eq_some_iff.1 H22
      refine L1 (gate_on rfl rfl hA (by decide) rfl (st_call Try.call23 hA [(.int .i64 height_3), (.int .i64 1), (.int .i64 16777216)] rfl (by decide) (ref33_in.calls _ _ _ _ _ _ H37) ?_))
      rintro _ w38 ⟨rfl, hE39⟩ a hA
      refine L1 (gate_on rfl rfl hA (by decide) rfl (stv hA (by decide) (run_not (hA.ev rfl)) ?_)); intro a hA
      refine L1 (stv hA (by decide) (run_pick (hA.ev rfl) (fun h => Bool.noConfusion h) (fun _ => hA.ev rfl)) ?_); intro a hA
      refine L1 (stv hA (by decide) (run_assign (hA.ev rfl)) ?_); intro a hA
      refine LQ ?_
      have hB40 := hB34.trans (hE39.mono hB34.size)
      have h41 := (hE39.block _ (lt_some h35)).trans h35
      exact ⟨(!r36), Option.some.inj H22, hB40, h41, (((((hA.nil.cons (hA.get 10 _ rfl)).cons (hA.get 5 _ rfl)).cons (hA.get 3 _ rfl)).cons (hA.get 2 _ rfl)).cons (hA.get 0 _ rfl))⟩
  rintro a w42 ⟨t21, rfl, hB24, hX25, hA⟩
  try dsimp only at H
  refine TN ?_
  refine tcond (b := t21) hA rfl (fun hb43 => ?_) (fun hb43 => ?_)
  · replace H := ite_t hb43 H
    refine wp_seq ?_
    refine wp_region_lit ?_
    refine L1 (stv hA (by decide) (run_assign (hA.ev rfl)) ?_); intro a hA
    refine L1 (stv hA (by decide) (run_assign (hA.ev rfl)) ?_); intro a hA
    refine LQ ?_
    refine TN ?_
    refine wp_ret ?_
    cases H
    refine BR ?_
    refine TR ?_
    exact ret_post2 (fn := Try.f26) hA rfl rfl rfl ⟨_, rfl, ⟨_, rfl, Own.nil _ _ _ _⟩, hB24⟩
  · replace H := ite_f hb43 H
    refine wp_seq ?_
    refine wp_region_lit ?_
    refine L1 (stv hA (by decide) (run_move (hA.ev rfl)) ?_); intro a hA
    refine L1 (stv hA (by decide) (run_ld (hA.ev rfl) (run_loadP Try.isAgg33 Try.sizeOf33 (At.box' hX25))) ?_); intro a hA
    obtain ⟨r44, H45, H⟩ := Option.bind_eq_some_iff.1 H
    refine L1 (st_call Try.call35 hA [(.slice A0 l_0.length c0), (.agg (pHash.enc id_1).toArray)] rfl (by decide) (ref33_find.calls _ _ _ _ _ _ _ ((hr0.ext hB24)) H45) ?_)
    rintro _ w46 ⟨rfl, hE47⟩ a hA
    refine L1 (stv hA (by decide) (run_bin (hA.ev rfl) (hA.ev rfl) (bin_geq _ _ _ _)) ?_); intro a hA
    refine L1 (stv hA (by decide) (run_assign (hA.ev rfl)) ?_); intro a hA
    refine LQ ?_
    refine TN ?_
    refine tcond (b := (decide (r44 ≥ 0))) hA rfl (fun hb48 => ?_) (fun hb48 => ?_)
    · replace H := ite_t hb48 H
      refine wp_seq ?_
      refine wp_region_lit ?_
      refine L1 (stv hA (by decide) (run_assign (hA.ev rfl)) ?_); intro a hA
      refine L1 (stv hA (by decide) (run_assign (hA.ev rfl)) ?_); intro a hA
      refine LQ ?_
      refine TN ?_
      refine wp_ret ?_
      have hB49 := hB24.trans (hE47.mono hB24.size)
      cases H
      refine BR ?_
      refine TR ?_
      exact ret_post2 (fn := Try.f26) hA rfl rfl rfl ⟨_, rfl, ⟨_, rfl, Own.nil _ _ _ _⟩, hB49⟩
    · replace H := ite_f hb48 H
      refine wp_seq ?_
      refine wp_region_lit ?_
      refine L1 (stv hA (by decide) (run_move (hA.ev rfl)) ?_); intro a hA
      refine L1 (stv hA (by decide) (run_len_slice Try.underlying28 (hA.ev rfl)) ?_); intro a hA
      refine L1 (stv hA (by decide) (run_bin (hA.ev rfl) (hA.ev rfl) (bin_geq _ _ _ _)) ?_); intro a hA
      refine L1 (stv hA (by decide) (run_assign (hA.ev rfl)) ?_); intro a hA
      refine LQ ?_
      refine TN ?_
      refine tcond (b := (decide ((l_0.length : Int) ≥ 2048))) hA rfl (fun hb50 => ?_) (fun hb50 => ?_)
      · replace H := ite_t hb50 H
        refine wp_seq ?_
        refine wp_region_lit ?_
        refine L1 (stv hA (by decide) (run_assign (hA.ev rfl)) ?_); intro a hA
        refine L1 (stv hA (by decide) (run_assign (hA.ev rfl)) ?_); intro a hA
        refine LQ ?_
        refine TN ?_
        refine wp_ret ?_
        have hB51 := hB24.trans (hE47.mono hB24.size)
        cases H
        refine BR ?_
        refine TR ?_
        exact ret_post2 (fn := Try.f26) hA rfl rfl rfl ⟨_, rfl, ⟨_, rfl, Own.nil _ _ _ _⟩, hB51⟩
      · replace H := ite_f hb50 H
        refine wp_skip ?_
        refine BN ?_
        refine TN ?_
        refine wp_seq ?_
        have hB52 := hB24.trans (hE47.mono hB24.size)
        have h53 := (hE47.block _ (lt_some hX25)).trans hX25
        refine draw (fun w' => Below w46.heap.size w46 w') [] rfl ?_
        intro w54 hw hS
        have hE55 := hS
        clear hw
        refine d_takef (i := 1) (L' := #[false, true, false, false, false, false, false, false, false, false, false, false]) rfl (by kernel_rfl) rfl (fun _ _ _ h => h) hA (by decide) (fun _ => hS) (fun a w' hA => run_move (hA.ev rfl)) ?_; intro a hA
        refine d_take (i := 3) (L' := #[false, true, false, true, false, false, false, false, false, false, false, false]) rfl (by kernel_rfl) rfl (fun _ _ _ h => h) hA (by decide) rfl hS (fun a w' hA hS' => run_ld (hA.ev rfl) (run_loadP Try.isAgg33 Try.sizeOf33 ((At.box' h53).ext fun b h => hS'.block b h))) ?_; intro a hA
        refine d_takef (i := 4) (L' := #[false, true, false, true, true, false, false, false, false, false, false, false]) rfl (by kernel_rfl) rfl (fun _ _ _ h => h) hA (by decide) (fun _ => hS) (fun a w' hA => run_move (hA.ev rfl)) ?_; intro a hA
        refine d_takef (i := 6) (L' := #[false, true, false, true, true, false, true, false, false, false, false, false]) rfl (by kernel_rfl) rfl (fun _ _ _ h => h) hA (by decide) (fun _ => hS) (fun a w' hA => run_move (hA.ev rfl)) ?_; intro a hA
        have hB56 := hB52.trans (hE55.mono hB52.size)
        have h57 := (hE55.block _ (lt_some h53)).trans h53
        refine d_one (i := 0) (L' := #[true, true, false, true, true, false, true, false, false, false, false, false]) (by kernel_rfl) rfl rfl (st_lit0 elt28 hA (by decide) ?_)
        intro w59 g58 hg60 hz61 hO62 hE63 a hA
        have rl64 := fun k hk => ((hO62.base hS.size).lt k hk).1
        replace hO62 := hO62.base hB56.size
        have sp66 : Sep (some g1) (Value.ownBlock (.slice (some ⟨g58, 0, none⟩) 0 0)) := sep_lt (lt_box h57) hg60
        replace hS := hS.trans (hE63.mono hS.size)
        refine ⟨fun _ => hS, ?_⟩
        have hB67 := hB56.trans (hE63.mono hB56.size)
        have h68 := (hE63.block _ (lt_some h57)).trans h57
        obtain ⟨hl69, H⟩ := ite_some H
        refine d_one (i := 2) (L' := #[true, true, true, true, true, false, true, false, false, false, false, false]) (by kernel_rfl) rfl rfl (st_append (ys := l_0) elt28 (hO62) ((hr0.ext hB67)) hl69 hB67.size hA rfl rfl (by decide) ?_)
        intro v70 w71 hO72 hU73 ht74 a hA
        have sp78 := sep_app (sp66) (lt_box h68) ht74
        have rl79 := low_app rl64 ht74 hS.size
        obtain ⟨A76, c77, rfl⟩ := hO72.form1
        replace hS := hS.grown hU73 hS.size rl64
        refine ⟨fun _ => hS, ?_⟩
        have hB80 := hB67.grown hU73 hB67.size (fun k hk => ((hO62).lt k hk).1)
        have h81 := (hU73.block _ (lt_some h68) ((sep_lenR (sp66)) _ rfl)).trans h68
        obtain ⟨r82, H83, H⟩ := Option.bind_eq_some_iff.1 H
        refine d_one (i := 5) (L' := #[true, true, true, true, true, true, true, false, false, false, false, false]) (by kernel_rfl) rfl rfl (st_call Try.call13 hA [(.int .i64 rate_2)] rfl (by decide) (ref33_Class.calls _ _ _ _ H83) ?_)
        rintro _ w84 ⟨rfl, hE85⟩ a hA
        replace hS := hS.trans (hE85.mono hS.size)
        refine ⟨fun _ => hS, ?_⟩
        refine d_takef (i := 7) (L' := #[true, true, true, true, true, true, true, true, false, false, false, false]) rfl (by kernel_rfl) rfl (fun _ _ _ h => h) hA (by decide) (fun _ => hS) (fun a w' hA => run_build [(0, (.agg (pHash.enc id_1).toArray)), (1, (.int .i64 r82)), (2, (.int .i64 height_3))] zero35 Try.underlying35 (ss := [32, 1, 1, 1]) ⟨Try.sizeOf33, Try.sizeOf3, Try.sizeOf3, Try.sizeOf3, trivial⟩ hA rfl (fill_step rfl (by simp [Value.cells, Pl.len]; try rfl) (enc_fit _ _ rfl) (Sample.splice_ID _ _) (fill_step rfl rfl (enc_fit _ _ rfl) (Sample.splice_Class _ _) (fill_step rfl rfl (enc_fit _ _ rfl) (Sample.splice_Seen _ _) (fill_nil))))) ?_; intro a hA
        have hB86 := hB80.trans (hE85.mono hB80.size)
        have h87 := (hE85.block _ (lt_some h81)).trans h81
        have h88 := hO72.ext hE85
        refine d_one (i := 8) (L' := #[true, true, true, true, true, true, true, true, true, false, false, false]) (by kernel_rfl) rfl rfl (st_lit1 (x1 := ({ { { Sample.z with ID := id_1 } with Class := r82 } with Seen := height_3 })) elt28 (by decide) hA rfl rfl (by decide) ?_)
        intro w90 g89 hg91 hz92 hO93 hE94 a hA
        have rl95 := fun k hk => ((hO93.base hS.size).lt k hk).1
        replace hO93 := hO93.base hB86.size
        have sp97 : Sep (some g1) (Value.ownBlock (.slice (some ⟨g89, 0, none⟩) 1 1)) := sep_lt (lt_box h87) hg91
        have sp98 : Sep (Value.ownBlock (.slice A76 (([] : List Sample) ++ l_0).length c77)) (Value.ownBlock (.slice (some ⟨g89, 0, none⟩) 1 1)) := sep_lt (fun k hk => (h88.lt k hk).2) hg91
        replace hS := hS.trans (hE94.mono hS.size)
        refine ⟨fun _ => hS, ?_⟩
        have hB99 := hB86.trans (hE94.mono hB86.size)
        have h100 := h88.ext hE94
        have h101 := (hE94.block _ (lt_some h87)).trans h87
        obtain ⟨hl102, H⟩ := ite_some H
        refine d_one (i := 9) (L' := #[true, true, true, true, true, true, true, true, true, true, false, false]) (by kernel_rfl) rfl rfl (st_append (ys := [({ { { Sample.z with ID := id_1 } with Class := r82 } with Seen := height_3 })]) elt28 (h100) (hO93.row) hl102 hB99.size hA rfl rfl (by decide) ?_)
        intro v103 w104 hO105 hU106 ht107 a hA
        have sp111 := sep_app (sp78) (lt_box h101) ht107
        have sp112 := sep_app ((sp98).symm) (fun k hk => (hO93.lt k hk).2) ht107
        have rl113 := low_app rl79 ht107 hS.size
        obtain ⟨A109, c110, rfl⟩ := hO105.form1
        replace hS := hS.grown hU106 hS.size rl79
        refine ⟨fun _ => hS, ?_⟩
        refine d_takef (i := 10) (L' := #[true, true, true, true, true, true, true, true, true, true, true, false]) rfl (by kernel_rfl) rfl (fun _ _ _ h => h) hA (by decide) (fun _ => hS) (fun a w' hA => run_assign (hA.ev rfl)) ?_; intro a hA
        refine d_takef (i := 11) (L' := #[true, true, true, true, true, true, true, true, true, true, true, true]) rfl (by kernel_rfl) rfl (fun _ _ _ h => h) hA (by decide) (fun _ => hS) (fun a w' hA => run_assign (hA.ev rfl)) ?_; intro a hA
        refine d_done (by kernel_rfl) ?_
        refine TN ?_
        refine wp_ret ?_
        have hB114 := hB99.grown hU106 hB99.size (fun k hk => ((h100).lt k hk).1)
        cases H
        exact ret_post2 (fn := Try.f26) hA rfl rfl rfl ⟨_, rfl, ⟨_, rfl, hO105⟩, hB114⟩

def law33_samples.l0 (d_0_L : (List Int)) : Nat → (List Sample) → Int → Int → Option ((List Sample) × Int)
  | 0, _, _, _ => none
  | k + 1, l571, t575, x576 => (if (decide (t575 > 0)) = true then ((mill_Deck_Next.f k d_0_L x576 4).bind fun r599 => (Option.bind (α := (List Sample) × Int) (if (r599.1 == 0) = true then ((mill_Hashes.f k d_0_L r599.2 4).bind fun r699 => ((mill_Deck_Next.f k d_0_L r699.2 20).bind fun r714 => ((ref33_Confirm.f k l571 r699.1 (IntKind.i64.wrap (1 + r714.1))).bind fun r723 => (some (r723, r714.2))))) else ((mill_Hash.f k d_0_L r599.2).bind fun r741 => ((mill_Deck_Next.f k d_0_L r741.2 60).bind fun r749 => ((mill_Deck_Next.f k d_0_L r749.2 15).bind fun r757 => ((ref33_Observe.f k l571 r741.1 (IntKind.i64.wrap (10 + r749.1)) (IntKind.i64.wrap (1 + r757.1))).bind fun r765 => (if (r765.2 == 0) = true then (some (r765.1, r757.2)) else (some (l571, r757.2)))))))) (fun st => match st with | (l683, x687) => (law33_samples.l0 d_0_L k l683 (IntKind.i64.wrap (t575 - 1)) x687)))) else (some (l571, x576)))
def law33_samples.f (k : Nat) (d_0_L : (List Int)) (d_0_At : Int) : Option ((List Sample) × Int) := ((mill_Deck_Next.f k d_0_L d_0_At 20).bind fun r1 => (Option.bind (α := (List Sample) × Int) (law33_samples.l0 d_0_L k ([] : List Sample) r1.1 r1.2) (fun st => match st with | (l577, x581) => (some (l577, x581)))))
theorem law33_samples.calls (k : Nat) (d_0_L : (List Int)) (d_0_At : Int) (A0_0 : Option Addr) (c0_0 : Nat) (g : Nat) (wb : World) (r : ((List Sample) × Int)) (w0 : World) (hX : w0.heap[g]? = some (.cells #[(.slice A0_0 d_0_L.length c0_0), (.int .i64 d_0_At)] 53 (0, 0))) (hge : wb.heap.size ≤ g) (hB : Below wb.heap.size wb w0) (hr0_0 : Row (Pl.int .i64) wb A0_0 d_0_L) (H : law33_samples.f k d_0_L d_0_At = some r) :
    Calls Try.prog 14 #[(.pointer (some (⟨g, 0, none⟩)))] w0 fun e w' => ∃ v, e = .returned v ∧ Own pSample 35 w0.heap.size w' v r.1 ∧ w'.heap[g]? = some (.cells #[(.slice A0_0 d_0_L.length c0_0), (.int .i64 r.2)] 53 (0, 0)) ∧ w0.grownBy w' (some g) := by
  unfold law33_samples.f at H
  have hK0 := grown_refl w0 (some g)
  refine enterL (n := 41) [(.pointer (some (⟨g, 0, none⟩)))] Try.func14 rfl rfl rfl ?_
  intro a hA
  refine wp_seq ?_
  refine wp_region_lit ?_
  refine L1 (stv hA (by decide) (run_assign (hA.ev rfl)) ?_); intro a hA
  refine LQ ?_
  refine TN ?_
  refine wp_seq ?_
  refine wp_region_lit ?_
  refine L1 (stv hA (by decide) (run_assign (hA.ev rfl)) ?_); intro a hA
  refine LQ ?_
  refine TN ?_
  refine wp_seq ?_
  refine wp_seq ?_
  refine wp_region_lit ?_
  refine L1 (stv hA (by decide) (run_move (hA.ev rfl)) ?_); intro a hA
  obtain ⟨r1, H2, H⟩ := Option.bind_eq_some_iff.1 H
  refine L1 (st_call Try.call18 hA [(.pointer (some (⟨g, 0, none⟩))), (.int .i64 20)] rfl (by decide) (mill_Deck_Next.calls _ _ _ _ _ _ _ _ _ _ (hX) (hge) (hB) (hr0_0) H2) ?_)
  rintro _ w3 ⟨rfl, hX5, hE4⟩ a hA
  refine L1 (stv hA (by decide) (run_assign (hA.ev rfl)) ?_); intro a hA
  refine LQ ?_
  refine TN ?_
  obtain ⟨o583, H582, H⟩ := Option.bind_eq_some_iff.1 H
  refine cutC (fun a w => ∃ (l577 : (List Sample)) (x581 : Int) (A578 : Option Addr) (c579 : Nat), (l577, x581) = o583 ∧ (Below wb.heap.size wb w) ∧ (World.grownBy w0 w (some g)) ∧ (w.heap[g]? = some (.cells #[(.slice A0_0 d_0_L.length c0_0), (.int .i64 x581)] 53 (0, 0))) ∧ (Own pSample 35 w0.heap.size w (.slice A578 l577.length c579) l577) ∧ (Sep (some g) (Value.ownBlock (.slice A578 l577.length c579))) ∧ Has 41 [(3, (.slice A578 l577.length c579))] a) ?_ ?_
  · refine wp_block ?_
    have hB594 := hB.grown hE4 hB.size (fun k hk => by cases hk; exact hge)
    have hK595 := grown_trans hK0 hE4
    refine wp_loop_ghost (fun m a w => ∃ (l571 : (List Sample)) (t575 : Int) (x576 : Int) (A572 : Option Addr) (c573 : Nat), law33_samples.l0 d_0_L m l571 t575 x576 = some o583 ∧ (Below wb.heap.size wb w) ∧ (World.grownBy w0 w (some g)) ∧ (w.heap[g]? = some (.cells #[(.slice A0_0 d_0_L.length c0_0), (.int .i64 x576)] 53 (0, 0))) ∧ (Own pSample 35 w0.heap.size w (.slice A572 l571.length c573) l571) ∧ (Sep (some g) (Value.ownBlock (.slice A572 l571.length c573))) ∧ Has 41 [(0, (.pointer (some (⟨g, 0, none⟩)))), (3, (.slice A572 l571.length c573)), (4, (.int .i64 t575))] a) k ⟨([] : List Sample), r1.1, r1.2, none, 0, H582, hB594, hK595, hX5, (Own.nil _ _ _ _), sep_none, (((hA.nil.cons (hA.get 4 _ rfl)).cons (hA.get 3 _ rfl)).cons (hA.get 0 _ rfl))⟩ ?_
    rintro m596 a w597 ⟨l571, t575, x576, A572, c573, H582, hB589, hK590, hX591, hO592, sp593, hA⟩
    cases m596 with
    | zero => exact absurd H582 (by simp [law33_samples.l0])
    | succ m596 =>
    rw [law33_samples.l0] at H582
    refine wp_seq ?_
    refine wp_seq ?_
    refine wp_region_lit ?_
    refine L1 (stv hA (by decide) (run_move (hA.ev rfl)) ?_); intro a hA
    refine L1 (stv hA (by decide) (run_bin (hA.ev rfl) (hA.ev rfl) (bin_gtr _ _ _ _)) ?_); intro a hA
    refine LQ ?_
    refine TN ?_
    refine tcond (b := (decide (t575 > 0))) hA rfl (fun hb598 => ?_) (fun hb598 => ?_)
    · replace H582 := ite_t hb598 H582
      refine wp_skip ?_
      refine TN ?_
      refine wp_seq ?_
      refine wp_block ?_
      refine wp_seq ?_
      refine wp_region_lit ?_
      refine L1 (stv hA (by decide) (run_move (hA.ev rfl)) ?_); intro a hA
      obtain ⟨r599, H600, H582⟩ := Option.bind_eq_some_iff.1 H582
      refine L1 (st_call Try.call18 hA [(.pointer (some (⟨g, 0, none⟩))), (.int .i64 4)] rfl (by decide) (mill_Deck_Next.calls _ _ _ _ _ _ _ _ _ _ (hX591) (hge) (hB589) (hr0_0) H600) ?_)
      rintro _ w601 ⟨rfl, hX603, hE602⟩ a hA
      refine LQ ?_
      refine TN ?_
      refine wp_block ?_
      refine wp_seq ?_
      refine wp_region_lit ?_
      refine L1 (stv hA (by decide) (run_bin (hA.ev rfl) (hA.ev rfl) (bin_eql _ _ _ _)) ?_); intro a hA
      refine L1 (stv hA (by decide) (run_assign (hA.ev rfl)) ?_); intro a hA
      refine LQ ?_
      refine TN ?_
      obtain ⟨o689, H688, H582⟩ := Option.bind_eq_some_iff.1 H582
      refine cutC (fun a w => ∃ (l683 : (List Sample)) (x687 : Int) (A684 : Option Addr) (c685 : Nat), (l683, x687) = o689 ∧ (Below wb.heap.size wb w) ∧ (World.grownBy w0 w (some g)) ∧ (w.heap[g]? = some (.cells #[(.slice A0_0 d_0_L.length c0_0), (.int .i64 x687)] 53 (0, 0))) ∧ (Own pSample 35 w0.heap.size w (.slice A684 l683.length c685) l683) ∧ (Sep (some g) (Value.ownBlock (.slice A684 l683.length c685))) ∧ Has 41 [(0, (.pointer (some (⟨g, 0, none⟩)))), (3, (.slice A684 l683.length c685)), (4, (.int .i64 t575))] a) ?_ ?_
      · refine tcond (b := (r599.1 == 0)) hA rfl (fun hb695 => ?_) (fun hb695 => ?_)
        · replace H688 := ite_t hb695 H688
          refine wp_region_lit ?_
          refine L1 (stv hA (by decide) (run_move (hA.ev rfl)) ?_); intro a hA
          refine L1 (stv hA (by decide) (run_move (hA.ev rfl)) ?_); intro a hA
          have hB696 := hB589.grown hE602 hB589.size (fun k hk => by cases hk; exact hge)
          have hK697 := grown_trans hK590 hE602
          have h698 := hO592.kept hE602 ((sp593).symm)
          obtain ⟨r699, H700, H688⟩ := Option.bind_eq_some_iff.1 H688
          refine L1 (st_call Try.call20 hA [(.pointer (some (⟨g, 0, none⟩))), (.int .i64 4)] rfl (by decide) (mill_Hashes.calls _ _ _ _ _ _ _ _ _ _ (hX603) (hge) (hB696) (hr0_0) H700) ?_)
          rintro v707 w705 ⟨hO703, hX708, hE706⟩ a hA
          obtain ⟨A701, c702, rfl⟩ := hO703.form1
          have sp709 := sep_new (lt_box hX603) (fun k hk => (hO703.lt k hk).1)
          have sp710 := sep_new (fun k hk => (h698.lt k hk).2) (fun k hk => (hO703.lt k hk).1)
          replace hO703 := hO703.base hK697.size
          refine L1 (stv hA (by decide) (run_move (hA.ev rfl)) ?_); intro a hA
          have hB711 := hB696.grown hE706 hB696.size (fun k hk => by cases hk; exact hge)
          have hK712 := grown_trans hK697 hE706
          have h713 := h698.kept hE706 ((sp593).symm)
          obtain ⟨r714, H715, H688⟩ := Option.bind_eq_some_iff.1 H688
          refine L1 (st_call Try.call18 hA [(.pointer (some (⟨g, 0, none⟩))), (.int .i64 20)] rfl (by decide) (mill_Deck_Next.calls _ _ _ _ _ _ _ _ _ _ (hX708) (hge) (hB711) (hr0_0) H715) ?_)
          rintro _ w716 ⟨rfl, hX718, hE717⟩ a hA
          refine L1 (stv hA (by decide) (run_bin (hA.ev rfl) (hA.ev rfl) (bin_add _ _ _ _)) ?_); intro a hA
          have hB719 := hB711.grown hE717 hB711.size (fun k hk => by cases hk; exact hge)
          have hK720 := grown_trans hK712 hE717
          have h721 := h713.kept hE717 ((sp593).symm)
          have h722 := hO703.kept hE717 ((sp709).symm)
          obtain ⟨r723, H724, H688⟩ := Option.bind_eq_some_iff.1 H688
          refine L1 (st_call Try.call25 hA [(.slice A572 l571.length c573), (.slice A701 r699.1.length c702), (.int .i64 (IntKind.i64.wrap (1 + r714.1)))] rfl (by decide) (ref33_Confirm.calls _ _ _ _ _ _ _ _ _ _ (h721.row) (h722.row) H724) ?_)
          rintro v731 w729 ⟨hO727, hE730⟩ a hA
          obtain ⟨A725, c726, rfl⟩ := hO727.form1
          have sp732 := sep_new (lt_box hX718) (fun k hk => (hO727.lt k hk).1)
          have sp733 := sep_new (fun k hk => (h721.lt k hk).2) (fun k hk => (hO727.lt k hk).1)
          have sp734 := sep_new (fun k hk => (h722.lt k hk).2) (fun k hk => (hO727.lt k hk).1)
          replace hO727 := hO727.base hK720.size
          refine L1 (stv hA (by decide) (run_assign (hA.ev rfl)) ?_); intro a hA
          refine LQ ?_
          have hB735 := hB719.trans (hE730.mono hB719.size)
          have hK736 := grown_E hK720 hE730
          have h737 := (hE730.block _ (lt_some hX718)).trans hX718
          exact ⟨r723, r714.2, A725, c726, Option.some.inj H688, hB735, hK736, h737, hO727, (sp732), (((hA.nil.cons (hA.get 4 _ rfl)).cons (hA.get 3 _ rfl)).cons (hA.get 0 _ rfl))⟩
        · replace H688 := ite_f hb695 H688
          refine wp_seq ?_
          refine wp_region_lit ?_
          refine L1 (stv hA (by decide) (run_move (hA.ev rfl)) ?_); intro a hA
          refine L1 (stv hA (by decide) (run_move (hA.ev rfl)) ?_); intro a hA
          have hB738 := hB589.grown hE602 hB589.size (fun k hk => by cases hk; exact hge)
          have hK739 := grown_trans hK590 hE602
          have h740 := hO592.kept hE602 ((sp593).symm)
          obtain ⟨r741, H742, H688⟩ := Option.bind_eq_some_iff.1 H688
          refine L1 (st_call Try.call27 hA [(.pointer (some (⟨g, 0, none⟩)))] rfl (by decide) (mill_Hash.calls _ _ _ _ _ _ _ _ _ (hX603) (hge) (hB738) (hr0_0) H742) ?_)
          rintro _ w743 ⟨rfl, hX745, hE744⟩ a hA
          refine L1 (stv hA (by decide) (run_move (hA.ev rfl)) ?_); intro a hA
          have hB746 := hB738.grown hE744 hB738.size (fun k hk => by cases hk; exact hge)
          have hK747 := grown_trans hK739 hE744
          have h748 := h740.kept hE744 ((sp593).symm)
          obtain ⟨r749, H750, H688⟩ := Option.bind_eq_some_iff.1 H688
          refine L1 (st_call Try.call18 hA [(.pointer (some (⟨g, 0, none⟩))), (.int .i64 60)] rfl (by decide) (mill_Deck_Next.calls _ _ _ _ _ _ _ _ _ _ (hX745) (hge) (hB746) (hr0_0) H750) ?_)
          rintro _ w751 ⟨rfl, hX753, hE752⟩ a hA
          refine L1 (stv hA (by decide) (run_bin (hA.ev rfl) (hA.ev rfl) (bin_add _ _ _ _)) ?_); intro a hA
          refine L1 (stv hA (by decide) (run_move (hA.ev rfl)) ?_); intro a hA
          have hB754 := hB746.grown hE752 hB746.size (fun k hk => by cases hk; exact hge)
          have hK755 := grown_trans hK747 hE752
          have h756 := h748.kept hE752 ((sp593).symm)
          obtain ⟨r757, H758, H688⟩ := Option.bind_eq_some_iff.1 H688
          refine L1 (st_call Try.call18 hA [(.pointer (some (⟨g, 0, none⟩))), (.int .i64 15)] rfl (by decide) (mill_Deck_Next.calls _ _ _ _ _ _ _ _ _ _ (hX753) (hge) (hB754) (hr0_0) H758) ?_)
          rintro _ w759 ⟨rfl, hX761, hE760⟩ a hA
          refine L1 (stv hA (by decide) (run_bin (hA.ev rfl) (hA.ev rfl) (bin_add _ _ _ _)) ?_); intro a hA
          have hB762 := hB754.grown hE760 hB754.size (fun k hk => by cases hk; exact hge)
          have hK763 := grown_trans hK755 hE760
          have h764 := h756.kept hE760 ((sp593).symm)
          obtain ⟨r765, H766, H688⟩ := Option.bind_eq_some_iff.1 H688
          refine L1 (st_call Try.call26 hA [(.slice A572 l571.length c573), (.agg (pHash.enc r741.1).toArray), (.int .i64 (IntKind.i64.wrap (10 + r749.1))), (.int .i64 (IntKind.i64.wrap (1 + r757.1)))] rfl (by decide) (ref33_Observe.calls _ _ _ _ _ _ _ _ _ (h764.row) H766) ?_)
          rintro _ w771 ⟨⟨v773, rfl, hO769⟩, hE772⟩ a hA
          obtain ⟨A767, c768, rfl⟩ := hO769.form1
          have sp774 := sep_new (lt_box hX761) (fun k hk => (hO769.lt k hk).1)
          have sp775 := sep_new (fun k hk => (h764.lt k hk).2) (fun k hk => (hO769.lt k hk).1)
          replace hO769 := hO769.base hK763.size
          refine L1 (stv hA (by decide) (run_move (hA.ev rfl)) ?_); intro a hA
          refine L1 (stv hA (by decide) (run_ext (hA.ev rfl) rfl) ?_); intro a hA
          refine L1 (stv hA (by decide) (run_ext (hA.ev rfl) rfl) ?_); intro a hA
          refine L1 (stv hA (by decide) (run_assign (hA.ev rfl)) ?_); intro a hA
          refine L1 (stv hA (by decide) (run_assign (hA.ev rfl)) ?_); intro a hA
          refine LQ ?_
          refine TN ?_
          refine wp_seq ?_
          refine wp_region_lit ?_
          refine L1 (stv hA (by decide) (run_move (hA.ev rfl)) ?_); intro a hA
          refine L1 (stv hA (by decide) (run_bin (hA.ev rfl) (hA.ev rfl) (bin_eql _ _ _ _)) ?_); intro a hA
          refine LQ ?_
          refine TN ?_
          refine tcond (b := (r765.2 == 0)) hA rfl (fun hb776 => ?_) (fun hb776 => ?_)
          · replace H688 := ite_t hb776 H688
            refine wp_region_lit ?_
            refine L1 (stv hA (by decide) (run_move (hA.ev rfl)) ?_); intro a hA
            refine L1 (stv hA (by decide) (run_assign (hA.ev rfl)) ?_); intro a hA
            refine LQ ?_
            have hB777 := hB762.trans (hE772.mono hB762.size)
            have hK778 := grown_E hK763 hE772
            have h779 := (hE772.block _ (lt_some hX761)).trans hX761
            exact ⟨r765.1, r757.2, A767, c768, Option.some.inj H688, hB777, hK778, h779, hO769, (sp774), (((hA.nil.cons (hA.get 4 _ rfl)).cons (hA.get 3 _ rfl)).cons (hA.get 0 _ rfl))⟩
          · replace H688 := ite_f hb776 H688
            refine wp_skip ?_
            have hB780 := hB762.trans (hE772.mono hB762.size)
            have hK781 := grown_E hK763 hE772
            have h782 := (hE772.block _ (lt_some hX761)).trans hX761
            have h783 := h764.ext hE772
            exact ⟨l571, r757.2, A572, c573, Option.some.inj H688, hB780, hK781, h782, h783, (sp593), (((hA.nil.cons (hA.get 4 _ rfl)).cons (hA.get 3 _ rfl)).cons (hA.get 0 _ rfl))⟩
      rintro a w784 ⟨l683, x687, A684, c685, rfl, hB690, hK691, hX692, hO693, sp694, hA⟩
      try dsimp only at H582
      refine BN ?_
      refine BN ?_
      refine TN ?_
      refine wp_region_lit ?_
      refine L1 (stv hA (by decide) (run_move (hA.ev rfl)) ?_); intro a hA
      refine L1 (stv hA (by decide) (run_bin (hA.ev rfl) (hA.ev rfl) (bin_sub _ _ _ _)) ?_); intro a hA
      refine L1 (stv hA (by decide) (run_assign (hA.ev rfl)) ?_); intro a hA
      refine LQ ?_
      exact ⟨_, Nat.lt_succ_self m596, l683, IntKind.i64.wrap (t575 - 1), x687, A684, c685, H582, hB690, hK691, hX692, hO693, (sp694), (((hA.nil.cons (hA.get 4 _ rfl)).cons (hA.get 3 _ rfl)).cons (hA.get 0 _ rfl))⟩
    · replace H582 := ite_f hb598 H582
      refine wp_exit ?_
      refine TX ?_
      refine TX ?_
      refine BX ?_
      exact ⟨l571, x576, A572, c573, Option.some.inj H582, hB589, hK590, hX591, hO592, (sp593), (hA.nil.cons (hA.get 3 _ rfl))⟩
  rintro a w785 ⟨l577, x581, A578, c579, rfl, hB584, hK585, hX586, hO587, sp588, hA⟩
  try dsimp only at H
  refine TN ?_
  refine wp_seq ?_
  refine wp_region_lit ?_
  refine L1 (stv hA (by decide) (run_move (hA.ev rfl)) ?_); intro a hA
  refine L1 (stv hA (by decide) (run_assign (hA.ev rfl)) ?_); intro a hA
  refine LQ ?_
  refine TN ?_
  refine wp_ret ?_
  cases H
  exact ret_post1 (fn := Try.f14) hA rfl rfl ⟨_, rfl, hO587, hX586, hK585⟩

def mill_New.f (k : Nat) (l_0 : (List Int)) : Option Int := (some 0)
theorem mill_New.calls (k : Nat) (l_0 : (List Int)) (A0 : Option Addr) (c0 : Nat) (r : Int) (w0 : World) (hr0 : Row (Pl.int .i64) w0 A0 l_0) (H : mill_New.f k l_0 = some r) :
    Calls Try.prog 15 #[(.slice A0 l_0.length c0)] w0 fun e w' => ∃ v, e = .returned v ∧ (∃ g : Nat, v = .pointer (some ⟨g, 0, none⟩) ∧ w0.heap.size ≤ g ∧ w'.heap[g]? = some (.cells #[(.slice A0 l_0.length c0), (.int .i64 r)] 53 (0, 0))) ∧ Below w0.heap.size w0 w' := by
  unfold mill_New.f at H
  have hB0 := Below.refl w0.heap.size w0
  refine enterL (n := 6) [(.slice A0 l_0.length c0)] Try.func15 rfl rfl rfl ?_
  intro a hA
  refine wp_seq ?_
  refine wp_region_lit ?_
  refine L1 (stv hA (by decide) (run_assign (hA.ev rfl)) ?_); intro a hA
  refine LQ ?_
  refine TN ?_
  refine wp_seq ?_
  refine wp_region_lit ?_
  refine L1 (stv hA (by decide) (run_move (hA.ev rfl)) ?_); intro a hA
  refine L1 (stv hA (by decide) (run_build (cells := #[(.slice A0 l_0.length c0), (.int .i64 0)]) [(0, (.slice A0 l_0.length c0))] zero53 Try.underlying53 (ss := [1, 1]) ⟨Try.sizeOf24, Try.sizeOf3, trivial⟩ hA rfl (by rfl)) ?_); intro a hA
  refine L1 (st_box (cs := #[(.slice A0 l_0.length c0), (.int .i64 0)]) hA rfl rfl (by decide) ?_)
  intro w2 g1 hg3 hz4 hX5 hE6 a hA
  have ge8 : _ ≤ g1 := Nat.le_trans hB0.size (Nat.le_of_eq hg3.symm)
  refine L1 (stv hA (by decide) (run_assign (hA.ev rfl)) ?_); intro a hA
  refine LQ ?_
  refine TN ?_
  refine wp_ret ?_
  have hB9 := hB0.trans (hE6.mono hB0.size)
  cases H
  exact ret_post1 (fn := Try.f15) hA rfl rfl ⟨_, rfl, ⟨_, rfl, ge8, hX5⟩, hB9⟩

def fees_Count.l0 (l_0 : (List Sample)) (class_1 : Int) (blocks_2 : Int) (height_3 : Int) : Nat → Int → Int → Int → Option (Int × Int)
  | 0, _, _, _ => none
  | k + 1, within130, total131, t132 => (if (decide (t132 < (l_0.length : Int))) = true then (if 0 ≤ t132 ∧ t132 < (l_0.length : Int) then (Option.bind (α := Bool) (if (((l_0.getD t132.toNat Sample.z).Class) != class_1) = true then (some true) else (if (decide (((l_0.getD t132.toNat Sample.z).Confirmed) < 1)) = true then (some (decide ((IntKind.i64.wrap (((l_0.getD t132.toNat Sample.z).Seen) + blocks_2)) > height_3))) else (some false))) (fun t162 => (if t162 = true then (fees_Count.l0 l_0 class_1 blocks_2 height_3 k within130 total131 (IntKind.i64.wrap (t132 + 1))) else (Option.bind (α := Bool) (if (decide (((l_0.getD t132.toNat Sample.z).Confirmed) ≥ 1)) = true then (some (decide ((IntKind.i64.wrap (((l_0.getD t132.toNat Sample.z).Confirmed) - ((l_0.getD t132.toNat Sample.z).Seen))) ≤ blocks_2))) else (some false)) (fun t171 => (Option.bind (α := Int) (if t171 = true then (some (IntKind.i64.wrap (within130 + 1))) else (some within130)) (fun within177 => (fees_Count.l0 l_0 class_1 blocks_2 height_3 k within177 (IntKind.i64.wrap (total131 + 1)) (IntKind.i64.wrap (t132 + 1)))))))))) else none) else (some (within130, total131)))
def fees_Count.f (k : Nat) (l_0 : (List Sample)) (class_1 : Int) (blocks_2 : Int) (height_3 : Int) : Option (Int × Int) := (Option.bind (α := Int × Int) (fees_Count.l0 l_0 class_1 blocks_2 height_3 k 0 0 0) (fun st => match st with | (within133, total134) => (some (within133, total134))))
theorem fees_Count.calls (k : Nat) (l_0 : (List Sample)) (class_1 : Int) (blocks_2 : Int) (height_3 : Int) (A0 : Option Addr) (c0 : Nat) (r : (Int × Int)) (w0 : World) (hr0 : Row pSample w0 A0 l_0) (H : fees_Count.f k l_0 class_1 blocks_2 height_3 = some r) :
    Calls Try.prog 28 #[(.slice A0 l_0.length c0), (.int .i64 class_1), (.int .i64 blocks_2), (.int .i64 height_3)] w0 fun e w' => ∃ v, e = .returned v ∧ (v = .tuple #[(.int .i64 r.1), (.int .i64 r.2)]) ∧ Below w0.heap.size w0 w' := by
  unfold fees_Count.f at H
  have hB0 := Below.refl w0.heap.size w0
  refine enterL (n := 54) [(.slice A0 l_0.length c0), (.int .i64 class_1), (.int .i64 blocks_2), (.int .i64 height_3)] Try.func28 rfl rfl rfl ?_
  intro a hA
  refine wp_seq ?_
  refine wp_region_lit ?_
  refine L1 (stv hA (by decide) (run_assign (hA.ev rfl)) ?_); intro a hA
  refine L1 (stv hA (by decide) (run_assign (hA.ev rfl)) ?_); intro a hA
  refine LQ ?_
  refine TN ?_
  refine wp_seq ?_
  refine wp_seq ?_
  refine wp_region_lit ?_
  refine L1 (stv hA (by decide) (run_move (hA.ev rfl)) ?_); intro a hA
  refine L1 (stv hA (by decide) (run_len_slice Try.underlying28 (hA.ev rfl)) ?_); intro a hA
  refine L1 (stv hA (by decide) (run_move (hA.ev rfl)) ?_); intro a hA
  refine LQ ?_
  refine TN ?_
  obtain ⟨o136, H135, H⟩ := Option.bind_eq_some_iff.1 H
  refine cutC (fun a w => ∃ (within133 : Int) (total134 : Int), (within133, total134) = o136 ∧ (Below w0.heap.size w0 w) ∧ Has 54 [(8, (.int .i64 within133)), (9, (.int .i64 total134))] a) ?_ ?_
  · refine wp_block ?_
    refine wp_loop_ghost (fun m a w => ∃ (within130 : Int) (total131 : Int) (t132 : Int), fees_Count.l0 l_0 class_1 blocks_2 height_3 m within130 total131 t132 = some o136 ∧ (Below w0.heap.size w0 w) ∧ Has 54 [(1, (.int .i64 class_1)), (2, (.int .i64 blocks_2)), (3, (.int .i64 height_3)), (8, (.int .i64 within130)), (9, (.int .i64 total131)), (12, (.slice A0 l_0.length c0)), (13, (.int .i64 (l_0.length : Int))), (14, (.int .i64 t132))] a) k ⟨0, 0, 0, H135, hB0, ((((((((hA.nil.cons (hA.get 14 _ rfl)).cons (hA.get 13 _ rfl)).cons (hA.get 12 _ rfl)).cons (hA.get 9 _ rfl)).cons (hA.get 8 _ rfl)).cons (hA.get 3 _ rfl)).cons (hA.get 2 _ rfl)).cons (hA.get 1 _ rfl))⟩ ?_
    rintro m139 a w140 ⟨within130, total131, t132, H135, hB138, hA⟩
    cases m139 with
    | zero => exact absurd H135 (by simp [fees_Count.l0])
    | succ m139 =>
    rw [fees_Count.l0] at H135
    refine wp_seq ?_
    refine wp_region_lit ?_
    refine L1 (stv hA (by decide) (run_bin (hA.ev rfl) (hA.ev rfl) (bin_lss _ _ _ _)) ?_); intro a hA
    refine LQ ?_
    refine TN ?_
    refine wp_seq ?_
    refine tcond (b := (decide (t132 < (l_0.length : Int)))) hA rfl (fun hb141 => ?_) (fun hb141 => ?_)
    · replace H135 := ite_t hb141 H135
      refine wp_skip ?_
      refine TN ?_
      refine wp_seq ?_
      refine wp_block ?_
      refine wp_seq ?_
      refine wp_region_lit ?_
      obtain ⟨⟨hi142, hj143⟩, H135⟩ := ite_some H135
      obtain ⟨ad144, hq145, hat146⟩ := (hr0.ext hB138).elem Sample.z t132 hi142 hj143
      refine L1 (stv hA (by decide) (run_idx Try.underlying28 Try.sizeOf35 (hA.ev rfl) hq145 (hA.ev rfl) hi142 hj143) ?_); intro a hA
      refine L1 (stv hA (by decide) (run_ld (hA.ev rfl) (run_loadP Try.isAgg35 Try.sizeOf35 hat146)) ?_); intro a hA
      refine L1 (st_alloc (cs := (pSample.enc Sample.z).toArray) zero35 rfl hA (by decide) ?_)
      intro w148 g147 hg149 hz150 hX151 hE152 a hA
      have ge154 : _ ≤ g147 := Nat.le_trans hB138.size (Nat.le_of_eq hg149.symm)
      have hB155 := hB138.trans (hE152.mono hB138.size)
      refine L1 (st_store (g := g147) (off := 0) (cur := (pSample.enc Sample.z).toArray) Try.sizeOf35 hA rfl (by simp [add_mk]) rfl (agg_size _ _) (agg_one _ _) hX151 (Nat.le_of_ble_eq_true (enc_fit _ _ rfl)) ?_)
      intro w156 hX157 hU158 hz159 a hA
      replace hX157 : w156.heap[g147]? = some (.cells (pSample.enc (l_0.getD t132.toNat Sample.z)).toArray 35 (0, 0)) := hX157.trans (congrArg (fun c => some (Obj.cells c 35 (0, 0))) (splice_all _ _ (agg_same _ _ _)))
      refine LQ ?_
      refine TN ?_
      refine wp_seq ?_
      refine wp_seq ?_
      obtain ⟨o164, H163, H135⟩ := Option.bind_eq_some_iff.1 H135
      refine cutC (fun a w => ∃ (t162 : Bool), t162 = o164 ∧ w156 = w ∧ Has 54 [(1, (.int .i64 class_1)), (2, (.int .i64 blocks_2)), (3, (.int .i64 height_3)), (8, (.int .i64 within130)), (9, (.int .i64 total131)), (11, (.pointer (some (⟨g147, 0, none⟩)))), (12, (.slice A0 l_0.length c0)), (13, (.int .i64 (l_0.length : Int))), (14, (.int .i64 t132)), (34, (.bool t162))] a) ?_ ?_
      · refine wp_region_lit ?_
        refine L1 (stv hA (by decide) (run_field' Try.underlying35 rfl rfl Try.sizeOf3 (by decide) (hA.ev rfl)) ?_); intro a hA
        refine L1 (stv hA (by decide) (run_ld (hA.ev rfl) (run_loadS Try.isAgg3 (Sample.at_Class (At.box' hX157)))) ?_); intro a hA
        refine L1 (stv hA (by decide) (run_move (hA.ev rfl)) ?_); intro a hA
        refine L1 (stv hA (by decide) (run_bin (hA.ev rfl) (hA.ev rfl) (bin_neq _ _ _ _)) ?_); intro a hA
        refine L1 (stv hA (by decide) (run_move (hA.ev rfl)) ?_); intro a hA
        refine bsplit (b := (((l_0.getD t132.toNat Sample.z).Class) != class_1)) (fun hb165 => ?_) (fun hb165 => ?_)
        · replace H163 := ite_t hb165 H163
          have hA := hA.re (t := 22) rfl (congrArg Value.bool hb165)
          refine L1 (gate_off rfl (by decide) rfl hA (by decide) rfl rfl ?_); intro a hA
          refine L1 (gate_off rfl (by decide) rfl hA (by decide) rfl rfl ?_); intro a hA
          refine L1 (gate_off rfl (by decide) rfl hA (by decide) rfl rfl ?_); intro a hA
          refine L1 (gate_off rfl (by decide) rfl hA (by decide) rfl rfl ?_); intro a hA
          refine L1 (gate_undef rfl (by decide) rfl hA (by decide) rfl ?_); intro a hA
          refine L1 (gate_undef rfl (by decide) rfl hA (by decide) rfl ?_); intro a hA
          refine L1 (gate_undef rfl (by decide) rfl hA (by decide) rfl ?_); intro a hA
          refine L1 (gate_undef rfl (by decide) rfl hA (by decide) rfl ?_); intro a hA
          refine L1 (gate_undef rfl (by decide) rfl hA (by decide) rfl ?_); intro a hA
          refine L1 (gate_undef rfl (by decide) rfl hA (by decide) rfl ?_); intro a hA
          refine L1 (gate_off rfl (by decide) rfl hA (by decide) rfl rfl ?_); intro a hA
          refine L1 (stv hA (by decide) (run_pick (hA.ev rfl) (fun _ => hA.ev rfl) (fun h => Bool.noConfusion h)) ?_); intro a hA
          refine LQ ?_
          exact ⟨true, Option.some.inj H163, rfl, ((((((((((hA.nil.cons (hA.get 34 _ rfl)).cons (hA.get 14 _ rfl)).cons (hA.get 13 _ rfl)).cons (hA.get 12 _ rfl)).cons (hA.get 11 _ rfl)).cons (hA.get 9 _ rfl)).cons (hA.get 8 _ rfl)).cons (hA.get 3 _ rfl)).cons (hA.get 2 _ rfl)).cons (hA.get 1 _ rfl))⟩
        · replace H163 := ite_f hb165 H163
          have hA := hA.re (t := 22) rfl (congrArg Value.bool hb165)
          refine L1 (gate_on rfl rfl hA (by decide) rfl (stv hA (by decide) (run_field' Try.underlying35 rfl rfl Try.sizeOf3 (by decide) (hA.ev rfl)) ?_)); intro a hA
          refine L1 (gate_on rfl rfl hA (by decide) rfl (stv hA (by decide) (run_ld (hA.ev rfl) (run_loadS Try.isAgg3 (Sample.at_Confirmed (At.box' hX157)))) ?_)); intro a hA
          refine L1 (gate_on rfl rfl hA (by decide) rfl (stv hA (by decide) (run_bin (hA.ev rfl) (hA.ev rfl) (bin_lss _ _ _ _)) ?_)); intro a hA
          refine L1 (gate_on rfl rfl hA (by decide) rfl (stv hA (by decide) (run_move (hA.ev rfl)) ?_)); intro a hA
          refine bsplit (b := (decide (((l_0.getD t132.toNat Sample.z).Confirmed) < 1))) (fun hb166 => ?_) (fun hb166 => ?_)
          · replace H163 := ite_t hb166 H163
            have hA := hA.re (t := 26) rfl (congrArg Value.bool hb166)
            refine L1 (gate_on rfl rfl hA (by decide) rfl (stv hA (by decide) (run_field' Try.underlying35 rfl rfl Try.sizeOf3 (by decide) (hA.ev rfl)) ?_)); intro a hA
            refine L1 (gate_on rfl rfl hA (by decide) rfl (stv hA (by decide) (run_ld (hA.ev rfl) (run_loadS Try.isAgg3 (Sample.at_Seen (At.box' hX157)))) ?_)); intro a hA
            refine L1 (gate_on rfl rfl hA (by decide) rfl (stv hA (by decide) (run_move (hA.ev rfl)) ?_)); intro a hA
            refine L1 (gate_on rfl rfl hA (by decide) rfl (stv hA (by decide) (run_bin (hA.ev rfl) (hA.ev rfl) (bin_add _ _ _ _)) ?_)); intro a hA
            refine L1 (gate_on rfl rfl hA (by decide) rfl (stv hA (by decide) (run_move (hA.ev rfl)) ?_)); intro a hA
            refine L1 (gate_on rfl rfl hA (by decide) rfl (stv hA (by decide) (run_bin (hA.ev rfl) (hA.ev rfl) (bin_gtr _ _ _ _)) ?_)); intro a hA
            refine L1 (gate_on rfl rfl hA (by decide) rfl (stv hA (by decide) (run_pick (hA.ev rfl) (fun _ => hA.ev rfl) (fun h => Bool.noConfusion h)) ?_)); intro a hA
            refine L1 (stv hA (by decide) (run_pick (hA.ev rfl) (fun h => Bool.noConfusion h) (fun _ => hA.ev rfl)) ?_); intro a hA
            refine LQ ?_
            exact ⟨(decide ((IntKind.i64.wrap (((l_0.getD t132.toNat Sample.z).Seen) + blocks_2)) > height_3)), Option.some.inj H163, rfl, ((((((((((hA.nil.cons (hA.get 34 _ rfl)).cons (hA.get 14 _ rfl)).cons (hA.get 13 _ rfl)).cons (hA.get 12 _ rfl)).cons (hA.get 11 _ rfl)).cons (hA.get 9 _ rfl)).cons (hA.get 8 _ rfl)).cons (hA.get 3 _ rfl)).cons (hA.get 2 _ rfl)).cons (hA.get 1 _ rfl))⟩
          · replace H163 := ite_f hb166 H163
            have hA := hA.re (t := 26) rfl (congrArg Value.bool hb166)
            refine L1 (gate_off rfl (by decide) rfl hA (by decide) rfl rfl ?_); intro a hA
            refine L1 (gate_off rfl (by decide) rfl hA (by decide) rfl rfl ?_); intro a hA
            refine L1 (gate_off rfl (by decide) rfl hA (by decide) rfl rfl ?_); intro a hA
            refine L1 (gate_off rfl (by decide) rfl hA (by decide) rfl rfl ?_); intro a hA
            refine L1 (gate_off rfl (by decide) rfl hA (by decide) rfl rfl ?_); intro a hA
            refine L1 (gate_off rfl (by decide) rfl hA (by decide) rfl rfl ?_); intro a hA
            refine L1 (gate_on rfl rfl hA (by decide) rfl (stv hA (by decide) (run_pick (hA.ev rfl) (fun h => Bool.noConfusion h) (fun _ => hA.ev rfl)) ?_)); intro a hA
            refine L1 (stv hA (by decide) (run_pick (hA.ev rfl) (fun h => Bool.noConfusion h) (fun _ => hA.ev rfl)) ?_); intro a hA
            refine LQ ?_
            exact ⟨false, Option.some.inj H163, rfl, ((((((((((hA.nil.cons (hA.get 34 _ rfl)).cons (hA.get 14 _ rfl)).cons (hA.get 13 _ rfl)).cons (hA.get 12 _ rfl)).cons (hA.get 11 _ rfl)).cons (hA.get 9 _ rfl)).cons (hA.get 8 _ rfl)).cons (hA.get 3 _ rfl)).cons (hA.get 2 _ rfl)).cons (hA.get 1 _ rfl))⟩
      rintro a _ ⟨t162, rfl, rfl, hA⟩
      try dsimp only at H135
      refine TN ?_
      refine tcond (b := t162) hA rfl (fun hb168 => ?_) (fun hb168 => ?_)
      · replace H135 := ite_t hb168 H135
        refine wp_exit ?_
        refine TX ?_
        refine BX ?_
        refine TN ?_
        refine wp_region_lit ?_
        refine L1 (stv hA (by decide) (run_bin (hA.ev rfl) (hA.ev rfl) (bin_add _ _ _ _)) ?_); intro a hA
        refine L1 (stv hA (by decide) (run_move (hA.ev rfl)) ?_); intro a hA
        refine LQ ?_
        have hB169 := hB155.grown hU158 hB155.size (fun k hk => by cases hk; exact ge154)
        exact ⟨_, Nat.lt_succ_self m139, within130, total131, IntKind.i64.wrap (t132 + 1), H135, hB169, ((((((((hA.nil.cons (hA.get 14 _ rfl)).cons (hA.get 13 _ rfl)).cons (hA.get 12 _ rfl)).cons (hA.get 9 _ rfl)).cons (hA.get 8 _ rfl)).cons (hA.get 3 _ rfl)).cons (hA.get 2 _ rfl)).cons (hA.get 1 _ rfl))⟩
      · replace H135 := ite_f hb168 H135
        refine wp_skip ?_
        refine TN ?_
        refine wp_seq ?_
        refine wp_region_lit ?_
        refine L1 (stv hA (by decide) (run_move (hA.ev rfl)) ?_); intro a hA
        refine L1 (stv hA (by decide) (run_bin (hA.ev rfl) (hA.ev rfl) (bin_add _ _ _ _)) ?_); intro a hA
        refine L1 (stv hA (by decide) (run_assign (hA.ev rfl)) ?_); intro a hA
        refine LQ ?_
        refine TN ?_
        refine wp_seq ?_
        obtain ⟨o173, H172, H135⟩ := Option.bind_eq_some_iff.1 H135
        refine cutC (fun a w => ∃ (t171 : Bool), t171 = o173 ∧ w156 = w ∧ Has 54 [(1, (.int .i64 class_1)), (2, (.int .i64 blocks_2)), (3, (.int .i64 height_3)), (8, (.int .i64 within130)), (9, (.int .i64 (IntKind.i64.wrap (total131 + 1)))), (12, (.slice A0 l_0.length c0)), (13, (.int .i64 (l_0.length : Int))), (14, (.int .i64 t132)), (48, (.bool t171))] a) ?_ ?_
        · refine wp_region_lit ?_
          refine L1 (stv hA (by decide) (run_field' Try.underlying35 rfl rfl Try.sizeOf3 (by decide) (hA.ev rfl)) ?_); intro a hA
          refine L1 (stv hA (by decide) (run_ld (hA.ev rfl) (run_loadS Try.isAgg3 (Sample.at_Confirmed (At.box' hX157)))) ?_); intro a hA
          refine L1 (stv hA (by decide) (run_bin (hA.ev rfl) (hA.ev rfl) (bin_geq _ _ _ _)) ?_); intro a hA
          refine L1 (stv hA (by decide) (run_move (hA.ev rfl)) ?_); intro a hA
          refine bsplit (b := (decide (((l_0.getD t132.toNat Sample.z).Confirmed) ≥ 1))) (fun hb174 => ?_) (fun hb174 => ?_)
          · replace H172 := ite_t hb174 H172
            have hA := hA.re (t := 40) rfl (congrArg Value.bool hb174)
            refine L1 (gate_on rfl rfl hA (by decide) rfl (stv hA (by decide) (run_field' Try.underlying35 rfl rfl Try.sizeOf3 (by decide) (hA.ev rfl)) ?_)); intro a hA
            refine L1 (gate_on rfl rfl hA (by decide) rfl (stv hA (by decide) (run_ld (hA.ev rfl) (run_loadS Try.isAgg3 (Sample.at_Confirmed (At.box' hX157)))) ?_)); intro a hA
            refine L1 (gate_on rfl rfl hA (by decide) rfl (stv hA (by decide) (run_field' Try.underlying35 rfl rfl Try.sizeOf3 (by decide) (hA.ev rfl)) ?_)); intro a hA
            refine L1 (gate_on rfl rfl hA (by decide) rfl (stv hA (by decide) (run_ld (hA.ev rfl) (run_loadS Try.isAgg3 (Sample.at_Seen (At.box' hX157)))) ?_)); intro a hA
            refine L1 (gate_on rfl rfl hA (by decide) rfl (stv hA (by decide) (run_bin (hA.ev rfl) (hA.ev rfl) (bin_sub _ _ _ _)) ?_)); intro a hA
            refine L1 (gate_on rfl rfl hA (by decide) rfl (stv hA (by decide) (run_move (hA.ev rfl)) ?_)); intro a hA
            refine L1 (gate_on rfl rfl hA (by decide) rfl (stv hA (by decide) (run_bin (hA.ev rfl) (hA.ev rfl) (bin_leq _ _ _ _)) ?_)); intro a hA
            refine L1 (stv hA (by decide) (run_pick (hA.ev rfl) (fun _ => hA.ev rfl) (fun h => Bool.noConfusion h)) ?_); intro a hA
            refine LQ ?_
            exact ⟨(decide ((IntKind.i64.wrap (((l_0.getD t132.toNat Sample.z).Confirmed) - ((l_0.getD t132.toNat Sample.z).Seen))) ≤ blocks_2)), Option.some.inj H172, rfl, (((((((((hA.nil.cons (hA.get 48 _ rfl)).cons (hA.get 14 _ rfl)).cons (hA.get 13 _ rfl)).cons (hA.get 12 _ rfl)).cons (hA.get 9 _ rfl)).cons (hA.get 8 _ rfl)).cons (hA.get 3 _ rfl)).cons (hA.get 2 _ rfl)).cons (hA.get 1 _ rfl))⟩
          · replace H172 := ite_f hb174 H172
            have hA := hA.re (t := 40) rfl (congrArg Value.bool hb174)
            refine L1 (gate_off rfl (by decide) rfl hA (by decide) rfl rfl ?_); intro a hA
            refine L1 (gate_off rfl (by decide) rfl hA (by decide) rfl rfl ?_); intro a hA
            refine L1 (gate_off rfl (by decide) rfl hA (by decide) rfl rfl ?_); intro a hA
            refine L1 (gate_off rfl (by decide) rfl hA (by decide) rfl rfl ?_); intro a hA
            refine L1 (gate_off rfl (by decide) rfl hA (by decide) rfl rfl ?_); intro a hA
            refine L1 (gate_off rfl (by decide) rfl hA (by decide) rfl rfl ?_); intro a hA
            refine L1 (gate_off rfl (by decide) rfl hA (by decide) rfl rfl ?_); intro a hA
            refine L1 (stv hA (by decide) (run_pick (hA.ev rfl) (fun h => Bool.noConfusion h) (fun _ => hA.ev rfl)) ?_); intro a hA
            refine LQ ?_
            exact ⟨false, Option.some.inj H172, rfl, (((((((((hA.nil.cons (hA.get 48 _ rfl)).cons (hA.get 14 _ rfl)).cons (hA.get 13 _ rfl)).cons (hA.get 12 _ rfl)).cons (hA.get 9 _ rfl)).cons (hA.get 8 _ rfl)).cons (hA.get 3 _ rfl)).cons (hA.get 2 _ rfl)).cons (hA.get 1 _ rfl))⟩
        rintro a _ ⟨t171, rfl, rfl, hA⟩
        try dsimp only at H135
        refine TN ?_
        obtain ⟨o179, H178, H135⟩ := Option.bind_eq_some_iff.1 H135
        refine cutC (fun a w => ∃ (within177 : Int), within177 = o179 ∧ w156 = w ∧ Has 54 [(1, (.int .i64 class_1)), (2, (.int .i64 blocks_2)), (3, (.int .i64 height_3)), (8, (.int .i64 within177)), (9, (.int .i64 (IntKind.i64.wrap (total131 + 1)))), (12, (.slice A0 l_0.length c0)), (13, (.int .i64 (l_0.length : Int))), (14, (.int .i64 t132))] a) ?_ ?_
        · refine tcond (b := t171) hA rfl (fun hb180 => ?_) (fun hb180 => ?_)
          · replace H178 := ite_t hb180 H178
            refine wp_region_lit ?_
            refine L1 (stv hA (by decide) (run_move (hA.ev rfl)) ?_); intro a hA
            refine L1 (stv hA (by decide) (run_bin (hA.ev rfl) (hA.ev rfl) (bin_add _ _ _ _)) ?_); intro a hA
            refine L1 (stv hA (by decide) (run_assign (hA.ev rfl)) ?_); intro a hA
            refine LQ ?_
            exact ⟨IntKind.i64.wrap (within130 + 1), Option.some.inj H178, rfl, ((((((((hA.nil.cons (hA.get 14 _ rfl)).cons (hA.get 13 _ rfl)).cons (hA.get 12 _ rfl)).cons (hA.get 9 _ rfl)).cons (hA.get 8 _ rfl)).cons (hA.get 3 _ rfl)).cons (hA.get 2 _ rfl)).cons (hA.get 1 _ rfl))⟩
          · replace H178 := ite_f hb180 H178
            refine wp_skip ?_
            exact ⟨within130, Option.some.inj H178, rfl, ((((((((hA.nil.cons (hA.get 14 _ rfl)).cons (hA.get 13 _ rfl)).cons (hA.get 12 _ rfl)).cons (hA.get 9 _ rfl)).cons (hA.get 8 _ rfl)).cons (hA.get 3 _ rfl)).cons (hA.get 2 _ rfl)).cons (hA.get 1 _ rfl))⟩
        rintro a _ ⟨within177, rfl, rfl, hA⟩
        try dsimp only at H135
        refine BN ?_
        refine TN ?_
        refine wp_region_lit ?_
        refine L1 (stv hA (by decide) (run_bin (hA.ev rfl) (hA.ev rfl) (bin_add _ _ _ _)) ?_); intro a hA
        refine L1 (stv hA (by decide) (run_move (hA.ev rfl)) ?_); intro a hA
        refine LQ ?_
        have hB182 := hB155.grown hU158 hB155.size (fun k hk => by cases hk; exact ge154)
        exact ⟨_, Nat.lt_succ_self m139, within177, IntKind.i64.wrap (total131 + 1), IntKind.i64.wrap (t132 + 1), H135, hB182, ((((((((hA.nil.cons (hA.get 14 _ rfl)).cons (hA.get 13 _ rfl)).cons (hA.get 12 _ rfl)).cons (hA.get 9 _ rfl)).cons (hA.get 8 _ rfl)).cons (hA.get 3 _ rfl)).cons (hA.get 2 _ rfl)).cons (hA.get 1 _ rfl))⟩
    · replace H135 := ite_f hb141 H135
      refine wp_exit ?_
      refine TX ?_
      refine TX ?_
      refine BX ?_
      exact ⟨within130, total131, Option.some.inj H135, hB138, ((hA.nil.cons (hA.get 9 _ rfl)).cons (hA.get 8 _ rfl))⟩
  rintro a w183 ⟨within133, total134, rfl, hB137, hA⟩
  try dsimp only at H
  refine TN ?_
  refine wp_seq ?_
  refine wp_region_lit ?_
  refine L1 (stv hA (by decide) (run_move (hA.ev rfl)) ?_); intro a hA
  refine L1 (stv hA (by decide) (run_move (hA.ev rfl)) ?_); intro a hA
  refine L1 (stv hA (by decide) (run_assign (hA.ev rfl)) ?_); intro a hA
  refine L1 (stv hA (by decide) (run_assign (hA.ev rfl)) ?_); intro a hA
  refine LQ ?_
  refine TN ?_
  refine wp_ret ?_
  cases H
  exact ret_post2 (fn := Try.f28) hA rfl rfl rfl ⟨_, rfl, rfl, hB137⟩

def fees_Estimate.l0 (l_0 : (List Sample)) (blocks_1 : Int) (num_2 : Int) (den_3 : Int) (least_4 : Int) (height_5 : Int) : Nat → Int → Int → Int → Int → Option (Int)
  | 0, _, _, _, _ => none
  | k + 1, answer67, within68, total69, t70 => (if (decide (t70 ≥ 0)) = true then ((fees_Count.f k l_0 t70 blocks_1 height_5).bind fun r79 => (if (decide ((IntKind.i64.wrap (total69 + r79.2)) < least_4)) = true then (fees_Estimate.l0 l_0 blocks_1 num_2 den_3 least_4 height_5 k answer67 (IntKind.i64.wrap (within68 + r79.1)) (IntKind.i64.wrap (total69 + r79.2)) (IntKind.i64.wrap (t70 - 1))) else (if (decide ((IntKind.i64.wrap ((IntKind.i64.wrap (within68 + r79.1)) * den_3)) < (IntKind.i64.wrap (num_2 * (IntKind.i64.wrap (total69 + r79.2)))))) = true then (some answer67) else ((fees_Bound.f k t70).bind fun r88 => (fees_Estimate.l0 l_0 blocks_1 num_2 den_3 least_4 height_5 k r88 0 0 (IntKind.i64.wrap (t70 - 1))))))) else (some answer67))
def fees_Estimate.f (k : Nat) (l_0 : (List Sample)) (blocks_1 : Int) (num_2 : Int) (den_3 : Int) (least_4 : Int) (height_5 : Int) : Option (Int × Int) := (Option.bind (α := Bool) (if (decide (blocks_1 < 1)) = true then (some true) else (if (decide (blocks_1 > 24)) = true then (some true) else (if (decide (den_3 < 1)) = true then (some true) else (if (decide (den_3 > 1000)) = true then (some true) else (if (decide (num_2 < 0)) = true then (some true) else (if (decide (num_2 > den_3)) = true then (some true) else (if (decide (least_4 < 1)) = true then (some true) else (some (decide (least_4 > 2048)))))))))) (fun t8 => (if t8 = true then (some (0, 5)) else (Option.bind (α := Int) (fees_Estimate.l0 l_0 blocks_1 num_2 den_3 least_4 height_5 k 0 0 0 23) (fun answer71 => (if (answer71 == 0) = true then (some (0, 330)) else (some (answer71, 0))))))))
theorem fees_Estimate.calls (k : Nat) (l_0 : (List Sample)) (blocks_1 : Int) (num_2 : Int) (den_3 : Int) (least_4 : Int) (height_5 : Int) (A0 : Option Addr) (c0 : Nat) (r : (Int × Int)) (w0 : World) (hr0 : Row pSample w0 A0 l_0) (H : fees_Estimate.f k l_0 blocks_1 num_2 den_3 least_4 height_5 = some r) :
    Calls Try.prog 16 #[(.slice A0 l_0.length c0), (.int .i64 blocks_1), (.int .i64 num_2), (.int .i64 den_3), (.int .i64 least_4), (.int .i64 height_5)] w0 fun e w' => ∃ v, e = .returned v ∧ (v = .tuple #[(.int .i64 r.1), (.int .i64 r.2)]) ∧ Below w0.heap.size w0 w' := by
  unfold fees_Estimate.f at H
  have hB0 := Below.refl w0.heap.size w0
  refine enterL (n := 84) [(.slice A0 l_0.length c0), (.int .i64 blocks_1), (.int .i64 num_2), (.int .i64 den_3), (.int .i64 least_4), (.int .i64 height_5)] Try.func16 rfl rfl rfl ?_
  intro a hA
  refine wp_seq ?_
  refine wp_region_lit ?_
  refine L1 (stv hA (by decide) (run_assign (hA.ev rfl)) ?_); intro a hA
  refine L1 (stv hA (by decide) (run_assign (hA.ev rfl)) ?_); intro a hA
  refine LQ ?_
  refine TN ?_
  refine wp_seq ?_
  refine wp_seq ?_
  obtain ⟨o10, H9, H⟩ := Option.bind_eq_some_iff.1 H
  refine cutC (fun a w => ∃ (t8 : Bool), t8 = o10 ∧ w0 = w ∧ Has 84 [(0, (.slice A0 l_0.length c0)), (1, (.int .i64 blocks_1)), (2, (.int .i64 num_2)), (3, (.int .i64 den_3)), (4, (.int .i64 least_4)), (5, (.int .i64 height_5)), (50, (.bool t8))] a) ?_ ?_
  · refine wp_region_lit ?_
    refine L1 (stv hA (by decide) (run_move (hA.ev rfl)) ?_); intro a hA
    refine L1 (stv hA (by decide) (run_bin (hA.ev rfl) (hA.ev rfl) (bin_lss _ _ _ _)) ?_); intro a hA
    refine L1 (stv hA (by decide) (run_move (hA.ev rfl)) ?_); intro a hA
    refine bsplit (b := (decide (blocks_1 < 1))) (fun hb11 => ?_) (fun hb11 => ?_)
    · replace H9 := ite_t hb11 H9
      have hA := hA.re (t := 22) rfl (congrArg Value.bool hb11)
      refine L1 (gate_off rfl (by decide) rfl hA (by decide) rfl rfl ?_); intro a hA
      refine L1 (gate_off rfl (by decide) rfl hA (by decide) rfl rfl ?_); intro a hA
      refine L1 (stv hA (by decide) (run_pick (hA.ev rfl) (fun _ => hA.ev rfl) (fun h => Bool.noConfusion h)) ?_); intro a hA
      refine L1 (stv hA (by decide) (run_move (hA.ev rfl)) ?_); intro a hA
      refine L1 (gate_off rfl (by decide) rfl hA (by decide) rfl rfl ?_); intro a hA
      refine L1 (gate_off rfl (by decide) rfl hA (by decide) rfl rfl ?_); intro a hA
      refine L1 (stv hA (by decide) (run_pick (hA.ev rfl) (fun _ => hA.ev rfl) (fun h => Bool.noConfusion h)) ?_); intro a hA
      refine L1 (stv hA (by decide) (run_move (hA.ev rfl)) ?_); intro a hA
      refine L1 (gate_off rfl (by decide) rfl hA (by decide) rfl rfl ?_); intro a hA
      refine L1 (gate_off rfl (by decide) rfl hA (by decide) rfl rfl ?_); intro a hA
      refine L1 (stv hA (by decide) (run_pick (hA.ev rfl) (fun _ => hA.ev rfl) (fun h => Bool.noConfusion h)) ?_); intro a hA
      refine L1 (stv hA (by decide) (run_move (hA.ev rfl)) ?_); intro a hA
      refine L1 (gate_off rfl (by decide) rfl hA (by decide) rfl rfl ?_); intro a hA
      refine L1 (gate_off rfl (by decide) rfl hA (by decide) rfl rfl ?_); intro a hA
      refine L1 (stv hA (by decide) (run_pick (hA.ev rfl) (fun _ => hA.ev rfl) (fun h => Bool.noConfusion h)) ?_); intro a hA
      refine L1 (stv hA (by decide) (run_move (hA.ev rfl)) ?_); intro a hA
      refine L1 (gate_off rfl (by decide) rfl hA (by decide) rfl rfl ?_); intro a hA
      refine L1 (gate_off rfl (by decide) rfl hA (by decide) rfl rfl ?_); intro a hA
      refine L1 (gate_off rfl (by decide) rfl hA (by decide) rfl rfl ?_); intro a hA
      refine L1 (stv hA (by decide) (run_pick (hA.ev rfl) (fun _ => hA.ev rfl) (fun h => Bool.noConfusion h)) ?_); intro a hA
      refine L1 (stv hA (by decide) (run_move (hA.ev rfl)) ?_); intro a hA
      refine L1 (gate_off rfl (by decide) rfl hA (by decide) rfl rfl ?_); intro a hA
      refine L1 (gate_off rfl (by decide) rfl hA (by decide) rfl rfl ?_); intro a hA
      refine L1 (stv hA (by decide) (run_pick (hA.ev rfl) (fun _ => hA.ev rfl) (fun h => Bool.noConfusion h)) ?_); intro a hA
      refine L1 (stv hA (by decide) (run_move (hA.ev rfl)) ?_); intro a hA
      refine L1 (gate_off rfl (by decide) rfl hA (by decide) rfl rfl ?_); intro a hA
      refine L1 (gate_off rfl (by decide) rfl hA (by decide) rfl rfl ?_); intro a hA
      refine L1 (stv hA (by decide) (run_pick (hA.ev rfl) (fun _ => hA.ev rfl) (fun h => Bool.noConfusion h)) ?_); intro a hA
      refine LQ ?_
      exact ⟨true, Option.some.inj H9, rfl, (((((((hA.nil.cons (hA.get 50 _ rfl)).cons (hA.get 5 _ rfl)).cons (hA.get 4 _ rfl)).cons (hA.get 3 _ rfl)).cons (hA.get 2 _ rfl)).cons (hA.get 1 _ rfl)).cons (hA.get 0 _ rfl))⟩
    · replace H9 := ite_f hb11 H9
      have hA := hA.re (t := 22) rfl (congrArg Value.bool hb11)
      refine L1 (gate_on rfl rfl hA (by decide) rfl (stv hA (by decide) (run_move (hA.ev rfl)) ?_)); intro a hA
      refine L1 (gate_on rfl rfl hA (by decide) rfl (stv hA (by decide) (run_bin (hA.ev rfl) (hA.ev rfl) (bin_gtr _ _ _ _)) ?_)); intro a hA
      refine L1 (stv hA (by decide) (run_pick (hA.ev rfl) (fun h => Bool.noConfusion h) (fun _ => hA.ev rfl)) ?_); intro a hA
      refine L1 (stv hA (by decide) (run_move (hA.ev rfl)) ?_); intro a hA
      refine bsplit (b := (decide (blocks_1 > 24))) (fun hb12 => ?_) (fun hb12 => ?_)
      · replace H9 := ite_t hb12 H9
        have hA := hA.re (t := 26) rfl (congrArg Value.bool hb12)
        refine L1 (gate_off rfl (by decide) rfl hA (by decide) rfl rfl ?_); intro a hA
        refine L1 (gate_off rfl (by decide) rfl hA (by decide) rfl rfl ?_); intro a hA
        refine L1 (stv hA (by decide) (run_pick (hA.ev rfl) (fun _ => hA.ev rfl) (fun h => Bool.noConfusion h)) ?_); intro a hA
        refine L1 (stv hA (by decide) (run_move (hA.ev rfl)) ?_); intro a hA
        refine L1 (gate_off rfl (by decide) rfl hA (by decide) rfl rfl ?_); intro a hA
        refine L1 (gate_off rfl (by decide) rfl hA (by decide) rfl rfl ?_); intro a hA
        refine L1 (stv hA (by decide) (run_pick (hA.ev rfl) (fun _ => hA.ev rfl) (fun h => Bool.noConfusion h)) ?_); intro a hA
        refine L1 (stv hA (by decide) (run_move (hA.ev rfl)) ?_); intro a hA
        refine L1 (gate_off rfl (by decide) rfl hA (by decide) rfl rfl ?_); intro a hA
        refine L1 (gate_off rfl (by decide) rfl hA (by decide) rfl rfl ?_); intro a hA
        refine L1 (stv hA (by decide) (run_pick (hA.ev rfl) (fun _ => hA.ev rfl) (fun h => Bool.noConfusion h)) ?_); intro a hA
        refine L1 (stv hA (by decide) (run_move (hA.ev rfl)) ?_); intro a hA
        refine L1 (gate_off rfl (by decide) rfl hA (by decide) rfl rfl ?_); intro a hA
        refine L1 (gate_off rfl (by decide) rfl hA (by decide) rfl rfl ?_); intro a hA
        refine L1 (gate_off rfl (by decide) rfl hA (by decide) rfl rfl ?_); intro a hA
        refine L1 (stv hA (by decide) (run_pick (hA.ev rfl) (fun _ => hA.ev rfl) (fun h => Bool.noConfusion h)) ?_); intro a hA
        refine L1 (stv hA (by decide) (run_move (hA.ev rfl)) ?_); intro a hA
        refine L1 (gate_off rfl (by decide) rfl hA (by decide) rfl rfl ?_); intro a hA
        refine L1 (gate_off rfl (by decide) rfl hA (by decide) rfl rfl ?_); intro a hA
        refine L1 (stv hA (by decide) (run_pick (hA.ev rfl) (fun _ => hA.ev rfl) (fun h => Bool.noConfusion h)) ?_); intro a hA
        refine L1 (stv hA (by decide) (run_move (hA.ev rfl)) ?_); intro a hA
        refine L1 (gate_off rfl (by decide) rfl hA (by decide) rfl rfl ?_); intro a hA
        refine L1 (gate_off rfl (by decide) rfl hA (by decide) rfl rfl ?_); intro a hA
        refine L1 (stv hA (by decide) (run_pick (hA.ev rfl) (fun _ => hA.ev rfl) (fun h => Bool.noConfusion h)) ?_); intro a hA
        refine LQ ?_
        exact ⟨true, Option.some.inj H9, rfl, (((((((hA.nil.cons (hA.get 50 _ rfl)).cons (hA.get 5 _ rfl)).cons (hA.get 4 _ rfl)).cons (hA.get 3 _ rfl)).cons (hA.get 2 _ rfl)).cons (hA.get 1 _ rfl)).cons (hA.get 0 _ rfl))⟩
      · replace H9 := ite_f hb12 H9
        have hA := hA.re (t := 26) rfl (congrArg Value.bool hb12)
        refine L1 (gate_on rfl rfl hA (by decide) rfl (stv hA (by decide) (run_move (hA.ev rfl)) ?_)); intro a hA
        refine L1 (gate_on rfl rfl hA (by decide) rfl (stv hA (by decide) (run_bin (hA.ev rfl) (hA.ev rfl) (bin_lss _ _ _ _)) ?_)); intro a hA
        refine L1 (stv hA (by decide) (run_pick (hA.ev rfl) (fun h => Bool.noConfusion h) (fun _ => hA.ev rfl)) ?_); intro a hA
        refine L1 (stv hA (by decide) (run_move (hA.ev rfl)) ?_); intro a hA
        refine bsplit (b := (decide (den_3 < 1))) (fun hb13 => ?_) (fun hb13 => ?_)
        · replace H9 := ite_t hb13 H9
          have hA := hA.re (t := 30) rfl (congrArg Value.bool hb13)
          refine L1 (gate_off rfl (by decide) rfl hA (by decide) rfl rfl ?_); intro a hA
          refine L1 (gate_off rfl (by decide) rfl hA (by decide) rfl rfl ?_); intro a hA
          refine L1 (stv hA (by decide) (run_pick (hA.ev rfl) (fun _ => hA.ev rfl) (fun h => Bool.noConfusion h)) ?_); intro a hA
          refine L1 (stv hA (by decide) (run_move (hA.ev rfl)) ?_); intro a hA
          refine L1 (gate_off rfl (by decide) rfl hA (by decide) rfl rfl ?_); intro a hA
          refine L1 (gate_off rfl (by decide) rfl hA (by decide) rfl rfl ?_); intro a hA
          refine L1 (stv hA (by decide) (run_pick (hA.ev rfl) (fun _ => hA.ev rfl) (fun h => Bool.noConfusion h)) ?_); intro a hA
          refine L1 (stv hA (by decide) (run_move (hA.ev rfl)) ?_); intro a hA
          refine L1 (gate_off rfl (by decide) rfl hA (by decide) rfl rfl ?_); intro a hA
          refine L1 (gate_off rfl (by decide) rfl hA (by decide) rfl rfl ?_); intro a hA
          refine L1 (gate_off rfl (by decide) rfl hA (by decide) rfl rfl ?_); intro a hA
          refine L1 (stv hA (by decide) (run_pick (hA.ev rfl) (fun _ => hA.ev rfl) (fun h => Bool.noConfusion h)) ?_); intro a hA
          refine L1 (stv hA (by decide) (run_move (hA.ev rfl)) ?_); intro a hA
          refine L1 (gate_off rfl (by decide) rfl hA (by decide) rfl rfl ?_); intro a hA
          refine L1 (gate_off rfl (by decide) rfl hA (by decide) rfl rfl ?_); intro a hA
          refine L1 (stv hA (by decide) (run_pick (hA.ev rfl) (fun _ => hA.ev rfl) (fun h => Bool.noConfusion h)) ?_); intro a hA
          refine L1 (stv hA (by decide) (run_move (hA.ev rfl)) ?_); intro a hA
          refine L1 (gate_off rfl (by decide) rfl hA (by decide) rfl rfl ?_); intro a hA
          refine L1 (gate_off rfl (by decide) rfl hA (by decide) rfl rfl ?_); intro a hA
          refine L1 (stv hA (by decide) (run_pick (hA.ev rfl) (fun _ => hA.ev rfl) (fun h => Bool.noConfusion h)) ?_); intro a hA
          refine LQ ?_
          exact ⟨true, Option.some.inj H9, rfl, (((((((hA.nil.cons (hA.get 50 _ rfl)).cons (hA.get 5 _ rfl)).cons (hA.get 4 _ rfl)).cons (hA.get 3 _ rfl)).cons (hA.get 2 _ rfl)).cons (hA.get 1 _ rfl)).cons (hA.get 0 _ rfl))⟩
        · replace H9 := ite_f hb13 H9
          have hA := hA.re (t := 30) rfl (congrArg Value.bool hb13)
          refine L1 (gate_on rfl rfl hA (by decide) rfl (stv hA (by decide) (run_move (hA.ev rfl)) ?_)); intro a hA
          refine L1 (gate_on rfl rfl hA (by decide) rfl (stv hA (by decide) (run_bin (hA.ev rfl) (hA.ev rfl) (bin_gtr _ _ _ _)) ?_)); intro a hA
          refine L1 (stv hA (by decide) (run_pick (hA.ev rfl) (fun h => Bool.noConfusion h) (fun _ => hA.ev rfl)) ?_); intro a hA
          refine L1 (stv hA (by decide) (run_move (hA.ev rfl)) ?_); intro a hA
          refine bsplit (b := (decide (den_3 > 1000))) (fun hb14 => ?_) (fun hb14 => ?_)
          · replace H9 := ite_t hb14 H9
            have hA := hA.re (t := 34) rfl (congrArg Value.bool hb14)
            refine L1 (gate_off rfl (by decide) rfl hA (by decide) rfl rfl ?_); intro a hA
            refine L1 (gate_off rfl (by decide) rfl hA (by decide) rfl rfl ?_); intro a hA
            refine L1 (stv hA (by decide) (run_pick (hA.ev rfl) (fun _ => hA.ev rfl) (fun h => Bool.noConfusion h)) ?_); intro a hA
            refine L1 (stv hA (by decide) (run_move (hA.ev rfl)) ?_); intro a hA
            refine L1 (gate_off rfl (by decide) rfl hA (by decide) rfl rfl ?_); intro a hA
            refine L1 (gate_off rfl (by decide) rfl hA (by decide) rfl rfl ?_); intro a hA
            refine L1 (gate_off rfl (by decide) rfl hA (by decide) rfl rfl ?_); intro a hA
            refine L1 (stv hA (by decide) (run_pick (hA.ev rfl) (fun _ => hA.ev rfl) (fun h => Bool.noConfusion h)) ?_); intro a hA
            refine L1 (stv hA (by decide) (run_move (hA.ev rfl)) ?_); intro a hA
            refine L1 (gate_off rfl (by decide) rfl hA (by decide) rfl rfl ?_); intro a hA
            refine L1 (gate_off rfl (by decide) rfl hA (by decide) rfl rfl ?_); intro a hA
            refine L1 (stv hA (by decide) (run_pick (hA.ev rfl) (fun _ => hA.ev rfl) (fun h => Bool.noConfusion h)) ?_); intro a hA
            refine L1 (stv hA (by decide) (run_move (hA.ev rfl)) ?_); intro a hA
            refine L1 (gate_off rfl (by decide) rfl hA (by decide) rfl rfl ?_); intro a hA
            refine L1 (gate_off rfl (by decide) rfl hA (by decide) rfl rfl ?_); intro a hA
            refine L1 (stv hA (by decide) (run_pick (hA.ev rfl) (fun _ => hA.ev rfl) (fun h => Bool.noConfusion h)) ?_); intro a hA
            refine LQ ?_
            exact ⟨true, Option.some.inj H9, rfl, (((((((hA.nil.cons (hA.get 50 _ rfl)).cons (hA.get 5 _ rfl)).cons (hA.get 4 _ rfl)).cons (hA.get 3 _ rfl)).cons (hA.get 2 _ rfl)).cons (hA.get 1 _ rfl)).cons (hA.get 0 _ rfl))⟩
          · replace H9 := ite_f hb14 H9
            have hA := hA.re (t := 34) rfl (congrArg Value.bool hb14)
            refine L1 (gate_on rfl rfl hA (by decide) rfl (stv hA (by decide) (run_move (hA.ev rfl)) ?_)); intro a hA
            refine L1 (gate_on rfl rfl hA (by decide) rfl (stv hA (by decide) (run_bin (hA.ev rfl) (hA.ev rfl) (bin_lss _ _ _ _)) ?_)); intro a hA
            refine L1 (stv hA (by decide) (run_pick (hA.ev rfl) (fun h => Bool.noConfusion h) (fun _ => hA.ev rfl)) ?_); intro a hA
            refine L1 (stv hA (by decide) (run_move (hA.ev rfl)) ?_); intro a hA
            refine bsplit (b := (decide (num_2 < 0))) (fun hb15 => ?_) (fun hb15 => ?_)
            · replace H9 := ite_t hb15 H9
              have hA := hA.re (t := 38) rfl (congrArg Value.bool hb15)
              refine L1 (gate_off rfl (by decide) rfl hA (by decide) rfl rfl ?_); intro a hA
              refine L1 (gate_off rfl (by decide) rfl hA (by decide) rfl rfl ?_); intro a hA
              refine L1 (gate_off rfl (by decide) rfl hA (by decide) rfl rfl ?_); intro a hA
              refine L1 (stv hA (by decide) (run_pick (hA.ev rfl) (fun _ => hA.ev rfl) (fun h => Bool.noConfusion h)) ?_); intro a hA
              refine L1 (stv hA (by decide) (run_move (hA.ev rfl)) ?_); intro a hA
              refine L1 (gate_off rfl (by decide) rfl hA (by decide) rfl rfl ?_); intro a hA
              refine L1 (gate_off rfl (by decide) rfl hA (by decide) rfl rfl ?_); intro a hA
              refine L1 (stv hA (by decide) (run_pick (hA.ev rfl) (fun _ => hA.ev rfl) (fun h => Bool.noConfusion h)) ?_); intro a hA
              refine L1 (stv hA (by decide) (run_move (hA.ev rfl)) ?_); intro a hA
              refine L1 (gate_off rfl (by decide) rfl hA (by decide) rfl rfl ?_); intro a hA
              refine L1 (gate_off rfl (by decide) rfl hA (by decide) rfl rfl ?_); intro a hA
              refine L1 (stv hA (by decide) (run_pick (hA.ev rfl) (fun _ => hA.ev rfl) (fun h => Bool.noConfusion h)) ?_); intro a hA
              refine LQ ?_
              exact ⟨true, Option.some.inj H9, rfl, (((((((hA.nil.cons (hA.get 50 _ rfl)).cons (hA.get 5 _ rfl)).cons (hA.get 4 _ rfl)).cons (hA.get 3 _ rfl)).cons (hA.get 2 _ rfl)).cons (hA.get 1 _ rfl)).cons (hA.get 0 _ rfl))⟩
            · replace H9 := ite_f hb15 H9
              have hA := hA.re (t := 38) rfl (congrArg Value.bool hb15)
              refine L1 (gate_on rfl rfl hA (by decide) rfl (stv hA (by decide) (run_move (hA.ev rfl)) ?_)); intro a hA
              refine L1 (gate_on rfl rfl hA (by decide) rfl (stv hA (by decide) (run_move (hA.ev rfl)) ?_)); intro a hA
              refine L1 (gate_on rfl rfl hA (by decide) rfl (stv hA (by decide) (run_bin (hA.ev rfl) (hA.ev rfl) (bin_gtr _ _ _ _)) ?_)); intro a hA
              refine L1 (stv hA (by decide) (run_pick (hA.ev rfl) (fun h => Bool.noConfusion h) (fun _ => hA.ev rfl)) ?_); intro a hA
              refine L1 (stv hA (by decide) (run_move (hA.ev rfl)) ?_); intro a hA
              refine bsplit (b := (decide (num_2 > den_3))) (fun hb16 => ?_) (fun hb16 => ?_)
              · replace H9 := ite_t hb16 H9
                have hA := hA.re (t := 43) rfl (congrArg Value.bool hb16)
                refine L1 (gate_off rfl (by decide) rfl hA (by decide) rfl rfl ?_); intro a hA
                refine L1 (gate_off rfl (by decide) rfl hA (by decide) rfl rfl ?_); intro a hA
                refine L1 (stv hA (by decide) (run_pick (hA.ev rfl) (fun _ => hA.ev rfl) (fun h => Bool.noConfusion h)) ?_); intro a hA
                refine L1 (stv hA (by decide) (run_move (hA.ev rfl)) ?_); intro a hA
                refine L1 (gate_off rfl (by decide) rfl hA (by decide) rfl rfl ?_); intro a hA
                refine L1 (gate_off rfl (by decide) rfl hA (by decide) rfl rfl ?_); intro a hA
                refine L1 (stv hA (by decide) (run_pick (hA.ev rfl) (fun _ => hA.ev rfl) (fun h => Bool.noConfusion h)) ?_); intro a hA
                refine LQ ?_
                exact ⟨true, Option.some.inj H9, rfl, (((((((hA.nil.cons (hA.get 50 _ rfl)).cons (hA.get 5 _ rfl)).cons (hA.get 4 _ rfl)).cons (hA.get 3 _ rfl)).cons (hA.get 2 _ rfl)).cons (hA.get 1 _ rfl)).cons (hA.get 0 _ rfl))⟩
              · replace H9 := ite_f hb16 H9
                have hA := hA.re (t := 43) rfl (congrArg Value.bool hb16)
                refine L1 (gate_on rfl rfl hA (by decide) rfl (stv hA (by decide) (run_move (hA.ev rfl)) ?_)); intro a hA
                refine L1 (gate_on rfl rfl hA (by decide) rfl (stv hA (by decide) (run_bin (hA.ev rfl) (hA.ev rfl) (bin_lss _ _ _ _)) ?_)); intro a hA
                refine L1 (stv hA (by decide) (run_pick (hA.ev rfl) (fun h => Bool.noConfusion h) (fun _ => hA.ev rfl)) ?_); intro a hA
                refine L1 (stv hA (by decide) (run_move (hA.ev rfl)) ?_); intro a hA
                refine bsplit (b := (decide (least_4 < 1))) (fun hb17 => ?_) (fun hb17 => ?_)
                · replace H9 := ite_t hb17 H9
                  have hA := hA.re (t := 47) rfl (congrArg Value.bool hb17)
                  refine L1 (gate_off rfl (by decide) rfl hA (by decide) rfl rfl ?_); intro a hA
                  refine L1 (gate_off rfl (by decide) rfl hA (by decide) rfl rfl ?_); intro a hA
                  refine L1 (stv hA (by decide) (run_pick (hA.ev rfl) (fun _ => hA.ev rfl) (fun h => Bool.noConfusion h)) ?_); intro a hA
                  refine LQ ?_
                  exact ⟨true, Option.some.inj H9, rfl, (((((((hA.nil.cons (hA.get 50 _ rfl)).cons (hA.get 5 _ rfl)).cons (hA.get 4 _ rfl)).cons (hA.get 3 _ rfl)).cons (hA.get 2 _ rfl)).cons (hA.get 1 _ rfl)).cons (hA.get 0 _ rfl))⟩
                · replace H9 := ite_f hb17 H9
                  have hA := hA.re (t := 47) rfl (congrArg Value.bool hb17)
                  refine L1 (gate_on rfl rfl hA (by decide) rfl (stv hA (by decide) (run_move (hA.ev rfl)) ?_)); intro a hA
                  refine L1 (gate_on rfl rfl hA (by decide) rfl (stv hA (by decide) (run_bin (hA.ev rfl) (hA.ev rfl) (bin_gtr _ _ _ _)) ?_)); intro a hA
                  refine L1 (stv hA (by decide) (run_pick (hA.ev rfl) (fun h => Bool.noConfusion h) (fun _ => hA.ev rfl)) ?_); intro a hA
                  refine LQ ?_
                  exact ⟨(decide (least_4 > 2048)), Option.some.inj H9, rfl, (((((((hA.nil.cons (hA.get 50 _ rfl)).cons (hA.get 5 _ rfl)).cons (hA.get 4 _ rfl)).cons (hA.get 3 _ rfl)).cons (hA.get 2 _ rfl)).cons (hA.get 1 _ rfl)).cons (hA.get 0 _ rfl))⟩
  rintro a _ ⟨t8, rfl, rfl, hA⟩
  try dsimp only at H
  refine TN ?_
  refine tcond (b := t8) hA rfl (fun hb19 => ?_) (fun hb19 => ?_)
  · replace H := ite_t hb19 H
    refine wp_seq ?_
    refine wp_region_lit ?_
    refine L1 (stv hA (by decide) (run_assign (hA.ev rfl)) ?_); intro a hA
    refine L1 (stv hA (by decide) (run_assign (hA.ev rfl)) ?_); intro a hA
    refine LQ ?_
    refine TN ?_
    refine wp_ret ?_
    cases H
    refine TR ?_
    exact ret_post2 (fn := Try.f16) hA rfl rfl rfl ⟨_, rfl, rfl, hB0⟩
  · replace H := ite_f hb19 H
    refine wp_skip ?_
    refine TN ?_
    refine wp_seq ?_
    refine wp_region_lit ?_
    refine L1 (stv hA (by decide) (run_assign (hA.ev rfl)) ?_); intro a hA
    refine L1 (stv hA (by decide) (run_assign (hA.ev rfl)) ?_); intro a hA
    refine L1 (stv hA (by decide) (run_assign (hA.ev rfl)) ?_); intro a hA
    refine LQ ?_
    refine TN ?_
    refine wp_seq ?_
    refine wp_seq ?_
    refine wp_region_lit ?_
    refine L1 (stv hA (by decide) (run_assign (hA.ev rfl)) ?_); intro a hA
    refine LQ ?_
    refine TN ?_
    obtain ⟨o73, H72, H⟩ := Option.bind_eq_some_iff.1 H
    refine cutC (fun a w => ∃ (answer71 : Int), answer71 = o73 ∧ (Below w0.heap.size w0 w) ∧ Has 84 [(14, (.int .i64 answer71))] a) ?_ ?_
    · refine wp_block ?_
      refine wp_loop_ghost (fun m a w => ∃ (answer67 : Int) (within68 : Int) (total69 : Int) (t70 : Int), fees_Estimate.l0 l_0 blocks_1 num_2 den_3 least_4 height_5 m answer67 within68 total69 t70 = some o73 ∧ (Below w0.heap.size w0 w) ∧ Has 84 [(0, (.slice A0 l_0.length c0)), (1, (.int .i64 blocks_1)), (2, (.int .i64 num_2)), (3, (.int .i64 den_3)), (4, (.int .i64 least_4)), (5, (.int .i64 height_5)), (14, (.int .i64 answer67)), (15, (.int .i64 within68)), (16, (.int .i64 total69)), (17, (.int .i64 t70))] a) k ⟨0, 0, 0, 23, H72, hB0, ((((((((((hA.nil.cons (hA.get 17 _ rfl)).cons (hA.get 16 _ rfl)).cons (hA.get 15 _ rfl)).cons (hA.get 14 _ rfl)).cons (hA.get 5 _ rfl)).cons (hA.get 4 _ rfl)).cons (hA.get 3 _ rfl)).cons (hA.get 2 _ rfl)).cons (hA.get 1 _ rfl)).cons (hA.get 0 _ rfl))⟩ ?_
      rintro m76 a w77 ⟨answer67, within68, total69, t70, H72, hB75, hA⟩
      cases m76 with
      | zero => exact absurd H72 (by simp [fees_Estimate.l0])
      | succ m76 =>
      rw [fees_Estimate.l0] at H72
      refine wp_seq ?_
      refine wp_seq ?_
      refine wp_region_lit ?_
      refine L1 (stv hA (by decide) (run_move (hA.ev rfl)) ?_); intro a hA
      refine L1 (stv hA (by decide) (run_bin (hA.ev rfl) (hA.ev rfl) (bin_geq _ _ _ _)) ?_); intro a hA
      refine LQ ?_
      refine TN ?_
      refine tcond (b := (decide (t70 ≥ 0))) hA rfl (fun hb78 => ?_) (fun hb78 => ?_)
      · replace H72 := ite_t hb78 H72
        refine wp_skip ?_
        refine TN ?_
        refine wp_seq ?_
        refine wp_block ?_
        refine wp_seq ?_
        refine wp_region_lit ?_
        refine L1 (stv hA (by decide) (run_move (hA.ev rfl)) ?_); intro a hA
        refine L1 (stv hA (by decide) (run_move (hA.ev rfl)) ?_); intro a hA
        refine L1 (stv hA (by decide) (run_move (hA.ev rfl)) ?_); intro a hA
        refine L1 (stv hA (by decide) (run_move (hA.ev rfl)) ?_); intro a hA
        obtain ⟨r79, H80, H72⟩ := Option.bind_eq_some_iff.1 H72
        refine L1 (st_call Try.call28 hA [(.slice A0 l_0.length c0), (.int .i64 t70), (.int .i64 blocks_1), (.int .i64 height_5)] rfl (by decide) (fees_Count.calls _ _ _ _ _ _ _ _ _ ((hr0.ext hB75)) H80) ?_)
        rintro _ w81 ⟨⟨rfl⟩, hE82⟩ a hA
        refine L1 (stv hA (by decide) (run_move (hA.ev rfl)) ?_); intro a hA
        refine L1 (stv hA (by decide) (run_ext (hA.ev rfl) rfl) ?_); intro a hA
        refine L1 (stv hA (by decide) (run_ext (hA.ev rfl) rfl) ?_); intro a hA
        refine L1 (stv hA (by decide) (run_assign (hA.ev rfl)) ?_); intro a hA
        refine L1 (stv hA (by decide) (run_assign (hA.ev rfl)) ?_); intro a hA
        refine LQ ?_
        refine TN ?_
        refine wp_seq ?_
        refine wp_region_lit ?_
        refine L1 (stv hA (by decide) (run_move (hA.ev rfl)) ?_); intro a hA
        refine L1 (stv hA (by decide) (run_move (hA.ev rfl)) ?_); intro a hA
        refine L1 (stv hA (by decide) (run_bin (hA.ev rfl) (hA.ev rfl) (bin_add _ _ _ _)) ?_); intro a hA
        refine L1 (stv hA (by decide) (run_move (hA.ev rfl)) ?_); intro a hA
        refine L1 (stv hA (by decide) (run_move (hA.ev rfl)) ?_); intro a hA
        refine L1 (stv hA (by decide) (run_bin (hA.ev rfl) (hA.ev rfl) (bin_add _ _ _ _)) ?_); intro a hA
        refine L1 (stv hA (by decide) (run_assign (hA.ev rfl)) ?_); intro a hA
        refine L1 (stv hA (by decide) (run_assign (hA.ev rfl)) ?_); intro a hA
        refine LQ ?_
        refine TN ?_
        refine wp_seq ?_
        refine wp_seq ?_
        refine wp_region_lit ?_
        refine L1 (stv hA (by decide) (run_move (hA.ev rfl)) ?_); intro a hA
        refine L1 (stv hA (by decide) (run_move (hA.ev rfl)) ?_); intro a hA
        refine L1 (stv hA (by decide) (run_bin (hA.ev rfl) (hA.ev rfl) (bin_lss _ _ _ _)) ?_); intro a hA
        refine LQ ?_
        refine TN ?_
        refine tcond (b := (decide ((IntKind.i64.wrap (total69 + r79.2)) < least_4))) hA rfl (fun hb83 => ?_) (fun hb83 => ?_)
        · replace H72 := ite_t hb83 H72
          refine wp_exit ?_
          refine TX ?_
          refine BX ?_
          refine TN ?_
          refine wp_region_lit ?_
          refine L1 (stv hA (by decide) (run_move (hA.ev rfl)) ?_); intro a hA
          refine L1 (stv hA (by decide) (run_bin (hA.ev rfl) (hA.ev rfl) (bin_sub _ _ _ _)) ?_); intro a hA
          refine L1 (stv hA (by decide) (run_assign (hA.ev rfl)) ?_); intro a hA
          refine LQ ?_
          have hB84 := hB75.trans (hE82.mono hB75.size)
          exact ⟨_, Nat.lt_succ_self m76, answer67, IntKind.i64.wrap (within68 + r79.1), IntKind.i64.wrap (total69 + r79.2), IntKind.i64.wrap (t70 - 1), H72, hB84, ((((((((((hA.nil.cons (hA.get 17 _ rfl)).cons (hA.get 16 _ rfl)).cons (hA.get 15 _ rfl)).cons (hA.get 14 _ rfl)).cons (hA.get 5 _ rfl)).cons (hA.get 4 _ rfl)).cons (hA.get 3 _ rfl)).cons (hA.get 2 _ rfl)).cons (hA.get 1 _ rfl)).cons (hA.get 0 _ rfl))⟩
        · replace H72 := ite_f hb83 H72
          refine wp_skip ?_
          refine TN ?_
          refine wp_seq ?_
          refine wp_seq ?_
          refine wp_region_lit ?_
          refine L1 (stv hA (by decide) (run_move (hA.ev rfl)) ?_); intro a hA
          refine L1 (stv hA (by decide) (run_move (hA.ev rfl)) ?_); intro a hA
          refine L1 (stv hA (by decide) (run_bin (hA.ev rfl) (hA.ev rfl) (bin_mul _ _ _ _)) ?_); intro a hA
          refine L1 (stv hA (by decide) (run_move (hA.ev rfl)) ?_); intro a hA
          refine L1 (stv hA (by decide) (run_move (hA.ev rfl)) ?_); intro a hA
          refine L1 (stv hA (by decide) (run_bin (hA.ev rfl) (hA.ev rfl) (bin_mul _ _ _ _)) ?_); intro a hA
          refine L1 (stv hA (by decide) (run_bin (hA.ev rfl) (hA.ev rfl) (bin_lss _ _ _ _)) ?_); intro a hA
          refine LQ ?_
          refine TN ?_
          refine tcond (b := (decide ((IntKind.i64.wrap ((IntKind.i64.wrap (within68 + r79.1)) * den_3)) < (IntKind.i64.wrap (num_2 * (IntKind.i64.wrap (total69 + r79.2))))))) hA rfl (fun hb85 => ?_) (fun hb85 => ?_)
          · replace H72 := ite_t hb85 H72
            refine wp_exit ?_
            refine TX ?_
            refine BO rfl ?_
            refine TX ?_
            refine TX ?_
            refine BX ?_
            have hB86 := hB75.trans (hE82.mono hB75.size)
            exact ⟨answer67, Option.some.inj H72, hB86, (hA.nil.cons (hA.get 14 _ rfl))⟩
          · replace H72 := ite_f hb85 H72
            refine wp_skip ?_
            refine TN ?_
            refine wp_region_lit ?_
            refine L1 (stv hA (by decide) (run_move (hA.ev rfl)) ?_); intro a hA
            have hB87 := hB75.trans (hE82.mono hB75.size)
            obtain ⟨r88, H89, H72⟩ := Option.bind_eq_some_iff.1 H72
            refine L1 (st_call Try.call10 hA [(.int .i64 t70)] rfl (by decide) (fees_Bound.calls _ _ _ _ H89) ?_)
            rintro _ w90 ⟨rfl, hE91⟩ a hA
            refine L1 (stv hA (by decide) (run_assign (hA.ev rfl)) ?_); intro a hA
            refine L1 (stv hA (by decide) (run_assign (hA.ev rfl)) ?_); intro a hA
            refine L1 (stv hA (by decide) (run_assign (hA.ev rfl)) ?_); intro a hA
            refine LQ ?_
            refine BN ?_
            refine TN ?_
            refine wp_region_lit ?_
            refine L1 (stv hA (by decide) (run_move (hA.ev rfl)) ?_); intro a hA
            refine L1 (stv hA (by decide) (run_bin (hA.ev rfl) (hA.ev rfl) (bin_sub _ _ _ _)) ?_); intro a hA
            refine L1 (stv hA (by decide) (run_assign (hA.ev rfl)) ?_); intro a hA
            refine LQ ?_
            have hB92 := hB87.trans (hE91.mono hB87.size)
            exact ⟨_, Nat.lt_succ_self m76, r88, 0, 0, IntKind.i64.wrap (t70 - 1), H72, hB92, ((((((((((hA.nil.cons (hA.get 17 _ rfl)).cons (hA.get 16 _ rfl)).cons (hA.get 15 _ rfl)).cons (hA.get 14 _ rfl)).cons (hA.get 5 _ rfl)).cons (hA.get 4 _ rfl)).cons (hA.get 3 _ rfl)).cons (hA.get 2 _ rfl)).cons (hA.get 1 _ rfl)).cons (hA.get 0 _ rfl))⟩
      · replace H72 := ite_f hb78 H72
        refine wp_exit ?_
        refine TX ?_
        refine TX ?_
        refine BX ?_
        exact ⟨answer67, Option.some.inj H72, hB75, (hA.nil.cons (hA.get 14 _ rfl))⟩
    rintro a w93 ⟨answer71, rfl, hB74, hA⟩
    try dsimp only at H
    refine TN ?_
    refine wp_seq ?_
    refine wp_seq ?_
    refine wp_region_lit ?_
    refine L1 (stv hA (by decide) (run_move (hA.ev rfl)) ?_); intro a hA
    refine L1 (stv hA (by decide) (run_bin (hA.ev rfl) (hA.ev rfl) (bin_eql _ _ _ _)) ?_); intro a hA
    refine LQ ?_
    refine TN ?_
    refine tcond (b := (answer71 == 0)) hA rfl (fun hb94 => ?_) (fun hb94 => ?_)
    · replace H := ite_t hb94 H
      refine wp_seq ?_
      refine wp_region_lit ?_
      refine L1 (stv hA (by decide) (run_assign (hA.ev rfl)) ?_); intro a hA
      refine L1 (stv hA (by decide) (run_assign (hA.ev rfl)) ?_); intro a hA
      refine LQ ?_
      refine TN ?_
      refine wp_ret ?_
      cases H
      refine TR ?_
      exact ret_post2 (fn := Try.f16) hA rfl rfl rfl ⟨_, rfl, rfl, hB74⟩
    · replace H := ite_f hb94 H
      refine wp_skip ?_
      refine TN ?_
      refine wp_seq ?_
      refine wp_region_lit ?_
      refine L1 (stv hA (by decide) (run_move (hA.ev rfl)) ?_); intro a hA
      refine L1 (stv hA (by decide) (run_assign (hA.ev rfl)) ?_); intro a hA
      refine L1 (stv hA (by decide) (run_assign (hA.ev rfl)) ?_); intro a hA
      refine LQ ?_
      refine TN ?_
      refine wp_ret ?_
      cases H
      exact ret_post2 (fn := Try.f16) hA rfl rfl rfl ⟨_, rfl, rfl, hB74⟩

def law33_FeesOrder.l0 (p_4 : Int) (r19 : ((List Sample) × Int)) : Nat → (List Sample) → Int → Option ((List Sample))
  | 0, _, _ => none
  | k + 1, t158, t162 => (if (decide (t162 < (r19.1.length : Int))) = true then ((mill_Mod.f k p_4 (r19.1.length : Int)).bind fun r181 => (if ¬ (r19.1.length : Int) = 0 then (if 0 ≤ (IntKind.i64.wrap (t162 + r181)).tmod (r19.1.length : Int) ∧ (IntKind.i64.wrap (t162 + r181)).tmod (r19.1.length : Int) < (r19.1.length : Int) then (if (t158.length + [(r19.1.getD ((IntKind.i64.wrap (t162 + r181)).tmod (r19.1.length : Int)).toNat Sample.z)].length) * 56 ≤ 140737488355328 then (law33_FeesOrder.l0 p_4 r19 k (t158 ++ [(r19.1.getD ((IntKind.i64.wrap (t162 + r181)).tmod (r19.1.length : Int)).toNat Sample.z)]) (IntKind.i64.wrap (t162 + 1))) else none) else none) else none)) else (some t158))
def law33_FeesOrder.l1  : Nat → (List Sample) → Int → Int → Option ((List Sample))
  | 0, _, _, _ => none
  | k + 1, t352, t356, t357 => (if (decide (t356 < t357)) = true then (if 0 ≤ t357 ∧ t357 < (t352.length : Int) then (if 0 ≤ t356 ∧ t356 < (t352.length : Int) then (if 0 ≤ t356 ∧ t356 < (t352.length : Int) then (if 0 ≤ t357 ∧ t357 < ((t352.set t356.toNat (t352.getD t357.toNat Sample.z)).length : Int) then (law33_FeesOrder.l1  k ((t352.set t356.toNat (t352.getD t357.toNat Sample.z)).set t357.toNat (t352.getD t356.toNat Sample.z)) (IntKind.i64.wrap (t356 + 1)) (IntKind.i64.wrap (t357 - 1))) else none) else none) else none) else none) else (some t352))
def law33_FeesOrder.f (k : Nat) (C_0 : (List Int)) (o_1 : Int) (d_2 : Int) (e_3 : Int) (p_4 : Int) (t_5 : Int) : Option Bool := ((law33_sane.f k ).bind fun r1 => (if (!r1) = true then (some false) else ((mill_New.f k C_0).bind fun r8 => ((law33_samples.f k C_0 r8).bind fun r19 => (Option.bind (α := (List Sample)) (law33_FeesOrder.l0 p_4 r19 k ([] : List Sample) 0) (fun t163 => (Option.bind (α := (List Sample)) (law33_FeesOrder.l1 k t163 0 (IntKind.i64.wrap ((t163.length : Int) - 1))) (fun t358 => ((mill_Mod.f k o_1 24).bind fun r413 => ((mill_Mod.f k d_2 11).bind fun r420 => ((mill_Mod.f k t_5 40).bind fun r427 => ((mill_Mod.f k e_3 (IntKind.i64.wrap (r420 + 1))).bind fun r434 => ((fees_Estimate.f k r19.1 (IntKind.i64.wrap (1 + r413)) r420 10 2 r427).bind fun r441 => ((fees_Estimate.f k t358 (IntKind.i64.wrap (1 + r413)) r420 10 2 r427).bind fun r448 => ((fees_Estimate.f k r19.1 (IntKind.i64.wrap (1 + r413)) r434 10 2 r427).bind fun r455 => (Option.bind (α := Bool) (if (r441.1 != r448.1) = true then (some true) else (if (r441.2 != r448.2) = true then (some true) else (if (r441.2 == 0) = true then (if (r455.2 != 0) = true then (some true) else (some (decide (r455.1 > r441.1)))) else (some false)))) (fun t463 => (if t463 = true then (some false) else (Option.bind (α := Bool) (if (r441.2 != 0) = true then (some true) else ((fees_Class.f k r441.1).bind fun r491 => ((fees_Bound.f k r491).bind fun r496 => (some (r496 == r441.1))))) (fun t484 => (some t484)))))))))))))))))))))
theorem law33_FeesOrder.calls (k : Nat) (C_0 : (List Int)) (o_1 : Int) (d_2 : Int) (e_3 : Int) (p_4 : Int) (t_5 : Int) (A0 : Option Addr) (c0 : Nat) (r : Bool) (w0 : World) (hr0 : Row (Pl.int .i64) w0 A0 C_0) (H : law33_FeesOrder.f k C_0 o_1 d_2 e_3 p_4 t_5 = some r) :
    Calls Try.prog 4 #[(.slice A0 C_0.length c0), (.int .i64 o_1), (.int .i64 d_2), (.int .i64 e_3), (.int .i64 p_4), (.int .i64 t_5)] w0 fun e w' => ∃ v, e = .returned v ∧ v = (.bool r) ∧ Below w0.heap.size w0 w' := by
  unfold law33_FeesOrder.f at H
  have hB0 := Below.refl w0.heap.size w0
  refine enterL (n := 143) [(.slice A0 C_0.length c0), (.int .i64 o_1), (.int .i64 d_2), (.int .i64 e_3), (.int .i64 p_4), (.int .i64 t_5)] Try.func4 rfl rfl rfl ?_
  intro a hA
  refine wp_seq ?_
  refine wp_region_lit ?_
  refine L1 (stv hA (by decide) (run_assign (hA.ev rfl)) ?_); intro a hA
  refine LQ ?_
  refine TN ?_
  refine wp_seq ?_
  refine wp_seq ?_
  refine wp_region_lit ?_
  obtain ⟨r1, H2, H⟩ := Option.bind_eq_some_iff.1 H
  refine L1 (st_call Try.call6 hA [] rfl (by decide) (law33_sane.calls _ _ _ H2) ?_)
  rintro _ w3 ⟨rfl, hE4⟩ a hA
  refine L1 (stv hA (by decide) (run_not (hA.ev rfl)) ?_); intro a hA
  refine LQ ?_
  refine TN ?_
  refine tcond (b := (!r1)) hA rfl (fun hb5 => ?_) (fun hb5 => ?_)
  · replace H := ite_t hb5 H
    refine wp_seq ?_
    refine wp_region_lit ?_
    refine L1 (stv hA (by decide) (run_assign (hA.ev rfl)) ?_); intro a hA
    refine LQ ?_
    refine TN ?_
    refine wp_ret ?_
    have hB6 := hB0.trans (hE4.mono hB0.size)
    cases H
    refine TR ?_
    exact ret_post1 (fn := Try.f4) hA rfl rfl ⟨_, rfl, rfl, hB6⟩
  · replace H := ite_f hb5 H
    refine wp_skip ?_
    refine TN ?_
    refine wp_seq ?_
    refine wp_region_lit ?_
    refine L1 (stv hA (by decide) (run_move (hA.ev rfl)) ?_); intro a hA
    have hB7 := hB0.trans (hE4.mono hB0.size)
    obtain ⟨r8, H9, H⟩ := Option.bind_eq_some_iff.1 H
    refine L1 (st_call Try.call15 hA [(.slice A0 C_0.length c0)] rfl (by decide) (mill_New.calls _ _ _ _ _ _ ((hr0.ext hB7)) H9) ?_)
    rintro _ w13 ⟨⟨g10, rfl, hg12, hX11⟩, hE14⟩ a hA
    have ge15 := Nat.le_trans hB7.size hg12
    have gw16 := Nat.le_trans hB7.size hg12
    have hB18 := hB7.trans (hE14.mono hB7.size)
    obtain ⟨r19, H20, H⟩ := Option.bind_eq_some_iff.1 H
    refine L1 (st_call Try.call14 hA [(.pointer (some (⟨g10, 0, none⟩)))] rfl (by decide) (law33_samples.calls _ _ _ _ _ _ _ _ _ (hX11) (ge15) (hB18) (hr0) H20) ?_)
    rintro v27 w25 ⟨hO23, hX28, hE26⟩ a hA
    obtain ⟨A21, c22, rfl⟩ := hO23.form1
    have sp29 := sep_new (lt_box hX11) (fun k hk => (hO23.lt k hk).1)
    replace hO23 := hO23.base hB18.size
    refine L1 (stv hA (by decide) (run_assign (hA.ev rfl)) ?_); intro a hA
    refine LQ ?_
    refine TN ?_
    refine wp_seq ?_
    refine wp_region_lit ?_
    refine L1 (stv hA (by decide) (run_assign (hA.ev rfl)) ?_); intro a hA
    refine LQ ?_
    refine TN ?_
    refine wp_seq ?_
    refine wp_seq ?_
    refine wp_region_lit ?_
    refine L1 (stv hA (by decide) (run_move (hA.ev rfl)) ?_); intro a hA
    refine L1 (stv hA (by decide) (run_len_slice Try.underlying28 (hA.ev rfl)) ?_); intro a hA
    refine L1 (stv hA (by decide) (run_move (hA.ev rfl)) ?_); intro a hA
    refine LQ ?_
    refine TN ?_
    obtain ⟨o168, H167, H⟩ := Option.bind_eq_some_iff.1 H
    refine cutC (fun a w => ∃ (t163 : (List Sample)) (A164 : Option Addr) (c165 : Nat), t163 = o168 ∧ (Below w0.heap.size w0 w) ∧ (Own pSample 35 w0.heap.size w (.slice A21 r19.1.length c22) r19.1) ∧ (Own pSample 35 w0.heap.size w (.slice A164 t163.length c165) t163) ∧ (Sep (Value.ownBlock (.slice A21 r19.1.length c22)) (Value.ownBlock (.slice A164 t163.length c165))) ∧ Has 143 [(1, (.int .i64 o_1)), (2, (.int .i64 d_2)), (3, (.int .i64 e_3)), (5, (.int .i64 t_5)), (13, (.slice A21 r19.1.length c22)), (14, (.slice A164 t163.length c165))] a) ?_ ?_
    · refine wp_block ?_
      have hB177 := hB18.grown hE26 hB18.size (fun k hk => by cases hk; exact ge15)
      refine wp_loop_ghost (fun m a w => ∃ (t158 : (List Sample)) (t162 : Int) (A159 : Option Addr) (c160 : Nat), law33_FeesOrder.l0 p_4 r19 m t158 t162 = some o168 ∧ (Below w0.heap.size w0 w) ∧ (Own pSample 35 w0.heap.size w (.slice A21 r19.1.length c22) r19.1) ∧ (Own pSample 35 w0.heap.size w (.slice A159 t158.length c160) t158) ∧ (Sep (Value.ownBlock (.slice A21 r19.1.length c22)) (Value.ownBlock (.slice A159 t158.length c160))) ∧ Has 143 [(1, (.int .i64 o_1)), (2, (.int .i64 d_2)), (3, (.int .i64 e_3)), (4, (.int .i64 p_4)), (5, (.int .i64 t_5)), (13, (.slice A21 r19.1.length c22)), (14, (.slice A159 t158.length c160)), (34, (.int .i64 (r19.1.length : Int))), (35, (.int .i64 t162))] a) k ⟨([] : List Sample), 0, none, 0, H167, hB177, hO23, (Own.nil _ _ _ _), sep_none, (((((((((hA.nil.cons (hA.get 35 _ rfl)).cons (hA.get 34 _ rfl)).cons (hA.get 14 _ rfl)).cons (hA.get 13 _ rfl)).cons (hA.get 5 _ rfl)).cons (hA.get 4 _ rfl)).cons (hA.get 3 _ rfl)).cons (hA.get 2 _ rfl)).cons (hA.get 1 _ rfl))⟩ ?_
      rintro m178 a w179 ⟨t158, t162, A159, c160, H167, hB173, hO174, hO175, sp176, hA⟩
      cases m178 with
      | zero => exact absurd H167 (by simp [law33_FeesOrder.l0])
      | succ m178 =>
      rw [law33_FeesOrder.l0] at H167
      refine wp_seq ?_
      refine wp_region_lit ?_
      refine L1 (stv hA (by decide) (run_bin (hA.ev rfl) (hA.ev rfl) (bin_lss _ _ _ _)) ?_); intro a hA
      refine LQ ?_
      refine TN ?_
      refine wp_seq ?_
      refine tcond (b := (decide (t162 < (r19.1.length : Int)))) hA rfl (fun hb180 => ?_) (fun hb180 => ?_)
      · replace H167 := ite_t hb180 H167
        refine wp_skip ?_
        refine TN ?_
        refine wp_seq ?_
        refine wp_block ?_
        refine wp_seq ?_
        refine wp_region_lit ?_
        refine L1 (stv hA (by decide) (run_move (hA.ev rfl)) ?_); intro a hA
        refine L1 (stv hA (by decide) (run_assign (hA.ev rfl)) ?_); intro a hA
        refine LQ ?_
        refine TN ?_
        refine wp_region_lit ?_
        refine L1 (stv hA (by decide) (run_move (hA.ev rfl)) ?_); intro a hA
        refine L1 (stv hA (by decide) (run_move (hA.ev rfl)) ?_); intro a hA
        refine L1 (stv hA (by decide) (run_move (hA.ev rfl)) ?_); intro a hA
        refine L1 (stv hA (by decide) (run_move (hA.ev rfl)) ?_); intro a hA
        refine L1 (stv hA (by decide) (run_move (hA.ev rfl)) ?_); intro a hA
        refine L1 (stv hA (by decide) (run_len_slice Try.underlying28 (hA.ev rfl)) ?_); intro a hA
        obtain ⟨r181, H182, H167⟩ := Option.bind_eq_some_iff.1 H167
        refine L1 (st_call Try.call7 hA [(.int .i64 p_4), (.int .i64 (r19.1.length : Int))] rfl (by decide) (mill_Mod.calls _ _ _ _ _ H182) ?_)
        rintro _ w183 ⟨rfl, hE184⟩ a hA
        refine L1 (stv hA (by decide) (run_bin (hA.ev rfl) (hA.ev rfl) (bin_add _ _ _ _)) ?_); intro a hA
        refine L1 (stv hA (by decide) (run_move (hA.ev rfl)) ?_); intro a hA
        refine L1 (stv hA (by decide) (run_len_slice Try.underlying28 (hA.ev rfl)) ?_); intro a hA
        obtain ⟨hd185, H167⟩ := ite_some H167
        refine L1 (stv hA (by decide) (run_bin (hA.ev rfl) (hA.ev rfl) (bin_rem _ _ _ _ hd185)) ?_); intro a hA
        obtain ⟨⟨hi186, hj187⟩, H167⟩ := ite_some H167
        have h191 := hO174.ext hE184
        obtain ⟨ad188, hq189, hat190⟩ := h191.row.elem Sample.z ((IntKind.i64.wrap (t162 + r181)).tmod (r19.1.length : Int)) hi186 hj187
        refine L1 (stv hA (by decide) (run_idx Try.underlying28 Try.sizeOf35 (hA.ev rfl) hq189 (hA.ev rfl) hi186 hj187) ?_); intro a hA
        refine L1 (stv hA (by decide) (run_ld (hA.ev rfl) (run_loadP Try.isAgg35 Try.sizeOf35 hat190)) ?_); intro a hA
        have hB192 := hB173.trans (hE184.mono hB173.size)
        have h193 := hO175.ext hE184
        refine L1 (st_lit1 (x1 := (r19.1.getD ((IntKind.i64.wrap (t162 + r181)).tmod (r19.1.length : Int)).toNat Sample.z)) elt28 (by decide) hA rfl rfl (by decide) ?_)
        intro w195 g194 hg196 hz197 hO198 hE199 a hA
        replace hO198 := hO198.base hB192.size
        have sp201 : Sep (Value.ownBlock (.slice A21 r19.1.length c22)) (Value.ownBlock (.slice (some ⟨g194, 0, none⟩) 1 1)) := sep_lt (fun k hk => (h191.lt k hk).2) hg196
        have sp202 : Sep (Value.ownBlock (.slice A159 t158.length c160)) (Value.ownBlock (.slice (some ⟨g194, 0, none⟩) 1 1)) := sep_lt (fun k hk => (h193.lt k hk).2) hg196
        have hB203 := hB192.trans (hE199.mono hB192.size)
        have h204 := h193.ext hE199
        have h205 := h191.ext hE199
        obtain ⟨hl206, H167⟩ := ite_some H167
        refine L1 (st_append (ys := [(r19.1.getD ((IntKind.i64.wrap (t162 + r181)).tmod (r19.1.length : Int)).toNat Sample.z)]) elt28 (h204) (hO198.row) hl206 hB203.size hA rfl rfl (by decide) ?_)
        intro v207 w208 hO209 hU210 ht211 a hA
        have sp215 := sep_app (sp176) (fun k hk => (h205.lt k hk).2) ht211
        have sp216 := sep_app ((sp202).symm) (fun k hk => (hO198.lt k hk).2) ht211
        obtain ⟨A213, c214, rfl⟩ := hO209.form1
        refine L1 (stv hA (by decide) (run_assign (hA.ev rfl)) ?_); intro a hA
        refine LQ ?_
        refine BN ?_
        refine TN ?_
        refine wp_region_lit ?_
        refine L1 (stv hA (by decide) (run_bin (hA.ev rfl) (hA.ev rfl) (bin_add _ _ _ _)) ?_); intro a hA
        refine L1 (stv hA (by decide) (run_move (hA.ev rfl)) ?_); intro a hA
        refine LQ ?_
        have hB217 := hB203.grown hU210 hB203.size (fun k hk => ((h204).lt k hk).1)
        have h218 := h205.kept hU210 ((sep_lenR (sp176)))
        exact ⟨_, Nat.lt_succ_self m178, (t158 ++ [(r19.1.getD ((IntKind.i64.wrap (t162 + r181)).tmod (r19.1.length : Int)).toNat Sample.z)]), IntKind.i64.wrap (t162 + 1), A213, c214, H167, hB217, h218, hO209, (sp215), (((((((((hA.nil.cons (hA.get 35 _ rfl)).cons (hA.get 34 _ rfl)).cons (hA.get 14 _ rfl)).cons (hA.get 13 _ rfl)).cons (hA.get 5 _ rfl)).cons (hA.get 4 _ rfl)).cons (hA.get 3 _ rfl)).cons (hA.get 2 _ rfl)).cons (hA.get 1 _ rfl))⟩
      · replace H167 := ite_f hb180 H167
        refine wp_exit ?_
        refine TX ?_
        refine TX ?_
        refine BX ?_
        exact ⟨t158, A159, c160, Option.some.inj H167, hB173, hO174, hO175, (sp176), ((((((hA.nil.cons (hA.get 14 _ rfl)).cons (hA.get 13 _ rfl)).cons (hA.get 5 _ rfl)).cons (hA.get 3 _ rfl)).cons (hA.get 2 _ rfl)).cons (hA.get 1 _ rfl))⟩
    rintro a w219 ⟨t163, A164, c165, rfl, hB169, hO170, hO171, sp172, hA⟩
    try dsimp only at H
    refine TN ?_
    refine wp_seq ?_
    refine wp_seq ?_
    refine wp_region_lit ?_
    refine L1 (stv hA (by decide) (run_move (hA.ev rfl)) ?_); intro a hA
    refine L1 (stv hA (by decide) (run_len_slice Try.underlying28 (hA.ev rfl)) ?_); intro a hA
    refine L1 (stv hA (by decide) (run_bin (hA.ev rfl) (hA.ev rfl) (bin_sub _ _ _ _)) ?_); intro a hA
    refine L1 (stv hA (by decide) (run_assign (hA.ev rfl)) ?_); intro a hA
    refine L1 (stv hA (by decide) (run_assign (hA.ev rfl)) ?_); intro a hA
    refine LQ ?_
    refine TN ?_
    obtain ⟨o363, H362, H⟩ := Option.bind_eq_some_iff.1 H
    refine cutC (fun a w => ∃ (t358 : (List Sample)) (A359 : Option Addr) (c360 : Nat), t358 = o363 ∧ (Below w0.heap.size w0 w) ∧ (Own pSample 35 w0.heap.size w (.slice A21 r19.1.length c22) r19.1) ∧ (Own pSample 35 w0.heap.size w (.slice A359 t358.length c360) t358) ∧ (Sep (Value.ownBlock (.slice A21 r19.1.length c22)) (Value.ownBlock (.slice A359 t358.length c360))) ∧ Has 143 [(1, (.int .i64 o_1)), (2, (.int .i64 d_2)), (3, (.int .i64 e_3)), (5, (.int .i64 t_5)), (13, (.slice A21 r19.1.length c22)), (14, (.slice A359 t358.length c360))] a) ?_ ?_
    · refine wp_block ?_
      refine wp_loop_ghost (fun m a w => ∃ (t352 : (List Sample)) (t356 : Int) (t357 : Int) (A353 : Option Addr) (c354 : Nat), law33_FeesOrder.l1 m t352 t356 t357 = some o363 ∧ (Below w0.heap.size w0 w) ∧ (Own pSample 35 w0.heap.size w (.slice A21 r19.1.length c22) r19.1) ∧ (Own pSample 35 w0.heap.size w (.slice A353 t352.length c354) t352) ∧ (Sep (Value.ownBlock (.slice A21 r19.1.length c22)) (Value.ownBlock (.slice A353 t352.length c354))) ∧ Has 143 [(1, (.int .i64 o_1)), (2, (.int .i64 d_2)), (3, (.int .i64 e_3)), (5, (.int .i64 t_5)), (13, (.slice A21 r19.1.length c22)), (14, (.slice A353 t352.length c354)), (16, (.int .i64 t356)), (17, (.int .i64 t357))] a) k ⟨t163, 0, IntKind.i64.wrap ((t163.length : Int) - 1), A164, c165, H362, hB169, hO170, hO171, (sp172), ((((((((hA.nil.cons (hA.get 17 _ rfl)).cons (hA.get 16 _ rfl)).cons (hA.get 14 _ rfl)).cons (hA.get 13 _ rfl)).cons (hA.get 5 _ rfl)).cons (hA.get 3 _ rfl)).cons (hA.get 2 _ rfl)).cons (hA.get 1 _ rfl))⟩ ?_
      rintro m372 a w373 ⟨t352, t356, t357, A353, c354, H362, hB368, hO369, hO370, sp371, hA⟩
      cases m372 with
      | zero => exact absurd H362 (by simp [law33_FeesOrder.l1])
      | succ m372 =>
      rw [law33_FeesOrder.l1] at H362
      refine wp_seq ?_
      refine wp_seq ?_
      refine wp_region_lit ?_
      refine L1 (stv hA (by decide) (run_move (hA.ev rfl)) ?_); intro a hA
      refine L1 (stv hA (by decide) (run_move (hA.ev rfl)) ?_); intro a hA
      refine L1 (stv hA (by decide) (run_bin (hA.ev rfl) (hA.ev rfl) (bin_lss _ _ _ _)) ?_); intro a hA
      refine LQ ?_
      refine TN ?_
      refine tcond (b := (decide (t356 < t357))) hA rfl (fun hb374 => ?_) (fun hb374 => ?_)
      · replace H362 := ite_t hb374 H362
        refine wp_skip ?_
        refine TN ?_
        refine wp_seq ?_
        refine wp_block ?_
        refine draw (fun w' => Below w373.heap.size w373 w') [13, 15] rfl ?_
        intro w375 hw hS
        have hE376 := hS
        clear hw
        refine d_takef (i := 0) (L' := #[true, false, false, false, false, false, false, false, false, false, false, false, false, false, false, false]) rfl (by kernel_rfl) rfl (fun _ _ _ h => h) hA (by decide) (fun _ => hS) (fun a w' hA => run_move (hA.ev rfl)) ?_; intro a hA
        refine d_takef (i := 1) (L' := #[true, true, false, false, false, false, false, false, false, false, false, false, false, false, false, false]) rfl (by kernel_rfl) rfl (fun _ _ _ h => h) hA (by decide) (fun _ => hS) (fun a w' hA => run_move (hA.ev rfl)) ?_; intro a hA
        refine d_takef (i := 2) (L' := #[true, true, true, false, false, false, false, false, false, false, false, false, false, false, false, false]) rfl (by kernel_rfl) rfl (fun _ _ _ h => h) hA (by decide) (fun _ => hS) (fun a w' hA => run_move (hA.ev rfl)) ?_; intro a hA
        refine d_takef (i := 3) (L' := #[true, true, true, true, false, false, false, false, false, false, false, false, false, false, false, false]) rfl (by kernel_rfl) rfl (fun _ _ _ h => h) hA (by decide) (fun _ => hS) (fun a w' hA => run_move (hA.ev rfl)) ?_; intro a hA
        refine d_takef (i := 4) (L' := #[true, true, true, true, true, false, false, false, false, false, false, false, false, false, false, false]) rfl (by kernel_rfl) rfl (fun _ _ _ h => h) hA (by decide) (fun _ => hS) (fun a w' hA => run_move (hA.ev rfl)) ?_; intro a hA
        refine d_takef (i := 5) (L' := #[true, true, true, true, true, true, false, false, false, false, false, false, false, false, false, false]) rfl (by kernel_rfl) rfl (fun _ _ _ h => h) hA (by decide) (fun _ => hS) (fun a w' hA => run_move (hA.ev rfl)) ?_; intro a hA
        obtain ⟨⟨hi377, hj378⟩, H362⟩ := ite_some H362
        obtain ⟨ad379, hq380, hat381⟩ := hO370.row.elem Sample.z t357 hi377 hj378
        refine d_takef (i := 6) (L' := #[true, true, true, true, true, true, true, false, false, false, false, false, false, false, false, false]) rfl (by kernel_rfl) rfl (fun _ _ _ h => h) hA (by decide) (fun _ => hS) (fun a w' hA => run_idx Try.underlying28 Try.sizeOf35 (hA.ev rfl) hq380 (hA.ev rfl) hi377 hj378) ?_; intro a hA
        refine d_take (i := 7) (L' := #[true, true, true, true, true, true, true, true, false, false, false, false, false, false, false, false]) rfl (by kernel_rfl) rfl (fun _ _ _ h => h) hA (by decide) rfl hS (fun a w' hA hS' => run_ld (hA.ev rfl) (run_loadP Try.isAgg35 Try.sizeOf35 ((hat381).ext fun b h => hS'.block b h))) ?_; intro a hA
        refine d_takef (i := 8) (L' := #[true, true, true, true, true, true, true, true, true, false, false, false, false, false, false, false]) rfl (by kernel_rfl) rfl (fun _ _ _ h => h) hA (by decide) (fun _ => hS) (fun a w' hA => run_move (hA.ev rfl)) ?_; intro a hA
        refine d_takef (i := 9) (L' := #[true, true, true, true, true, true, true, true, true, true, false, false, false, false, false, false]) rfl (by kernel_rfl) rfl (fun _ _ _ h => h) hA (by decide) (fun _ => hS) (fun a w' hA => run_move (hA.ev rfl)) ?_; intro a hA
        obtain ⟨⟨hi382, hj383⟩, H362⟩ := ite_some H362
        obtain ⟨ad384, hq385, hat386⟩ := hO370.row.elem Sample.z t356 hi382 hj383
        refine d_takef (i := 10) (L' := #[true, true, true, true, true, true, true, true, true, true, true, false, false, false, false, false]) rfl (by kernel_rfl) rfl (fun _ _ _ h => h) hA (by decide) (fun _ => hS) (fun a w' hA => run_idx Try.underlying28 Try.sizeOf35 (hA.ev rfl) hq385 (hA.ev rfl) hi382 hj383) ?_; intro a hA
        refine d_take (i := 11) (L' := #[true, true, true, true, true, true, true, true, true, true, true, true, false, false, false, false]) rfl (by kernel_rfl) rfl (fun _ _ _ h => h) hA (by decide) rfl hS (fun a w' hA hS' => run_ld (hA.ev rfl) (run_loadP Try.isAgg35 Try.sizeOf35 ((hat386).ext fun b h => hS'.block b h))) ?_; intro a hA
        obtain ⟨⟨hi387, hj388⟩, H362⟩ := ite_some H362
        obtain ⟨ad389, hq390, hat391⟩ := hO370.row.elem Sample.z t356 hi387 hj388
        refine d_takef (i := 12) (L' := #[true, true, true, true, true, true, true, true, true, true, true, true, true, false, false, false]) rfl (by kernel_rfl) rfl (fun _ _ _ h => h) hA (by decide) (fun _ => hS) (fun a w' hA => run_idx Try.underlying28 Try.sizeOf35 (hA.ev rfl) hq390 (hA.ev rfl) hi387 hj388) ?_; intro a hA
        have hB392 := hB368.trans (hE376.mono hB368.size)
        have h393 := hO370.ext hE376
        have h394 := hO369.ext hE376
        refine d_one (i := 13) (L' := #[true, true, true, true, true, true, true, true, true, true, true, true, true, true, false, false]) (by kernel_rfl) rfl rfl (st_setrow (y1 := (t352.getD t357.toNat Sample.z)) elt28 h393 hA rfl hq390 rfl rfl hi387 hj388 ?_)
        intro w395 hO396 hU397 a hA
        replace hA := hA.re (t := 14) rfl (len_set t352 t356.toNat (t352.getD t357.toNat Sample.z))
        replace hA := hA.re (t := 64) rfl (len_set t352 t356.toNat (t352.getD t357.toNat Sample.z))
        replace hA := hA.re (t := 66) rfl (len_set t352 t356.toNat (t352.getD t357.toNat Sample.z))
        replace hA := hA.re (t := 68) rfl (len_set t352 t356.toNat (t352.getD t357.toNat Sample.z))
        replace hA := hA.re (t := 72) rfl (len_set t352 t356.toNat (t352.getD t357.toNat Sample.z))
        have sp398 := sep_lenR (q' := (t352.set t356.toNat (t352.getD t357.toNat Sample.z)).length) sp371
        refine ⟨fun h => absurd h (by decide), ?_⟩
        obtain ⟨⟨hi399, hj400⟩, H362⟩ := ite_some H362
        obtain ⟨ad401, hq402, hat403⟩ := hO396.row.elem Sample.z t357 hi399 hj400
        refine d_takef (i := 14) (L' := #[true, true, true, true, true, true, true, true, true, true, true, true, true, true, true, false]) rfl (by kernel_rfl) rfl (fun _ _ _ h => h) hA (by decide) (fun h => absurd h (by decide)) (fun a w' hA => run_idx Try.underlying28 Try.sizeOf35 (hA.ev rfl) hq402 (hA.ev rfl) hi399 hj400) ?_; intro a hA
        have hB404 := hB392.grown hU397 hB392.size (fun k hk => ((h393).lt k hk).1)
        have h405 := h394.kept hU397 ((sep_lenR (sp398)))
        refine d_one (i := 15) (L' := #[true, true, true, true, true, true, true, true, true, true, true, true, true, true, true, true]) (by kernel_rfl) rfl rfl (st_setrow (y1 := (t352.getD t356.toNat Sample.z)) elt28 hO396 hA rfl hq402 rfl rfl hi399 hj400 ?_)
        intro w406 hO407 hU408 a hA
        replace hA := hA.re (t := 14) rfl (len_set (t352.set t356.toNat (t352.getD t357.toNat Sample.z)) t357.toNat (t352.getD t356.toNat Sample.z))
        replace hA := hA.re (t := 64) rfl (len_set (t352.set t356.toNat (t352.getD t357.toNat Sample.z)) t357.toNat (t352.getD t356.toNat Sample.z))
        replace hA := hA.re (t := 66) rfl (len_set (t352.set t356.toNat (t352.getD t357.toNat Sample.z)) t357.toNat (t352.getD t356.toNat Sample.z))
        replace hA := hA.re (t := 68) rfl (len_set (t352.set t356.toNat (t352.getD t357.toNat Sample.z)) t357.toNat (t352.getD t356.toNat Sample.z))
        replace hA := hA.re (t := 72) rfl (len_set (t352.set t356.toNat (t352.getD t357.toNat Sample.z)) t357.toNat (t352.getD t356.toNat Sample.z))
        have sp409 := sep_lenR (q' := ((t352.set t356.toNat (t352.getD t357.toNat Sample.z)).set t357.toNat (t352.getD t356.toNat Sample.z)).length) sp398
        refine ⟨fun h => absurd h (by decide), ?_⟩
        refine d_done (by kernel_rfl) ?_
        refine BN ?_
        refine TN ?_
        refine wp_region_lit ?_
        refine L1 (stv hA (by decide) (run_move (hA.ev rfl)) ?_); intro a hA
        refine L1 (stv hA (by decide) (run_bin (hA.ev rfl) (hA.ev rfl) (bin_add _ _ _ _)) ?_); intro a hA
        refine L1 (stv hA (by decide) (run_move (hA.ev rfl)) ?_); intro a hA
        refine L1 (stv hA (by decide) (run_bin (hA.ev rfl) (hA.ev rfl) (bin_sub _ _ _ _)) ?_); intro a hA
        refine L1 (stv hA (by decide) (run_assign (hA.ev rfl)) ?_); intro a hA
        refine L1 (stv hA (by decide) (run_assign (hA.ev rfl)) ?_); intro a hA
        refine LQ ?_
        have hB410 := hB404.grown hU408 hB404.size (fun k hk => ((hO396).lt k hk).1)
        have h411 := h405.kept hU408 ((sep_lenR (sp409)))
        exact ⟨_, Nat.lt_succ_self m372, ((t352.set t356.toNat (t352.getD t357.toNat Sample.z)).set t357.toNat (t352.getD t356.toNat Sample.z)), IntKind.i64.wrap (t356 + 1), IntKind.i64.wrap (t357 - 1), A353, c354, H362, hB410, h411, hO407, (sp409), ((((((((hA.nil.cons (hA.get 17 _ rfl)).cons (hA.get 16 _ rfl)).cons (hA.get 14 _ rfl)).cons (hA.get 13 _ rfl)).cons (hA.get 5 _ rfl)).cons (hA.get 3 _ rfl)).cons (hA.get 2 _ rfl)).cons (hA.get 1 _ rfl))⟩
      · replace H362 := ite_f hb374 H362
        refine wp_exit ?_
        refine TX ?_
        refine TX ?_
        refine BX ?_
        exact ⟨t352, A353, c354, Option.some.inj H362, hB368, hO369, hO370, (sp371), ((((((hA.nil.cons (hA.get 14 _ rfl)).cons (hA.get 13 _ rfl)).cons (hA.get 5 _ rfl)).cons (hA.get 3 _ rfl)).cons (hA.get 2 _ rfl)).cons (hA.get 1 _ rfl))⟩
    rintro a w412 ⟨t358, A359, c360, rfl, hB364, hO365, hO366, sp367, hA⟩
    try dsimp only at H
    refine TN ?_
    refine wp_seq ?_
    refine wp_region_lit ?_
    refine L1 (stv hA (by decide) (run_move (hA.ev rfl)) ?_); intro a hA
    obtain ⟨r413, H414, H⟩ := Option.bind_eq_some_iff.1 H
    refine L1 (st_call Try.call7 hA [(.int .i64 o_1), (.int .i64 24)] rfl (by decide) (mill_Mod.calls _ _ _ _ _ H414) ?_)
    rintro _ w415 ⟨rfl, hE416⟩ a hA
    refine L1 (stv hA (by decide) (run_bin (hA.ev rfl) (hA.ev rfl) (bin_add _ _ _ _)) ?_); intro a hA
    refine L1 (stv hA (by decide) (run_move (hA.ev rfl)) ?_); intro a hA
    have hB417 := hB364.trans (hE416.mono hB364.size)
    have h418 := hO365.ext hE416
    have h419 := hO366.ext hE416
    obtain ⟨r420, H421, H⟩ := Option.bind_eq_some_iff.1 H
    refine L1 (st_call Try.call7 hA [(.int .i64 d_2), (.int .i64 11)] rfl (by decide) (mill_Mod.calls _ _ _ _ _ H421) ?_)
    rintro _ w422 ⟨rfl, hE423⟩ a hA
    refine L1 (stv hA (by decide) (run_move (hA.ev rfl)) ?_); intro a hA
    have hB424 := hB417.trans (hE423.mono hB417.size)
    have h425 := h418.ext hE423
    have h426 := h419.ext hE423
    obtain ⟨r427, H428, H⟩ := Option.bind_eq_some_iff.1 H
    refine L1 (st_call Try.call7 hA [(.int .i64 t_5), (.int .i64 40)] rfl (by decide) (mill_Mod.calls _ _ _ _ _ H428) ?_)
    rintro _ w429 ⟨rfl, hE430⟩ a hA
    refine L1 (stv hA (by decide) (run_assign (hA.ev rfl)) ?_); intro a hA
    refine L1 (stv hA (by decide) (run_assign (hA.ev rfl)) ?_); intro a hA
    refine L1 (stv hA (by decide) (run_assign (hA.ev rfl)) ?_); intro a hA
    refine LQ ?_
    refine TN ?_
    refine wp_seq ?_
    refine wp_region_lit ?_
    refine L1 (stv hA (by decide) (run_move (hA.ev rfl)) ?_); intro a hA
    refine L1 (stv hA (by decide) (run_move (hA.ev rfl)) ?_); intro a hA
    refine L1 (stv hA (by decide) (run_bin (hA.ev rfl) (hA.ev rfl) (bin_add _ _ _ _)) ?_); intro a hA
    have hB431 := hB424.trans (hE430.mono hB424.size)
    have h432 := h425.ext hE430
    have h433 := h426.ext hE430
    obtain ⟨r434, H435, H⟩ := Option.bind_eq_some_iff.1 H
    refine L1 (st_call Try.call7 hA [(.int .i64 e_3), (.int .i64 (IntKind.i64.wrap (r420 + 1)))] rfl (by decide) (mill_Mod.calls _ _ _ _ _ H435) ?_)
    rintro _ w436 ⟨rfl, hE437⟩ a hA
    refine L1 (stv hA (by decide) (run_assign (hA.ev rfl)) ?_); intro a hA
    refine LQ ?_
    refine TN ?_
    refine wp_seq ?_
    refine wp_region_lit ?_
    refine L1 (stv hA (by decide) (run_move (hA.ev rfl)) ?_); intro a hA
    refine L1 (stv hA (by decide) (run_move (hA.ev rfl)) ?_); intro a hA
    refine L1 (stv hA (by decide) (run_move (hA.ev rfl)) ?_); intro a hA
    refine L1 (stv hA (by decide) (run_move (hA.ev rfl)) ?_); intro a hA
    have hB438 := hB431.trans (hE437.mono hB431.size)
    have h439 := h432.ext hE437
    have h440 := h433.ext hE437
    obtain ⟨r441, H442, H⟩ := Option.bind_eq_some_iff.1 H
    refine L1 (st_call Try.call16 hA [(.slice A21 r19.1.length c22), (.int .i64 (IntKind.i64.wrap (1 + r413))), (.int .i64 r420), (.int .i64 10), (.int .i64 2), (.int .i64 r427)] rfl (by decide) (fees_Estimate.calls _ _ _ _ _ _ _ _ _ _ _ (h439.row) H442) ?_)
    rintro _ w443 ⟨⟨rfl⟩, hE444⟩ a hA
    refine L1 (stv hA (by decide) (run_move (hA.ev rfl)) ?_); intro a hA
    refine L1 (stv hA (by decide) (run_ext (hA.ev rfl) rfl) ?_); intro a hA
    refine L1 (stv hA (by decide) (run_ext (hA.ev rfl) rfl) ?_); intro a hA
    refine L1 (stv hA (by decide) (run_assign (hA.ev rfl)) ?_); intro a hA
    refine L1 (stv hA (by decide) (run_assign (hA.ev rfl)) ?_); intro a hA
    refine LQ ?_
    refine TN ?_
    refine wp_seq ?_
    refine wp_region_lit ?_
    refine L1 (stv hA (by decide) (run_move (hA.ev rfl)) ?_); intro a hA
    refine L1 (stv hA (by decide) (run_move (hA.ev rfl)) ?_); intro a hA
    refine L1 (stv hA (by decide) (run_move (hA.ev rfl)) ?_); intro a hA
    refine L1 (stv hA (by decide) (run_move (hA.ev rfl)) ?_); intro a hA
    have hB445 := hB438.trans (hE444.mono hB438.size)
    have h446 := h440.ext hE444
    have h447 := h439.ext hE444
    obtain ⟨r448, H449, H⟩ := Option.bind_eq_some_iff.1 H
    refine L1 (st_call Try.call16 hA [(.slice A359 t358.length c360), (.int .i64 (IntKind.i64.wrap (1 + r413))), (.int .i64 r420), (.int .i64 10), (.int .i64 2), (.int .i64 r427)] rfl (by decide) (fees_Estimate.calls _ _ _ _ _ _ _ _ _ _ _ (h446.row) H449) ?_)
    rintro _ w450 ⟨⟨rfl⟩, hE451⟩ a hA
    refine L1 (stv hA (by decide) (run_move (hA.ev rfl)) ?_); intro a hA
    refine L1 (stv hA (by decide) (run_ext (hA.ev rfl) rfl) ?_); intro a hA
    refine L1 (stv hA (by decide) (run_ext (hA.ev rfl) rfl) ?_); intro a hA
    refine L1 (stv hA (by decide) (run_assign (hA.ev rfl)) ?_); intro a hA
    refine L1 (stv hA (by decide) (run_assign (hA.ev rfl)) ?_); intro a hA
    refine LQ ?_
    refine TN ?_
    refine wp_seq ?_
    refine wp_region_lit ?_
    refine L1 (stv hA (by decide) (run_move (hA.ev rfl)) ?_); intro a hA
    refine L1 (stv hA (by decide) (run_move (hA.ev rfl)) ?_); intro a hA
    refine L1 (stv hA (by decide) (run_move (hA.ev rfl)) ?_); intro a hA
    refine L1 (stv hA (by decide) (run_move (hA.ev rfl)) ?_); intro a hA
    have hB452 := hB445.trans (hE451.mono hB445.size)
    have h453 := h447.ext hE451
    have h454 := h446.ext hE451
    obtain ⟨r455, H456, H⟩ := Option.bind_eq_some_iff.1 H
    refine L1 (st_call Try.call16 hA [(.slice A21 r19.1.length c22), (.int .i64 (IntKind.i64.wrap (1 + r413))), (.int .i64 r434), (.int .i64 10), (.int .i64 2), (.int .i64 r427)] rfl (by decide) (fees_Estimate.calls _ _ _ _ _ _ _ _ _ _ _ (h453.row) H456) ?_)
    rintro _ w457 ⟨⟨rfl⟩, hE458⟩ a hA
    refine L1 (stv hA (by decide) (run_move (hA.ev rfl)) ?_); intro a hA
    refine L1 (stv hA (by decide) (run_ext (hA.ev rfl) rfl) ?_); intro a hA
    refine L1 (stv hA (by decide) (run_ext (hA.ev rfl) rfl) ?_); intro a hA
    refine L1 (stv hA (by decide) (run_assign (hA.ev rfl)) ?_); intro a hA
    refine L1 (stv hA (by decide) (run_assign (hA.ev rfl)) ?_); intro a hA
    refine LQ ?_
    refine TN ?_
    refine wp_seq ?_
    refine wp_seq ?_
    obtain ⟨o465, H464, H⟩ := Option.bind_eq_some_iff.1 H
    refine cutC (fun a w => ∃ (t463 : Bool), t463 = o465 ∧ w457 = w ∧ Has 143 [(22, (.int .i64 r441.1)), (23, (.int .i64 r441.2)), (133, (.bool t463))] a) ?_ ?_
    · refine wp_region_lit ?_
      refine L1 (stv hA (by decide) (run_move (hA.ev rfl)) ?_); intro a hA
      refine L1 (stv hA (by decide) (run_move (hA.ev rfl)) ?_); intro a hA
      refine L1 (stv hA (by decide) (run_bin (hA.ev rfl) (hA.ev rfl) (bin_neq _ _ _ _)) ?_); intro a hA
      refine L1 (stv hA (by decide) (run_move (hA.ev rfl)) ?_); intro a hA
      refine bsplit (b := (r441.1 != r448.1)) (fun hb466 => ?_) (fun hb466 => ?_)
      · replace H464 := ite_t hb466 H464
        have hA := hA.re (t := 116) rfl (congrArg Value.bool hb466)
        refine L1 (gate_off rfl (by decide) rfl hA (by decide) rfl rfl ?_); intro a hA
        refine L1 (gate_off rfl (by decide) rfl hA (by decide) rfl rfl ?_); intro a hA
        refine L1 (gate_off rfl (by decide) rfl hA (by decide) rfl rfl ?_); intro a hA
        refine L1 (stv hA (by decide) (run_pick (hA.ev rfl) (fun _ => hA.ev rfl) (fun h => Bool.noConfusion h)) ?_); intro a hA
        refine L1 (stv hA (by decide) (run_move (hA.ev rfl)) ?_); intro a hA
        refine L1 (gate_off rfl (by decide) rfl hA (by decide) rfl rfl ?_); intro a hA
        refine L1 (gate_off rfl (by decide) rfl hA (by decide) rfl rfl ?_); intro a hA
        refine L1 (gate_off rfl (by decide) rfl hA (by decide) rfl rfl ?_); intro a hA
        refine L1 (gate_undef rfl (by decide) rfl hA (by decide) rfl ?_); intro a hA
        refine L1 (gate_undef rfl (by decide) rfl hA (by decide) rfl ?_); intro a hA
        refine L1 (gate_undef rfl (by decide) rfl hA (by decide) rfl ?_); intro a hA
        refine L1 (gate_undef rfl (by decide) rfl hA (by decide) rfl ?_); intro a hA
        refine L1 (gate_undef rfl (by decide) rfl hA (by decide) rfl ?_); intro a hA
        refine L1 (gate_undef rfl (by decide) rfl hA (by decide) rfl ?_); intro a hA
        refine L1 (gate_undef rfl (by decide) rfl hA (by decide) rfl ?_); intro a hA
        refine L1 (gate_off rfl (by decide) rfl hA (by decide) rfl rfl ?_); intro a hA
        refine L1 (stv hA (by decide) (run_pick (hA.ev rfl) (fun _ => hA.ev rfl) (fun h => Bool.noConfusion h)) ?_); intro a hA
        refine LQ ?_
        exact ⟨true, Option.some.inj H464, rfl, (((hA.nil.cons (hA.get 133 _ rfl)).cons (hA.get 23 _ rfl)).cons (hA.get 22 _ rfl))⟩
      · replace H464 := ite_f hb466 H464
        have hA := hA.re (t := 116) rfl (congrArg Value.bool hb466)
        refine L1 (gate_on rfl rfl hA (by decide) rfl (stv hA (by decide) (run_move (hA.ev rfl)) ?_)); intro a hA
        refine L1 (gate_on rfl rfl hA (by decide) rfl (stv hA (by decide) (run_move (hA.ev rfl)) ?_)); intro a hA
        refine L1 (gate_on rfl rfl hA (by decide) rfl (stv hA (by decide) (run_bin (hA.ev rfl) (hA.ev rfl) (bin_neq _ _ _ _)) ?_)); intro a hA
        refine L1 (stv hA (by decide) (run_pick (hA.ev rfl) (fun h => Bool.noConfusion h) (fun _ => hA.ev rfl)) ?_); intro a hA
        refine L1 (stv hA (by decide) (run_move (hA.ev rfl)) ?_); intro a hA
        refine bsplit (b := (r441.2 != r448.2)) (fun hb467 => ?_) (fun hb467 => ?_)
        · replace H464 := ite_t hb467 H464
          have hA := hA.re (t := 121) rfl (congrArg Value.bool hb467)
          refine L1 (gate_off rfl (by decide) rfl hA (by decide) rfl rfl ?_); intro a hA
          refine L1 (gate_off rfl (by decide) rfl hA (by decide) rfl rfl ?_); intro a hA
          refine L1 (gate_off rfl (by decide) rfl hA (by decide) rfl rfl ?_); intro a hA
          refine L1 (gate_undef rfl (by decide) rfl hA (by decide) rfl ?_); intro a hA
          refine L1 (gate_undef rfl (by decide) rfl hA (by decide) rfl ?_); intro a hA
          refine L1 (gate_undef rfl (by decide) rfl hA (by decide) rfl ?_); intro a hA
          refine L1 (gate_undef rfl (by decide) rfl hA (by decide) rfl ?_); intro a hA
          refine L1 (gate_undef rfl (by decide) rfl hA (by decide) rfl ?_); intro a hA
          refine L1 (gate_undef rfl (by decide) rfl hA (by decide) rfl ?_); intro a hA
          refine L1 (gate_undef rfl (by decide) rfl hA (by decide) rfl ?_); intro a hA
          refine L1 (gate_off rfl (by decide) rfl hA (by decide) rfl rfl ?_); intro a hA
          refine L1 (stv hA (by decide) (run_pick (hA.ev rfl) (fun _ => hA.ev rfl) (fun h => Bool.noConfusion h)) ?_); intro a hA
          refine LQ ?_
          exact ⟨true, Option.some.inj H464, rfl, (((hA.nil.cons (hA.get 133 _ rfl)).cons (hA.get 23 _ rfl)).cons (hA.get 22 _ rfl))⟩
        · replace H464 := ite_f hb467 H464
          have hA := hA.re (t := 121) rfl (congrArg Value.bool hb467)
          refine L1 (gate_on rfl rfl hA (by decide) rfl (stv hA (by decide) (run_move (hA.ev rfl)) ?_)); intro a hA
          refine L1 (gate_on rfl rfl hA (by decide) rfl (stv hA (by decide) (run_bin (hA.ev rfl) (hA.ev rfl) (bin_eql _ _ _ _)) ?_)); intro a hA
          refine L1 (gate_on rfl rfl hA (by decide) rfl (stv hA (by decide) (run_move (hA.ev rfl)) ?_)); intro a hA
          refine bsplit (b := (r441.2 == 0)) (fun hb468 => ?_) (fun hb468 => ?_)
          · replace H464 := ite_t hb468 H464
            have hA := hA.re (t := 124) rfl (congrArg Value.bool hb468)
            refine L1 (gate_on rfl rfl hA (by decide) rfl (stv hA (by decide) (run_move (hA.ev rfl)) ?_)); intro a hA
            refine L1 (gate_on rfl rfl hA (by decide) rfl (stv hA (by decide) (run_bin (hA.ev rfl) (hA.ev rfl) (bin_neq _ _ _ _)) ?_)); intro a hA
            refine L1 (gate_on rfl rfl hA (by decide) rfl (stv hA (by decide) (run_move (hA.ev rfl)) ?_)); intro a hA
            refine bsplit (b := (r455.2 != 0)) (fun hb469 => ?_) (fun hb469 => ?_)
            · replace H464 := ite_t hb469 H464
              have hA := hA.re (t := 127) rfl (congrArg Value.bool hb469)
              refine L1 (gate_off rfl (by decide) rfl hA (by decide) rfl rfl ?_); intro a hA
              refine L1 (gate_off rfl (by decide) rfl hA (by decide) rfl rfl ?_); intro a hA
              refine L1 (gate_off rfl (by decide) rfl hA (by decide) rfl rfl ?_); intro a hA
              refine L1 (gate_on rfl rfl hA (by decide) rfl (stv hA (by decide) (run_pick (hA.ev rfl) (fun _ => hA.ev rfl) (fun h => Bool.noConfusion h)) ?_)); intro a hA
              refine L1 (gate_on rfl rfl hA (by decide) rfl (stv hA (by decide) (run_pick (hA.ev rfl) (fun _ => hA.ev rfl) (fun h => Bool.noConfusion h)) ?_)); intro a hA
              refine L1 (stv hA (by decide) (run_pick (hA.ev rfl) (fun h => Bool.noConfusion h) (fun _ => hA.ev rfl)) ?_); intro a hA
              refine LQ ?_
              exact ⟨true, Option.some.inj H464, rfl, (((hA.nil.cons (hA.get 133 _ rfl)).cons (hA.get 23 _ rfl)).cons (hA.get 22 _ rfl))⟩
            · replace H464 := ite_f hb469 H464
              have hA := hA.re (t := 127) rfl (congrArg Value.bool hb469)
              refine L1 (gate_on rfl rfl hA (by decide) rfl (stv hA (by decide) (run_move (hA.ev rfl)) ?_)); intro a hA
              refine L1 (gate_on rfl rfl hA (by decide) rfl (stv hA (by decide) (run_move (hA.ev rfl)) ?_)); intro a hA
              refine L1 (gate_on rfl rfl hA (by decide) rfl (stv hA (by decide) (run_bin (hA.ev rfl) (hA.ev rfl) (bin_gtr _ _ _ _)) ?_)); intro a hA
              refine L1 (gate_on rfl rfl hA (by decide) rfl (stv hA (by decide) (run_pick (hA.ev rfl) (fun h => Bool.noConfusion h) (fun _ => hA.ev rfl)) ?_)); intro a hA
              refine L1 (gate_on rfl rfl hA (by decide) rfl (stv hA (by decide) (run_pick (hA.ev rfl) (fun _ => hA.ev rfl) (fun h => Bool.noConfusion h)) ?_)); intro a hA
              refine L1 (stv hA (by decide) (run_pick (hA.ev rfl) (fun h => Bool.noConfusion h) (fun _ => hA.ev rfl)) ?_); intro a hA
              refine LQ ?_
              exact ⟨(decide (r455.1 > r441.1)), Option.some.inj H464, rfl, (((hA.nil.cons (hA.get 133 _ rfl)).cons (hA.get 23 _ rfl)).cons (hA.get 22 _ rfl))⟩
          · replace H464 := ite_f hb468 H464
            have hA := hA.re (t := 124) rfl (congrArg Value.bool hb468)
            refine L1 (gate_off rfl (by decide) rfl hA (by decide) rfl rfl ?_); intro a hA
            refine L1 (gate_off rfl (by decide) rfl hA (by decide) rfl rfl ?_); intro a hA
            refine L1 (gate_off rfl (by decide) rfl hA (by decide) rfl rfl ?_); intro a hA
            refine L1 (gate_undef rfl (by decide) rfl hA (by decide) rfl ?_); intro a hA
            refine L1 (gate_undef rfl (by decide) rfl hA (by decide) rfl ?_); intro a hA
            refine L1 (gate_undef rfl (by decide) rfl hA (by decide) rfl ?_); intro a hA
            refine L1 (gate_off rfl (by decide) rfl hA (by decide) rfl rfl ?_); intro a hA
            refine L1 (gate_on rfl rfl hA (by decide) rfl (stv hA (by decide) (run_pick (hA.ev rfl) (fun h => Bool.noConfusion h) (fun _ => hA.ev rfl)) ?_)); intro a hA
            refine L1 (stv hA (by decide) (run_pick (hA.ev rfl) (fun h => Bool.noConfusion h) (fun _ => hA.ev rfl)) ?_); intro a hA
            refine LQ ?_
            exact ⟨false, Option.some.inj H464, rfl, (((hA.nil.cons (hA.get 133 _ rfl)).cons (hA.get 23 _ rfl)).cons (hA.get 22 _ rfl))⟩
    rintro a _ ⟨t463, rfl, rfl, hA⟩
    try dsimp only at H
    refine TN ?_
    refine tcond (b := t463) hA rfl (fun hb471 => ?_) (fun hb471 => ?_)
    · replace H := ite_t hb471 H
      refine wp_seq ?_
      refine wp_region_lit ?_
      refine L1 (stv hA (by decide) (run_assign (hA.ev rfl)) ?_); intro a hA
      refine LQ ?_
      refine TN ?_
      refine wp_ret ?_
      have hB472 := hB452.trans (hE458.mono hB452.size)
      cases H
      refine TR ?_
      exact ret_post1 (fn := Try.f4) hA rfl rfl ⟨_, rfl, rfl, hB472⟩
    · replace H := ite_f hb471 H
      refine wp_skip ?_
      refine TN ?_
      refine wp_seq ?_
      obtain ⟨o486, H485, H⟩ := Option.bind_eq_some_iff.1 H
      refine cutC (fun a w => ∃ (t484 : Bool), t484 = o486 ∧ (Below w0.heap.size w0 w) ∧ Has 143 [(12, (.bool t484))] a) ?_ ?_
      · refine wp_region_lit ?_
        refine L1 (stv hA (by decide) (run_move (hA.ev rfl)) ?_); intro a hA
        refine L1 (stv hA (by decide) (run_bin (hA.ev rfl) (hA.ev rfl) (bin_neq _ _ _ _)) ?_); intro a hA
        refine L1 (stv hA (by decide) (run_move (hA.ev rfl)) ?_); intro a hA
        refine bsplit (b := (r441.2 != 0)) (fun hb488 => ?_) (fun hb488 => ?_)
        · replace H485 := ite_t hb488 H485
          have hA := hA.re (t := 136) rfl (congrArg Value.bool hb488)
          refine L1 (gate_off rfl (by decide) rfl hA (by decide) rfl rfl ?_); intro a hA
          refine L1 (gate_off rfl (by decide) rfl hA (by decide) rfl rfl ?_); intro a hA
          refine L1 (gate_off rfl (by decide) rfl hA (by decide) rfl rfl ?_); intro a hA
          refine L1 (gate_off rfl (by decide) rfl hA (by decide) rfl rfl ?_); intro a hA
          refine L1 (gate_off rfl (by decide) rfl hA (by decide) rfl rfl ?_); intro a hA
          refine L1 (stv hA (by decide) (run_pick (hA.ev rfl) (fun _ => hA.ev rfl) (fun h => Bool.noConfusion h)) ?_); intro a hA
          refine L1 (stv hA (by decide) (run_assign (hA.ev rfl)) ?_); intro a hA
          refine LQ ?_
          have hB489 := hB452.trans (hE458.mono hB452.size)
          exact ⟨true, Option.some.inj H485, hB489, (hA.nil.cons (hA.get 12 _ rfl))⟩
        · replace H485 := ite_f hb488 H485
          have hA := hA.re (t := 136) rfl (congrArg Value.bool hb488)
          refine L1 (gate_on rfl rfl hA (by decide) rfl (stv hA (by decide) (run_move (hA.ev rfl)) ?_)); intro a hA
          have hB490 := hB452.trans (hE458.mono hB452.size)
          obtain ⟨r491, H492, H485⟩ := Option.bind_eq_some_iff.1 H485
          refine L1 (gate_on rfl rfl hA (by decide) rfl (st_call Try.call12 hA [(.int .i64 r441.1)] rfl (by decide) (fees_Class.calls _ _ _ _ H492) ?_))
          rintro _ w493 ⟨rfl, hE494⟩ a hA
          have hB495 := hB490.trans (hE494.mono hB490.size)
          obtain ⟨r496, H497, H485⟩ := Option.bind_eq_some_iff.1 H485
          refine L1 (gate_on rfl rfl hA (by decide) rfl (st_call Try.call10 hA [(.int .i64 r491)] rfl (by decide) (fees_Bound.calls _ _ _ _ H497) ?_))
          rintro _ w498 ⟨rfl, hE499⟩ a hA
          refine L1 (gate_on rfl rfl hA (by decide) rfl (stv hA (by decide) (run_move (hA.ev rfl)) ?_)); intro a hA
          refine L1 (gate_on rfl rfl hA (by decide) rfl (stv hA (by decide) (run_bin (hA.ev rfl) (hA.ev rfl) (bin_eql _ _ _ _)) ?_)); intro a hA
          refine L1 (stv hA (by decide) (run_pick (hA.ev rfl) (fun h => Bool.noConfusion h) (fun _ => hA.ev rfl)) ?_); intro a hA
          refine L1 (stv hA (by decide) (run_assign (hA.ev rfl)) ?_); intro a hA
          refine LQ ?_
          have hB500 := hB495.trans (hE499.mono hB495.size)
          exact ⟨(r496 == r441.1), Option.some.inj H485, hB500, (hA.nil.cons (hA.get 12 _ rfl))⟩
      rintro a w501 ⟨t484, rfl, hB487, hA⟩
      try dsimp only at H
      refine TN ?_
      refine wp_ret ?_
      cases H
      exact ret_post1 (fn := Try.f4) hA rfl rfl ⟨_, rfl, rfl, hB487⟩

end Go.Proofs.Ytjdahineeoofiaa.G
