/- The functions that a law of this seat reaches: what each comes to, as a plain function, and that its code comes to it. Conditions: the plain function gives a value (enough fuel, no panic). -/
import Derived.Test.YtoogcdmdbogkeaaFConnectEclipsex2
set_option linter.unusedVariables false
set_option linter.unusedSimpArgs false
namespace Go.Proofs.Ytoogcdmdbogkeaa.G
open Go Go.RowKit Go.Proofs
def ref38_insert.f (k : Nat) (l_0 : (List Place)) (p_1 : Place) : Option (List Place) := ((ref38_inside.f k l_0 p_1.Bucket).bind fun r213 => (Option.bind (α := (List Place)) (if 0 ≤ r213.2 ∧ r213.2 ≤ ((l_0.length : Nat) : Int) then (if (0 + r213.2.toNat) * 24 ≤ 140737488355328 then (if ((0 + r213.2.toNat) + 1) * 24 ≤ 140737488355328 then (if 0 ≤ r213.2 ∧ r213.2 ≤ ((l_0.length : Nat) : Int) then (if (((0 + r213.2.toNat) + 1) + (l_0.length - r213.2.toNat)) * 24 ≤ 140737488355328 then (some (((([] : List Place) ++ (l_0.take r213.2.toNat)) ++ [p_1]) ++ (l_0.drop r213.2.toNat))) else none) else none) else none) else none) else none) (fun xs318 => (some xs318))))
set_option maxHeartbeats 2000000 in
set_option maxRecDepth 100000 in
theorem ref38_insert.calls (k : Nat) (l_0 : (List Place)) (p_1 : Place) (F : List (Option Nat)) (v0 : Value) (r : (List Place)) (w0 : World) (h0 : RoV F pPlace w0 v0 l_0) (hM : Mem F w0 w0 []) (H : ref38_insert.f k l_0 p_1 = some r) :
    Calls Try.prog 77 #[v0, (.agg (pPlace.enc p_1).toArray)] w0 fun e w' => ∃ v, e = .returned v ∧ ∃ (ur_0 : Value), v = ur_0 ∧ Mem F w0 w' [.row 70 pPlace.sz ur_0 (pPlace.flat r)] := by
  unfold ref38_insert.f at H
  obtain ⟨A0, c0, rfl, hr0, hc0⟩ := h0
  refine enterL (n := 26) [(.slice A0 l_0.length c0), (.agg (pPlace.enc p_1).toArray)] Try.func77 rfl rfl rfl ?_
  intro a hA
  refine wp_seq ?_
  refine wp_region_lit ?_
  refine L1 (e_box (cs := (pPlace.enc p_1)) hM hA rfl rfl (by decide) ?_)
  clear hM hA; intro w211 g210 hM hE  a hA
  refine L1 (stv hA (by decide) (run_assign (hA.ev rfl)) ?_)
  clear hA; intro a hA
  refine LQ ?_
  refine TN ?_
  refine wp_seq ?_
  refine wp_region_lit ?_
  refine L1 (stv hA (by decide) (run_move (hA.ev rfl)) ?_)
  clear hA; intro a hA
  refine L1 (stv hA (by decide) (run_field' Try.underlying70 rfl rfl Try.sizeOf3 (by decide) (hA.ev rfl)) ?_)
  clear hA; intro a hA
  refine L1 (stv hA (by decide) (run_ld (hA.ev rfl) (run_loadS Try.isAgg3 (Place.at_Bucket (hM.box .z)))) ?_)
  clear hA; intro a hA
  obtain ⟨r213, H214, H⟩ := Option.bind_eq_some_iff.1 H
  refine L1 (st_call Try.call76 hA [(.slice A0 l_0.length c0), (.int .i64 p_1.Bucket)] rfl (by decide) (ref38_inside.calls _ _ _ _ _ _ _ ((RoV.mk (hM.roC (Ms := []) hr0) (Eq.refl l_0.length) hc0)) (hM.front (Ms := [])) H214) ?_)
  clear hA; rintro _ w215 ⟨rfl, hMc⟩ a hA
  have hE := hMc.below; have hM := hM.call (Ms := []) hMc
  clear hMc; simp only [List.cons_append, List.nil_append] at hM
  refine L1 (stv hA (by decide) (run_move (hA.ev rfl)) ?_)
  clear hA; intro a hA
  refine L1 (stv hA (by decide) (run_ext (hA.ev rfl) rfl) ?_)
  clear hA; intro a hA
  refine L1 (stv hA (by decide) (run_ext (hA.ev rfl) rfl) ?_)
  clear hA; intro a hA
  refine L1 (stv hA (by decide) (run_assign (hA.ev rfl)) ?_)
  clear hA; intro a hA
  refine L1 (stv hA (by decide) (run_assign (hA.ev rfl)) ?_)
  clear hA; intro a hA
  refine LQ ?_
  refine TN ?_
  refine wp_seq ?_
  obtain ⟨o320, H319, H⟩ := Option.bind_eq_some_iff.1 H
  refine cutC (fun a w => ∃ (xs318 : (List Place)) (v315 : Value), xs318 = o320 ∧ Mem F w0 w [.row 70 pPlace.sz v315 (pPlace.flat xs318)] ∧ Has 26 [(4, v315)] a) ?_ ?_
  · obtain ⟨⟨hi326, hj327⟩, H319⟩ := ite_some H319
    obtain ⟨hl330, H319⟩ := ite_some H319
    obtain ⟨hl340, H319⟩ := ite_some H319
    obtain ⟨⟨hi344, hj345⟩, H319⟩ := ite_some H319
    obtain ⟨hl348, H319⟩ := ite_some H319
    refine draw (fun w' => Below w215.heap.size w215 w') [] rfl ?_
    intro w352 hw hS; replace hM := hM.ext hS; clear hw
    refine d_takef (i := 1) (L' := #[fF,tT,fF,fF,fF,fF,fF,fF,fF,fF,fF,fF,fF]) rfl (by kernel_rfl) rfl (fun _ _ _ h => h) hA (by decide) (fun _ => hS) (fun a w' hA => run_move (hA.ev rfl)) ?_; clear hA; intro a hA
    refine d_takef (i := 2) (L' := #[fF,tT,tT,fF,fF,fF,fF,fF,fF,fF,fF,fF,fF]) rfl (by kernel_rfl) rfl (fun _ _ _ h => h) hA (by decide) (fun _ => hS) (fun a w' hA => run_move (hA.ev rfl)) ?_; clear hA; intro a hA
    refine d_takef (i := 3) (L' := #[fF,tT,tT,tT,fF,fF,fF,fF,fF,fF,fF,fF,fF]) rfl (by kernel_rfl) rfl (fun _ _ _ h => h) hA (by decide) (fun _ => hS) (fun a w' hA => run_hi Try.underlying39 Try.sizeOf70 hc0 hi326 hj327 (hA.ev rfl) (hA.ev rfl)) ?_; clear hA; intro a hA
    refine rebase hS ?_; clear hS; intro hS
    refine d_take (i := 5) (L' := #[fF,tT,tT,tT,fF,tT,fF,fF,fF,fF,fF,fF,fF]) rfl (by kernel_rfl) rfl (fun _ _ _ h => h) hA (by decide) rfl hS (fun a w' hA hS' => run_ld (hA.ev rfl) (run_loadP Try.isAgg70 Try.sizeOf70 ((hM.box .z).extB hS'))) ?_; clear hA; intro a hA
    refine d_takef (i := 8) (L' := #[fF,tT,tT,tT,fF,tT,fF,fF,tT,fF,fF,fF,fF]) rfl (by kernel_rfl) rfl (fun _ _ _ h => h) hA (by decide) (fun _ => hS) (fun a w' hA => run_move (hA.ev rfl)) ?_; clear hA; intro a hA
    refine d_takef (i := 9) (L' := #[fF,tT,tT,tT,fF,tT,fF,fF,tT,tT,fF,fF,fF]) rfl (by kernel_rfl) rfl (fun _ _ _ h => h) hA (by decide) (fun _ => hS) (fun a w' hA => run_move (hA.ev rfl)) ?_; clear hA; intro a hA
    refine d_takef (i := 10) (L' := #[fF,tT,tT,tT,fF,tT,fF,fF,tT,tT,tT,fF,fF]) rfl (by kernel_rfl) rfl (fun _ _ _ h => h) hA (by decide) (fun _ => hS) (fun a w' hA => run_lo Try.underlying39 Try.sizeOf70 hc0 hi344 hj345 (hA.ev rfl) (hA.ev rfl)) ?_; clear hA; intro a hA
    refine d_many (is := [0, 6]) (by kernel_rfl) (by decide) ⟨?_, ?_, trivial⟩
    · refine d_op (i := 0) (L' := #[tT,tT,tT,tT,fF,tT,fF,fF,tT,tT,tT,fF,fF]) rfl rfl (e_lit0L elt39 hM hA (by decide) ?_)
      clear hM hA; intro w354 g353 hM hE hlo355 a hA
      have hlw356 : ∀ k, Value.ownBlock (.slice (some ⟨g353, 0, none⟩) 0 0) = some k → w352.heap.size ≤ k := fun k hk => by cases hk; exact Nat.le_trans hS.size hlo355
      replace hS := hS.trans (hE.mono hS.size)
      refine ⟨fun _ => hS, ?_⟩
      refine d_many (is := [4, 6]) (by kernel_rfl) (by decide) ⟨?_, ?_, trivial⟩
      · refine d_op (i := 4) (L' := #[tT,tT,tT,tT,tT,tT,fF,fF,tT,tT,tT,fF,fF]) rfl rfl (e_appendL elt39 hM (fun _ => .z) (Src.row Try.underlying39 (Row.take (hM.ro hr0) r213.2.toNat) (len_take (Eq.refl l_0.length) (by omega))) hl330 hA rfl rfl (by decide) ?_)
        clear hM hA; intro w359 A357 c358 hM hE hlo360 a hA
        have hlw361 : ∀ k, Value.ownBlock (.slice A357 (0 + r213.2.toNat) c358) = some k → w352.heap.size ≤ k := hlo360 _ hS.size hlw356
        replace hS := hS.grown hE hS.size hlw356
        refine ⟨fun _ => hS, ?_⟩
        refine d_one (i := 6) (L' := #[tT,tT,tT,tT,tT,tT,tT,fF,tT,tT,tT,fF,fF]) (by kernel_rfl) rfl rfl (e_litNL [p_1] [(.agg (pPlace.enc p_1).toArray)] elt39 hM rfl (by decide) hA rfl rfl (List.cons_ne_nil _ _) (by decide) ?_)
        clear hM hA; intro w363 g362 hM hE hlo364 a hA
        have hlw365 : ∀ k, Value.ownBlock (.slice (some ⟨g362, 0, none⟩) 1 1) = some k → w352.heap.size ≤ k := fun k hk => by cases hk; exact Nat.le_trans hS.size hlo364
        replace hS := hS.trans (hE.mono hS.size)
        refine ⟨fun _ => hS, ?_⟩
        refine d_one (i := 7) (L' := #[tT,tT,tT,tT,tT,tT,tT,tT,tT,tT,tT,fF,fF]) (by kernel_rfl) rfl rfl (e_appendL elt39 hM (fun _ => (.s .z)) (Src.row Try.underlying39 (RowOk.row (hM.row (p := pPlace) .z)) (RowOk.len (hM.row (p := pPlace) .z))) hl340 hA rfl rfl (by decide) ?_)
        clear hM hA; intro w368 A366 c367 hM hE hlo369 a hA
        have hlw370 : ∀ k, Value.ownBlock (.slice A366 ((0 + r213.2.toNat) + 1) c367) = some k → w352.heap.size ≤ k := hlo369 _ hS.size hlw361
        replace hS := hS.grown hE hS.size hlw361
        refine ⟨fun _ => hS, ?_⟩
        refine d_one (i := 11) (L' := #[tT,tT,tT,tT,tT,tT,tT,tT,tT,tT,tT,tT,fF]) (by kernel_rfl) rfl rfl (e_appendL elt39 hM (fun _ => (.s .z)) (Src.row Try.underlying39 (Row.drop' (c := c0) (hM.ro hr0) (by have hh1 := (Eq.refl l_0.length); omega) (by have hh1 := (Eq.refl l_0.length); have hh2 := hc0; omega)) (len_drop (Eq.refl l_0.length))) hl348 hA rfl rfl (by decide) ?_)
        clear hM hA; intro w373 A371 c372 hM hE hlo374 a hA
        have hlw375 : ∀ k, Value.ownBlock (.slice A371 (((0 + r213.2.toNat) + 1) + (l_0.length - r213.2.toNat)) c372) = some k → w352.heap.size ≤ k := hlo374 _ hS.size hlw370
        replace hS := hS.grown hE hS.size hlw370
        refine ⟨fun _ => hS, ?_⟩
        refine d_takef (i := 12) (L' := #[tT,tT,tT,tT,tT,tT,tT,tT,tT,tT,tT,tT,tT]) rfl (by kernel_rfl) rfl (fun _ _ _ h => h) hA (by decide) (fun _ => hS) (fun a w' hA => run_assign (hA.ev rfl)) ?_; clear hA; intro a hA
        refine d_done (by kernel_rfl) ?_
        exact ⟨(((([] : List Place) ++ (l_0.take r213.2.toNat)) ++ [p_1]) ++ (l_0.drop r213.2.toNat)), (.slice A371 (((0 + r213.2.toNat) + 1) + (l_0.length - r213.2.toNat)) c372), Option.some.inj H319, (hM.sel [1] rfl (by decide)), (hA.nil.cons (hA.get 4 _ rfl))⟩
      · refine d_op (i := 6) (L' := #[tT,tT,tT,tT,fF,tT,tT,fF,tT,tT,tT,fF,fF]) rfl rfl (e_litNL [p_1] [(.agg (pPlace.enc p_1).toArray)] elt39 hM rfl (by decide) hA rfl rfl (List.cons_ne_nil _ _) (by decide) ?_)
        clear hM hA; intro w377 g376 hM hE hlo378 a hA
        have hlw379 : ∀ k, Value.ownBlock (.slice (some ⟨g376, 0, none⟩) 1 1) = some k → w352.heap.size ≤ k := fun k hk => by cases hk; exact Nat.le_trans hS.size hlo378
        replace hS := hS.trans (hE.mono hS.size)
        refine ⟨fun _ => hS, ?_⟩
        refine d_one (i := 4) (L' := #[tT,tT,tT,tT,tT,tT,tT,fF,tT,tT,tT,fF,fF]) (by kernel_rfl) rfl rfl (e_appendL elt39 hM (fun _ => (.s .z)) (Src.row Try.underlying39 (Row.take (hM.ro hr0) r213.2.toNat) (len_take (Eq.refl l_0.length) (by omega))) hl330 hA rfl rfl (by decide) ?_)
        clear hM hA; intro w382 A380 c381 hM hE hlo383 a hA
        have hlw384 : ∀ k, Value.ownBlock (.slice A380 (0 + r213.2.toNat) c381) = some k → w352.heap.size ≤ k := hlo383 _ hS.size hlw356
        replace hS := hS.grown hE hS.size hlw356
        refine ⟨fun _ => hS, ?_⟩
        refine d_one (i := 7) (L' := #[tT,tT,tT,tT,tT,tT,tT,tT,tT,tT,tT,fF,fF]) (by kernel_rfl) rfl rfl (e_appendL elt39 hM (fun _ => (.s .z)) (Src.row Try.underlying39 (RowOk.row (hM.row (p := pPlace) .z)) (RowOk.len (hM.row (p := pPlace) .z))) hl340 hA rfl rfl (by decide) ?_)
        clear hM hA; intro w387 A385 c386 hM hE hlo388 a hA
        have hlw389 : ∀ k, Value.ownBlock (.slice A385 ((0 + r213.2.toNat) + 1) c386) = some k → w352.heap.size ≤ k := hlo388 _ hS.size hlw384
        replace hS := hS.grown hE hS.size hlw384
        refine ⟨fun _ => hS, ?_⟩
        refine d_one (i := 11) (L' := #[tT,tT,tT,tT,tT,tT,tT,tT,tT,tT,tT,tT,fF]) (by kernel_rfl) rfl rfl (e_appendL elt39 hM (fun _ => (.s .z)) (Src.row Try.underlying39 (Row.drop' (c := c0) (hM.ro hr0) (by have hh1 := (Eq.refl l_0.length); omega) (by have hh1 := (Eq.refl l_0.length); have hh2 := hc0; omega)) (len_drop (Eq.refl l_0.length))) hl348 hA rfl rfl (by decide) ?_)
        clear hM hA; intro w392 A390 c391 hM hE hlo393 a hA
        have hlw394 : ∀ k, Value.ownBlock (.slice A390 (((0 + r213.2.toNat) + 1) + (l_0.length - r213.2.toNat)) c391) = some k → w352.heap.size ≤ k := hlo393 _ hS.size hlw389
        replace hS := hS.grown hE hS.size hlw389
        refine ⟨fun _ => hS, ?_⟩
        refine d_takef (i := 12) (L' := #[tT,tT,tT,tT,tT,tT,tT,tT,tT,tT,tT,tT,tT]) rfl (by kernel_rfl) rfl (fun _ _ _ h => h) hA (by decide) (fun _ => hS) (fun a w' hA => run_assign (hA.ev rfl)) ?_; clear hA; intro a hA
        refine d_done (by kernel_rfl) ?_
        exact ⟨(((([] : List Place) ++ (l_0.take r213.2.toNat)) ++ [p_1]) ++ (l_0.drop r213.2.toNat)), (.slice A390 (((0 + r213.2.toNat) + 1) + (l_0.length - r213.2.toNat)) c391), Option.some.inj H319, (hM.sel [1] rfl (by decide)), (hA.nil.cons (hA.get 4 _ rfl))⟩
    · refine d_op (i := 6) (L' := #[fF,tT,tT,tT,fF,tT,tT,fF,tT,tT,tT,fF,fF]) rfl rfl (e_litNL [p_1] [(.agg (pPlace.enc p_1).toArray)] elt39 hM rfl (by decide) hA rfl rfl (List.cons_ne_nil _ _) (by decide) ?_)
      clear hM hA; intro w396 g395 hM hE hlo397 a hA
      have hlw398 : ∀ k, Value.ownBlock (.slice (some ⟨g395, 0, none⟩) 1 1) = some k → w352.heap.size ≤ k := fun k hk => by cases hk; exact Nat.le_trans hS.size hlo397
      replace hS := hS.trans (hE.mono hS.size)
      refine ⟨fun _ => hS, ?_⟩
      refine d_one (i := 0) (L' := #[tT,tT,tT,tT,fF,tT,tT,fF,tT,tT,tT,fF,fF]) (by kernel_rfl) rfl rfl (e_lit0L elt39 hM hA (by decide) ?_)
      clear hM hA; intro w400 g399 hM hE hlo401 a hA
      have hlw402 : ∀ k, Value.ownBlock (.slice (some ⟨g399, 0, none⟩) 0 0) = some k → w352.heap.size ≤ k := fun k hk => by cases hk; exact Nat.le_trans hS.size hlo401
      replace hS := hS.trans (hE.mono hS.size)
      refine ⟨fun _ => hS, ?_⟩
      refine d_one (i := 4) (L' := #[tT,tT,tT,tT,tT,tT,tT,fF,tT,tT,tT,fF,fF]) (by kernel_rfl) rfl rfl (e_appendL elt39 hM (fun _ => .z) (Src.row Try.underlying39 (Row.take (hM.ro hr0) r213.2.toNat) (len_take (Eq.refl l_0.length) (by omega))) hl330 hA rfl rfl (by decide) ?_)
      clear hM hA; intro w405 A403 c404 hM hE hlo406 a hA
      have hlw407 : ∀ k, Value.ownBlock (.slice A403 (0 + r213.2.toNat) c404) = some k → w352.heap.size ≤ k := hlo406 _ hS.size hlw402
      replace hS := hS.grown hE hS.size hlw402
      refine ⟨fun _ => hS, ?_⟩
      refine d_one (i := 7) (L' := #[tT,tT,tT,tT,tT,tT,tT,tT,tT,tT,tT,fF,fF]) (by kernel_rfl) rfl rfl (e_appendL elt39 hM (fun _ => .z) (Src.row Try.underlying39 (RowOk.row (hM.row (p := pPlace) (.s .z))) (RowOk.len (hM.row (p := pPlace) (.s .z)))) hl340 hA rfl rfl (by decide) ?_)
      clear hM hA; intro w410 A408 c409 hM hE hlo411 a hA
      have hlw412 : ∀ k, Value.ownBlock (.slice A408 ((0 + r213.2.toNat) + 1) c409) = some k → w352.heap.size ≤ k := hlo411 _ hS.size hlw407
      replace hS := hS.grown hE hS.size hlw407
      refine ⟨fun _ => hS, ?_⟩
      refine d_one (i := 11) (L' := #[tT,tT,tT,tT,tT,tT,tT,tT,tT,tT,tT,tT,fF]) (by kernel_rfl) rfl rfl (e_appendL elt39 hM (fun _ => .z) (Src.row Try.underlying39 (Row.drop' (c := c0) (hM.ro hr0) (by have hh1 := (Eq.refl l_0.length); omega) (by have hh1 := (Eq.refl l_0.length); have hh2 := hc0; omega)) (len_drop (Eq.refl l_0.length))) hl348 hA rfl rfl (by decide) ?_)
      clear hM hA; intro w415 A413 c414 hM hE hlo416 a hA
      have hlw417 : ∀ k, Value.ownBlock (.slice A413 (((0 + r213.2.toNat) + 1) + (l_0.length - r213.2.toNat)) c414) = some k → w352.heap.size ≤ k := hlo416 _ hS.size hlw412
      replace hS := hS.grown hE hS.size hlw412
      refine ⟨fun _ => hS, ?_⟩
      refine d_takef (i := 12) (L' := #[tT,tT,tT,tT,tT,tT,tT,tT,tT,tT,tT,tT,tT]) rfl (by kernel_rfl) rfl (fun _ _ _ h => h) hA (by decide) (fun _ => hS) (fun a w' hA => run_assign (hA.ev rfl)) ?_; clear hA; intro a hA
      refine d_done (by kernel_rfl) ?_
      exact ⟨(((([] : List Place) ++ (l_0.take r213.2.toNat)) ++ [p_1]) ++ (l_0.drop r213.2.toNat)), (.slice A413 (((0 + r213.2.toNat) + 1) + (l_0.length - r213.2.toNat)) c414), Option.some.inj H319, (hM.sel [0] rfl (by decide)), (hA.nil.cons (hA.get 4 _ rfl))⟩
  clear hM hA
  rintro a w418 ⟨xs318, v315, rfl, hM, hA⟩
  try dsimp only at H
  obtain ⟨A316, c317, rfl⟩ := RowOk.form (hM.row (p := pPlace) .z)
  refine TN ?_
  refine wp_ret ?_
  obtain rfl := Option.some.inj H
  exact ret_post1 (fn := Try.f77) hA rfl rfl ⟨_, rfl, (.slice A316 xs318.length c317), rfl, hM⟩

def ref38_hear.l0 (r535 : Book) (r628 : (Int × Int)) : Nat → Int → Int → Option (Int)
  | 0, _, _ => none
  | k + 1, least984, i986 => (if (decide (i986 < r628.2)) = true then (if 0 ≤ i986 ∧ i986 < ((r535.Heard.length : Nat) : Int) then (if 0 ≤ least984 ∧ least984 < ((r535.Heard.length : Nat) : Int) then (Option.bind (α := Int) (if (decide ((((r535.Heard.getD i986.toNat Place.z).Addr_).Time) < (((r535.Heard.getD least984.toNat Place.z).Addr_).Time))) = true then (some i986) else (some least984)) (fun least1017 => (ref38_hear.l0 r535 r628 k least1017 (IntKind.i64.wrap (i986 + 1))))) else none) else none) else (some least984))
def ref38_hear.f (k : Nat) (b_0 : Book) (a_1 : NAddr) (source_2 : Int) : Option (Book × Bool) := ((ref38_Copied.f k (Book.mk b_0.Salt b_0.Heard b_0.Tried)).bind fun r535 => ((ref38_find.f k r535.Tried a_1).bind fun r550 => (if (decide (r550 ≥ 0)) = true then (if 0 ≤ r550 ∧ r550 < ((r535.Tried.length : Nat) : Int) then (if 0 ≤ r550 ∧ r550 < ((r535.Tried.length : Nat) : Int) then (some ((Book.mk r535.Salt r535.Heard (r535.Tried.set r550.toNat (Place.mk ((r535.Tried.getD r550.toNat Place.z).Bucket) (NAddr.mk (((r535.Tried.getD r550.toNat Place.z).Addr_).Host) (((r535.Tried.getD r550.toNat Place.z).Addr_).Port) (if a_1.Time > ((r535.Tried.getD r550.toNat Place.z).Addr_).Time then a_1.Time else ((r535.Tried.getD r550.toNat Place.z).Addr_).Time)) ((r535.Tried.getD r550.toNat Place.z).Source)))), false)) else none) else none) else ((ref38_find.f k r535.Heard a_1).bind fun r568 => (if (decide (r568 ≥ 0)) = true then (if 0 ≤ r568 ∧ r568 < ((r535.Heard.length : Nat) : Int) then (if 0 ≤ r568 ∧ r568 < ((r535.Heard.length : Nat) : Int) then (some ((Book.mk r535.Salt (r535.Heard.set r568.toNat (Place.mk ((r535.Heard.getD r568.toNat Place.z).Bucket) (NAddr.mk (((r535.Heard.getD r568.toNat Place.z).Addr_).Host) (((r535.Heard.getD r568.toNat Place.z).Addr_).Port) (if a_1.Time > ((r535.Heard.getD r568.toNat Place.z).Addr_).Time then a_1.Time else ((r535.Heard.getD r568.toNat Place.z).Addr_).Time)) ((r535.Heard.getD r568.toNat Place.z).Source))) r535.Tried), false)) else none) else none) else (Option.bind (α := Place) ((ref38_HeardBucket.f k b_0.Salt a_1 source_2).bind fun r612 => (some (Place.mk r612 a_1 source_2))) (fun x608 => ((ref38_inside.f k r535.Heard x608.Bucket).bind fun r628 => (Option.bind (α := Out (Book × Bool) ((List Place))) (if (decide ((IntKind.i64.wrap (r628.2 - r628.1)) ≥ 8)) = true then (Option.bind (α := Int) (ref38_hear.l0 r535 r628 k r628.1 r628.1) (fun least992 => (if 0 ≤ least992 ∧ least992 < ((r535.Heard.length : Nat) : Int) then (if (decide ((((r535.Heard.getD least992.toNat Place.z).Addr_).Time) ≥ a_1.Time)) = true then (some (.ret ((Book.mk r535.Salt r535.Heard r535.Tried), false))) else ((ref38_remove.f k r535.Heard least992).bind fun r1033 => (some (.go r1033)))) else none))) else (some (.go r535.Heard))) (fun o => match o with | .ret r => some r | .go xs837 => ((ref38_insert.f k xs837 x608).bind fun r1042 => (some ((Book.mk r535.Salt r1042 r535.Tried), true)))))))))))))
set_option maxHeartbeats 2000000 in
set_option maxRecDepth 100000 in
theorem ref38_hear.calls (k : Nat) (b_0 : Book) (a_1 : NAddr) (source_2 : Int) (F : List (Option Nat)) (v0_1 : Value) (v0_2 : Value) (r : (Book × Bool)) (w0 : World) (h0_1 : RoV F pPlace w0 v0_1 b_0.Heard) (h0_2 : RoV F pPlace w0 v0_2 b_0.Tried) (hM : Mem F w0 w0 []) (H : ref38_hear.f k b_0 a_1 source_2 = some r) :
    Calls Try.prog 78 #[(.agg (List.flatten [pHash.enc b_0.Salt, [v0_1], [v0_2]]).toArray), (.agg (pNAddr.enc a_1).toArray), (.int .u32 source_2)] w0 fun e w' => ∃ v, e = .returned v ∧ ∃ (ur_0_1 : Value) (ur_0_2 : Value), v = (.tuple #[(.agg (List.flatten [pHash.enc r.1.Salt, [ur_0_1], [ur_0_2]]).toArray), (.bool r.2)]) ∧ Mem F w0 w' [.row 70 pPlace.sz ur_0_1 (pPlace.flat r.1.Heard), .row 70 pPlace.sz ur_0_2 (pPlace.flat r.1.Tried)] := by
  unfold ref38_hear.f at H
  obtain ⟨A0_1, c0_1, rfl, hr0_1, hc0_1⟩ := h0_1
  obtain ⟨A0_2, c0_2, rfl, hr0_2, hc0_2⟩ := h0_2
  refine enterL (n := 129) [(.agg (List.flatten [pHash.enc b_0.Salt, [(.slice A0_1 b_0.Heard.length c0_1)], [(.slice A0_2 b_0.Tried.length c0_2)]]).toArray), (.agg (pNAddr.enc a_1).toArray), (.int .u32 source_2)] Try.func78 rfl rfl rfl ?_
  intro a hA
  refine wp_seq ?_
  refine wp_region_lit ?_
  refine L1 (e_box (cs := (List.flatten [pHash.enc b_0.Salt, [(.slice A0_1 b_0.Heard.length c0_1)], [(.slice A0_2 b_0.Tried.length c0_2)]])) hM hA rfl rfl (by decide) ?_)
  clear hM hA; intro w527 g526 hM hE  a hA
  refine L1 (e_box (cs := (pNAddr.enc a_1)) hM hA rfl rfl (by decide) ?_)
  clear hM hA; intro w530 g529 hM hE  a hA
  refine L1 (e_alloc (cs := (List.flatten [pHash.enc (Vector.replicate 32 0 : Vector Int 32), [(.slice none 0 0)], [(.slice none 0 0)]])) hM zero41 rfl hA (by decide) ?_)
  clear hM hA; intro w533 g532 hM hE  a hA
  refine L1 (stv hA (by decide) (run_assign (hA.ev rfl)) ?_)
  clear hA; intro a hA
  refine LQ ?_
  refine TN ?_
  refine wp_seq ?_
  refine wp_region_lit ?_
  refine L1 (stv hA (by decide) (run_ld (hA.ev rfl) (run_loadW Try.isAgg41 Try.sizeOf41 (by simp [Pl.len]; try rfl) (hM.box (.s (.s .z))))) ?_)
  clear hA; intro a hA
  obtain ⟨r535, H536, H⟩ := Option.bind_eq_some_iff.1 H
  refine L1 (st_call Try.call73 hA [(.agg (List.flatten [pHash.enc b_0.Salt, [(.slice A0_1 b_0.Heard.length c0_1)], [(.slice A0_2 b_0.Tried.length c0_2)]]).toArray)] rfl (by decide) (ref38_Copied.calls _ (Book.mk b_0.Salt b_0.Heard b_0.Tried) _ _ _ _ _ ((RoV.mk (hM.roC (Ms := []) hr0_1) (Eq.refl b_0.Heard.length) hc0_1)) ((RoV.mk (hM.roC (Ms := []) hr0_2) (Eq.refl b_0.Tried.length) hc0_2)) (hM.front (Ms := [])) H536) ?_)
  clear hA; rintro _ w537 ⟨v538, v539, rfl, hMc⟩ a hA
  have hE := hMc.below; have hM := hM.call (Ms := []) hMc
  clear hMc; simp only [List.cons_append, List.nil_append] at hM
  obtain ⟨A541, c542, rfl⟩ := RowOk.form (hM.row (p := pPlace) .z)
  obtain ⟨A544, c545, rfl⟩ := RowOk.form (hM.row (p := pPlace) (.s .z))
  refine L1 (e_alloc (cs := (List.flatten [pHash.enc (Vector.replicate 32 0 : Vector Int 32), [(.slice none 0 0)], [(.slice none 0 0)]])) hM zero41 rfl hA (by decide) ?_)
  clear hM hA; intro w547 g546 hM hE  a hA
  refine L1 (e_store (g := g546) (off := 0) (cur := (List.flatten [pHash.enc (Vector.replicate 32 0 : Vector Int 32), [(.slice none 0 0)], [(.slice none 0 0)]])) (cs' := (List.flatten [pHash.enc r535.Salt, [(.slice A541 r535.Heard.length c542)], [(.slice A544 r535.Tried.length c545)]])) hM .z Try.sizeOf41 hA rfl (by simp [add_mk]) rfl (by first | rfl | (simp [Value.cells, Pl.len]; done) | (simp [Value.cells, Pl.len]; rfl)) (one_flat (one_cons (Pl.one _ _) (one_cons (by simp [Value.oneCell']) (one_cons (by simp [Value.oneCell']) one_nil)))) (by first | exact Nat.le_of_ble_eq_true rfl | (simp [Pl.len]; done) | (simp [Pl.len]; decide)) (spl_all (by first | rfl | (simp [Value.cells, Pl.len]; done) | (simp [Value.cells, Pl.len]; rfl))) ?_)
  clear hM hA; intro w549  hM hE  a hA
  refine LQ ?_
  refine TN ?_
  refine wp_seq ?_
  refine wp_seq ?_
  refine wp_region_lit ?_
  refine L1 (stv hA (by decide) (run_field' Try.underlying41 rfl rfl Try.sizeOf39 (by decide) (hA.ev rfl)) ?_)
  clear hA; intro a hA
  refine L1 (stv hA (by decide) (run_ld (hA.ev rfl) (run_loadS Try.isAgg39 (At.seg (segs := [pHash.enc r535.Salt, [(.slice A541 r535.Heard.length c542)], [(.slice A544 r535.Tried.length c545)]]) (hM.box .z) 2 rfl (by simp [Pl.len]; try rfl)))) ?_)
  clear hA; intro a hA
  refine L1 (stv hA (by decide) (run_ld (hA.ev rfl) (run_loadP Try.isAgg46 Try.sizeOf46 (hM.box (.s (.s (.s (.s .z))))))) ?_)
  clear hA; intro a hA
  obtain ⟨r550, H551, H⟩ := Option.bind_eq_some_iff.1 H
  refine L1 (st_call Try.call72 hA [(.slice A544 r535.Tried.length c545), (.agg (pNAddr.enc a_1).toArray)] rfl (by decide) (ref38_find.calls _ _ _ _ _ _ _ ((hM.roV (p := pPlace) (Ms := []) (.s (.s .z)))) (hM.front (Ms := [])) H551) ?_)
  clear hA; rintro _ w552 ⟨rfl, hMc⟩ a hA
  have hE := hMc.below; have hM := hM.call (Ms := []) hMc
  clear hMc; simp only [List.cons_append, List.nil_append] at hM
  refine L1 (stv hA (by decide) (run_assign (hA.ev rfl)) ?_)
  clear hA; intro a hA
  refine LQ ?_
  refine TN ?_
  refine wp_seq ?_
  refine wp_region_lit ?_
  refine L1 (stv hA (by decide) (run_move (hA.ev rfl)) ?_)
  clear hA; intro a hA
  refine L1 (stv hA (by decide) (run_bin (hA.ev rfl) (hA.ev rfl) (bin_geq _ _ _ _)) ?_)
  clear hA; intro a hA
  refine LQ ?_
  refine TN ?_
  refine tcond (b := (decide (r550 ≥ 0))) hA rfl (fun hb553 => ?_) (fun hb553 => ?_)
  · replace H := ite_t hb553 H
    refine wp_seq ?_
    refine draw (fun w' => Below w552.heap.size w552 w') [16] rfl ?_
    intro w554 hw hS; replace hM := hM.ext hS; clear hw
    refine d_takef (i := 0) (L' := #[tT,fF,fF,fF,fF,fF,fF,fF,fF,fF,fF,fF,fF,fF,fF,fF,fF]) rfl (by kernel_rfl) rfl (fun _ _ _ h => h) hA (by decide) (fun _ => hS) (fun a w' hA => run_field' Try.underlying41 rfl rfl Try.sizeOf39 (by decide) (hA.ev rfl)) ?_; clear hA; intro a hA
    refine rebase hS ?_; clear hS; intro hS
    refine d_take (i := 1) (L' := #[tT,tT,fF,fF,fF,fF,fF,fF,fF,fF,fF,fF,fF,fF,fF,fF,fF]) rfl (by kernel_rfl) rfl (fun _ _ _ h => h) hA (by decide) rfl hS (fun a w' hA hS' => run_ld (hA.ev rfl) (run_loadS Try.isAgg39 ((At.seg (segs := [pHash.enc r535.Salt, [(.slice A541 r535.Heard.length c542)], [(.slice A544 r535.Tried.length c545)]]) (hM.box .z) 2 rfl (by simp [Pl.len]; try rfl)).extB hS'))) ?_; clear hA; intro a hA
    refine d_takef (i := 2) (L' := #[tT,tT,tT,fF,fF,fF,fF,fF,fF,fF,fF,fF,fF,fF,fF,fF,fF]) rfl (by kernel_rfl) rfl (fun _ _ _ h => h) hA (by decide) (fun _ => hS) (fun a w' hA => run_move (hA.ev rfl)) ?_; clear hA; intro a hA
    refine d_takef (i := 3) (L' := #[tT,tT,tT,tT,fF,fF,fF,fF,fF,fF,fF,fF,fF,fF,fF,fF,fF]) rfl (by kernel_rfl) rfl (fun _ _ _ h => h) hA (by decide) (fun _ => hS) (fun a w' hA => run_field' Try.underlying41 rfl rfl Try.sizeOf39 (by decide) (hA.ev rfl)) ?_; clear hA; intro a hA
    refine d_take (i := 4) (L' := #[tT,tT,tT,tT,tT,fF,fF,fF,fF,fF,fF,fF,fF,fF,fF,fF,fF]) rfl (by kernel_rfl) rfl (fun _ _ _ h => h) hA (by decide) rfl hS (fun a w' hA hS' => run_ld (hA.ev rfl) (run_loadS Try.isAgg39 ((At.seg (segs := [pHash.enc r535.Salt, [(.slice A541 r535.Heard.length c542)], [(.slice A544 r535.Tried.length c545)]]) (hM.box .z) 2 rfl (by simp [Pl.len]; try rfl)).extB hS'))) ?_; clear hA; intro a hA
    refine d_takef (i := 5) (L' := #[tT,tT,tT,tT,tT,tT,fF,fF,fF,fF,fF,fF,fF,fF,fF,fF,fF]) rfl (by kernel_rfl) rfl (fun _ _ _ h => h) hA (by decide) (fun _ => hS) (fun a w' hA => run_move (hA.ev rfl)) ?_; clear hA; intro a hA
    obtain ⟨⟨hi556, hj557⟩, H⟩ := ite_some H
    obtain ⟨ad558, hq559, hat560⟩ := Row.elem' (p := pPlace) (RowOk.row (hM.row (p := pPlace) (.s (.s .z)))) (RowOk.len (hM.row (p := pPlace) (.s (.s .z)))) Place.z r550 hi556 hj557
    refine d_takef (i := 6) (L' := #[tT,tT,tT,tT,tT,tT,tT,fF,fF,fF,fF,fF,fF,fF,fF,fF,fF]) rfl (by kernel_rfl) rfl (fun _ _ _ h => h) hA (by decide) (fun _ => hS) (fun a w' hA => run_idx Try.underlying39 Try.sizeOf70 (hA.ev rfl) hq559 (hA.ev rfl) hi556 hj557) ?_; clear hA; intro a hA
    refine d_takef (i := 7) (L' := #[tT,tT,tT,tT,tT,tT,tT,tT,fF,fF,fF,fF,fF,fF,fF,fF,fF]) rfl (by kernel_rfl) rfl (fun _ _ _ h => h) hA (by decide) (fun _ => hS) (fun a w' hA => run_field' Try.underlying70 rfl rfl Try.sizeOf46 (by decide) (hA.ev rfl)) ?_; clear hA; intro a hA
    refine d_takef (i := 8) (L' := #[tT,tT,tT,tT,tT,tT,tT,tT,tT,fF,fF,fF,fF,fF,fF,fF,fF]) rfl (by kernel_rfl) rfl (fun _ _ _ h => h) hA (by decide) (fun _ => hS) (fun a w' hA => run_field' Try.underlying46 rfl rfl Try.sizeOf43 (by decide) (hA.ev rfl)) ?_; clear hA; intro a hA
    refine d_take (i := 9) (L' := #[tT,tT,tT,tT,tT,tT,tT,tT,tT,tT,fF,fF,fF,fF,fF,fF,fF]) rfl (by kernel_rfl) rfl (fun _ _ _ h => h) hA (by decide) rfl hS (fun a w' hA hS' => run_ld (hA.ev rfl) (run_loadS Try.isAgg43 ((NAddr.at_Time (Place.at_Addr_ (hat560))).extB hS'))) ?_; clear hA; intro a hA
    refine d_takef (i := 10) (L' := #[tT,tT,tT,tT,tT,tT,tT,tT,tT,tT,tT,fF,fF,fF,fF,fF,fF]) rfl (by kernel_rfl) rfl (fun _ _ _ h => h) hA (by decide) (fun _ => hS) (fun a w' hA => run_field' Try.underlying46 rfl rfl Try.sizeOf43 (by decide) (hA.ev rfl)) ?_; clear hA; intro a hA
    refine d_take (i := 11) (L' := #[tT,tT,tT,tT,tT,tT,tT,tT,tT,tT,tT,tT,fF,fF,fF,fF,fF]) rfl (by kernel_rfl) rfl (fun _ _ _ h => h) hA (by decide) rfl hS (fun a w' hA hS' => run_ld (hA.ev rfl) (run_loadS Try.isAgg43 ((NAddr.at_Time (hM.box (.s (.s (.s (.s .z)))))).extB hS'))) ?_; clear hA; intro a hA
    refine d_takef (i := 12) (L' := #[tT,tT,tT,tT,tT,tT,tT,tT,tT,tT,tT,tT,tT,fF,fF,fF,fF]) rfl (by kernel_rfl) rfl (fun _ _ _ h => h) hA (by decide) (fun _ => hS) (fun a w' hA => run_max (hA.ev rfl) (hA.ev rfl)) ?_; clear hA; intro a hA
    obtain ⟨⟨hi561, hj562⟩, H⟩ := ite_some H
    obtain ⟨ad563, hq564, hat565⟩ := Row.elem' (p := pPlace) (RowOk.row (hM.row (p := pPlace) (.s (.s .z)))) (RowOk.len (hM.row (p := pPlace) (.s (.s .z)))) Place.z r550 hi561 hj562
    refine d_takef (i := 13) (L' := #[tT,tT,tT,tT,tT,tT,tT,tT,tT,tT,tT,tT,tT,tT,fF,fF,fF]) rfl (by kernel_rfl) rfl (fun _ _ _ h => h) hA (by decide) (fun _ => hS) (fun a w' hA => run_idx Try.underlying39 Try.sizeOf70 (hA.ev rfl) hq564 (hA.ev rfl) hi561 hj562) ?_; clear hA; intro a hA
    refine d_takef (i := 14) (L' := #[tT,tT,tT,tT,tT,tT,tT,tT,tT,tT,tT,tT,tT,tT,tT,fF,fF]) rfl (by kernel_rfl) rfl (fun _ _ _ h => h) hA (by decide) (fun _ => hS) (fun a w' hA => run_field' Try.underlying70 rfl rfl Try.sizeOf46 (by decide) (hA.ev rfl)) ?_; clear hA; intro a hA
    refine d_takef (i := 15) (L' := #[tT,tT,tT,tT,tT,tT,tT,tT,tT,tT,tT,tT,tT,tT,tT,tT,fF]) rfl (by kernel_rfl) rfl (fun _ _ _ h => h) hA (by decide) (fun _ => hS) (fun a w' hA => run_field' Try.underlying46 rfl rfl Try.sizeOf43 (by decide) (hA.ev rfl)) ?_; clear hA; intro a hA
    refine d_one (i := 16) (L' := #[tT,tT,tT,tT,tT,tT,tT,tT,tT,tT,tT,tT,tT,tT,tT,tT,tT]) (by kernel_rfl) rfl rfl (e_setrow (x1 := (r535.Tried.getD r550.toNat Place.z)) (y1 := (Place.mk ((r535.Tried.getD r550.toNat Place.z).Bucket) (NAddr.mk (((r535.Tried.getD r550.toNat Place.z).Addr_).Host) (((r535.Tried.getD r550.toNat Place.z).Addr_).Port) (if a_1.Time > ((r535.Tried.getD r550.toNat Place.z).Addr_).Time then a_1.Time else ((r535.Tried.getD r550.toNat Place.z).Addr_).Time)) ((r535.Tried.getD r550.toNat Place.z).Source))) (off := 3) hM (.s (.s .z)) Try.sizeOf43 hA rfl rfl hq564 rfl (by first | rfl | (simp [Value.cells, Pl.len]; done) | (simp [Value.cells, Pl.len]; rfl)) (one_val rfl) hi561 hj562 (getD_getD _ _ _) (by decide) (spl_in2 (segs := Place.segs (r535.Tried.getD r550.toNat Place.z)) 1 1 2 rfl (by first | rfl | (simp only [Place.segs, List.take, List.flatten_cons, List.flatten_nil, List.length_append, List.length_nil, Pl.len]; rfl)) (by rw [Pl.len]; exact Nat.le_of_ble_eq_true rfl) (NAddr.spl_Time _ _)) ?_)
    clear hM hA; intro w566  hM hE  a hA
    refine ⟨fun h => absurd h (by decide), ?_⟩
    refine d_done (by kernel_rfl) ?_
    refine TN ?_
    refine wp_seq ?_
    refine wp_region_lit ?_
    refine L1 (stv hA (by decide) (run_ld (hA.ev rfl) (run_loadW Try.isAgg41 Try.sizeOf41 (by simp [Pl.len]; try rfl) (hM.box .z))) ?_)
    clear hA; intro a hA
    refine L1 (e_store (g := g532) (off := 0) (cur := (List.flatten [pHash.enc (Vector.replicate 32 0 : Vector Int 32), [(.slice none 0 0)], [(.slice none 0 0)]])) (cs' := (List.flatten [pHash.enc r535.Salt, [(.slice A541 r535.Heard.length c542)], [(.slice A544 r535.Tried.length c545)]])) hM (.s (.s (.s .z))) Try.sizeOf41 hA rfl (by simp [add_mk]) rfl (by first | rfl | (simp [Value.cells, Pl.len]; done) | (simp [Value.cells, Pl.len]; rfl)) (one_flat (one_cons (Pl.one _ _) (one_cons (by simp [Value.oneCell']) (one_cons (by simp [Value.oneCell']) one_nil)))) (by first | exact Nat.le_of_ble_eq_true rfl | (simp [Pl.len]; done) | (simp [Pl.len]; decide)) (spl_all (by first | rfl | (simp [Value.cells, Pl.len]; done) | (simp [Value.cells, Pl.len]; rfl))) ?_)
    clear hM hA; intro w567  hM hE  a hA
    refine L1 (stv hA (by decide) (run_assign (hA.ev rfl)) ?_)
    clear hA; intro a hA
    refine LQ ?_
    refine TN ?_
    refine wp_ret ?_
    obtain rfl := Option.some.inj H
    refine TR ?_
    exact ret_mix2 (fn := Try.f78) hA rfl (RV.cell rfl (run_loadW Try.isAgg41 Try.sizeOf41 (by simp [Pl.len]; try rfl) (hM.box (.s (.s (.s .z)))))) (RV.tmp rfl) ⟨_, rfl, (.slice A541 r535.Heard.length c542), (.slice A544 r535.Tried.length c545), rfl, (hM.sel [1, 2] rfl (by decide))⟩
  · replace H := ite_f hb553 H
    refine wp_skip ?_
    refine TN ?_
    refine wp_seq ?_
    refine wp_seq ?_
    refine wp_region_lit ?_
    refine L1 (stv hA (by decide) (run_field' Try.underlying41 rfl rfl Try.sizeOf39 (by decide) (hA.ev rfl)) ?_)
    clear hA; intro a hA
    refine L1 (stv hA (by decide) (run_ld (hA.ev rfl) (run_loadS Try.isAgg39 (At.seg (segs := [pHash.enc r535.Salt, [(.slice A541 r535.Heard.length c542)], [(.slice A544 r535.Tried.length c545)]]) (hM.box .z) 1 rfl (by simp [Pl.len]; try rfl)))) ?_)
    clear hA; intro a hA
    refine L1 (stv hA (by decide) (run_ld (hA.ev rfl) (run_loadP Try.isAgg46 Try.sizeOf46 (hM.box (.s (.s (.s (.s .z))))))) ?_)
    clear hA; intro a hA
    obtain ⟨r568, H569, H⟩ := Option.bind_eq_some_iff.1 H
    refine L1 (st_call Try.call72 hA [(.slice A541 r535.Heard.length c542), (.agg (pNAddr.enc a_1).toArray)] rfl (by decide) (ref38_find.calls _ _ _ _ _ _ _ ((hM.roV (p := pPlace) (Ms := []) (.s .z))) (hM.front (Ms := [])) H569) ?_)
    clear hA; rintro _ w570 ⟨rfl, hMc⟩ a hA
    have hE := hMc.below; have hM := hM.call (Ms := []) hMc
    clear hMc; simp only [List.cons_append, List.nil_append] at hM
    refine L1 (stv hA (by decide) (run_assign (hA.ev rfl)) ?_)
    clear hA; intro a hA
    refine LQ ?_
    refine TN ?_
    refine wp_seq ?_
    refine wp_region_lit ?_
    refine L1 (stv hA (by decide) (run_move (hA.ev rfl)) ?_)
    clear hA; intro a hA
    refine L1 (stv hA (by decide) (run_bin (hA.ev rfl) (hA.ev rfl) (bin_geq _ _ _ _)) ?_)
    clear hA; intro a hA
    refine LQ ?_
    refine TN ?_
    refine tcond (b := (decide (r568 ≥ 0))) hA rfl (fun hb571 => ?_) (fun hb571 => ?_)
    · replace H := ite_t hb571 H
      refine wp_seq ?_
      refine draw (fun w' => Below w570.heap.size w570 w') [16] rfl ?_
      intro w572 hw hS; replace hM := hM.ext hS; clear hw
      refine d_takef (i := 0) (L' := #[tT,fF,fF,fF,fF,fF,fF,fF,fF,fF,fF,fF,fF,fF,fF,fF,fF]) rfl (by kernel_rfl) rfl (fun _ _ _ h => h) hA (by decide) (fun _ => hS) (fun a w' hA => run_field' Try.underlying41 rfl rfl Try.sizeOf39 (by decide) (hA.ev rfl)) ?_; clear hA; intro a hA
      refine rebase hS ?_; clear hS; intro hS
      refine d_take (i := 1) (L' := #[tT,tT,fF,fF,fF,fF,fF,fF,fF,fF,fF,fF,fF,fF,fF,fF,fF]) rfl (by kernel_rfl) rfl (fun _ _ _ h => h) hA (by decide) rfl hS (fun a w' hA hS' => run_ld (hA.ev rfl) (run_loadS Try.isAgg39 ((At.seg (segs := [pHash.enc r535.Salt, [(.slice A541 r535.Heard.length c542)], [(.slice A544 r535.Tried.length c545)]]) (hM.box .z) 1 rfl (by simp [Pl.len]; try rfl)).extB hS'))) ?_; clear hA; intro a hA
      refine d_takef (i := 2) (L' := #[tT,tT,tT,fF,fF,fF,fF,fF,fF,fF,fF,fF,fF,fF,fF,fF,fF]) rfl (by kernel_rfl) rfl (fun _ _ _ h => h) hA (by decide) (fun _ => hS) (fun a w' hA => run_move (hA.ev rfl)) ?_; clear hA; intro a hA
      refine d_takef (i := 3) (L' := #[tT,tT,tT,tT,fF,fF,fF,fF,fF,fF,fF,fF,fF,fF,fF,fF,fF]) rfl (by kernel_rfl) rfl (fun _ _ _ h => h) hA (by decide) (fun _ => hS) (fun a w' hA => run_field' Try.underlying41 rfl rfl Try.sizeOf39 (by decide) (hA.ev rfl)) ?_; clear hA; intro a hA
      refine d_take (i := 4) (L' := #[tT,tT,tT,tT,tT,fF,fF,fF,fF,fF,fF,fF,fF,fF,fF,fF,fF]) rfl (by kernel_rfl) rfl (fun _ _ _ h => h) hA (by decide) rfl hS (fun a w' hA hS' => run_ld (hA.ev rfl) (run_loadS Try.isAgg39 ((At.seg (segs := [pHash.enc r535.Salt, [(.slice A541 r535.Heard.length c542)], [(.slice A544 r535.Tried.length c545)]]) (hM.box .z) 1 rfl (by simp [Pl.len]; try rfl)).extB hS'))) ?_; clear hA; intro a hA
      refine d_takef (i := 5) (L' := #[tT,tT,tT,tT,tT,tT,fF,fF,fF,fF,fF,fF,fF,fF,fF,fF,fF]) rfl (by kernel_rfl) rfl (fun _ _ _ h => h) hA (by decide) (fun _ => hS) (fun a w' hA => run_move (hA.ev rfl)) ?_; clear hA; intro a hA
      obtain ⟨⟨hi574, hj575⟩, H⟩ := ite_some H
      obtain ⟨ad576, hq577, hat578⟩ := Row.elem' (p := pPlace) (RowOk.row (hM.row (p := pPlace) (.s .z))) (RowOk.len (hM.row (p := pPlace) (.s .z))) Place.z r568 hi574 hj575
      refine d_takef (i := 6) (L' := #[tT,tT,tT,tT,tT,tT,tT,fF,fF,fF,fF,fF,fF,fF,fF,fF,fF]) rfl (by kernel_rfl) rfl (fun _ _ _ h => h) hA (by decide) (fun _ => hS) (fun a w' hA => run_idx Try.underlying39 Try.sizeOf70 (hA.ev rfl) hq577 (hA.ev rfl) hi574 hj575) ?_; clear hA; intro a hA
      refine d_takef (i := 7) (L' := #[tT,tT,tT,tT,tT,tT,tT,tT,fF,fF,fF,fF,fF,fF,fF,fF,fF]) rfl (by kernel_rfl) rfl (fun _ _ _ h => h) hA (by decide) (fun _ => hS) (fun a w' hA => run_field' Try.underlying70 rfl rfl Try.sizeOf46 (by decide) (hA.ev rfl)) ?_; clear hA; intro a hA
      refine d_takef (i := 8) (L' := #[tT,tT,tT,tT,tT,tT,tT,tT,tT,fF,fF,fF,fF,fF,fF,fF,fF]) rfl (by kernel_rfl) rfl (fun _ _ _ h => h) hA (by decide) (fun _ => hS) (fun a w' hA => run_field' Try.underlying46 rfl rfl Try.sizeOf43 (by decide) (hA.ev rfl)) ?_; clear hA; intro a hA
      refine d_take (i := 9) (L' := #[tT,tT,tT,tT,tT,tT,tT,tT,tT,tT,fF,fF,fF,fF,fF,fF,fF]) rfl (by kernel_rfl) rfl (fun _ _ _ h => h) hA (by decide) rfl hS (fun a w' hA hS' => run_ld (hA.ev rfl) (run_loadS Try.isAgg43 ((NAddr.at_Time (Place.at_Addr_ (hat578))).extB hS'))) ?_; clear hA; intro a hA
      refine d_takef (i := 10) (L' := #[tT,tT,tT,tT,tT,tT,tT,tT,tT,tT,tT,fF,fF,fF,fF,fF,fF]) rfl (by kernel_rfl) rfl (fun _ _ _ h => h) hA (by decide) (fun _ => hS) (fun a w' hA => run_field' Try.underlying46 rfl rfl Try.sizeOf43 (by decide) (hA.ev rfl)) ?_; clear hA; intro a hA
      refine d_take (i := 11) (L' := #[tT,tT,tT,tT,tT,tT,tT,tT,tT,tT,tT,tT,fF,fF,fF,fF,fF]) rfl (by kernel_rfl) rfl (fun _ _ _ h => h) hA (by decide) rfl hS (fun a w' hA hS' => run_ld (hA.ev rfl) (run_loadS Try.isAgg43 ((NAddr.at_Time (hM.box (.s (.s (.s (.s .z)))))).extB hS'))) ?_; clear hA; intro a hA
      refine d_takef (i := 12) (L' := #[tT,tT,tT,tT,tT,tT,tT,tT,tT,tT,tT,tT,tT,fF,fF,fF,fF]) rfl (by kernel_rfl) rfl (fun _ _ _ h => h) hA (by decide) (fun _ => hS) (fun a w' hA => run_max (hA.ev rfl) (hA.ev rfl)) ?_; clear hA; intro a hA
      obtain ⟨⟨hi579, hj580⟩, H⟩ := ite_some H
      obtain ⟨ad581, hq582, hat583⟩ := Row.elem' (p := pPlace) (RowOk.row (hM.row (p := pPlace) (.s .z))) (RowOk.len (hM.row (p := pPlace) (.s .z))) Place.z r568 hi579 hj580
      refine d_takef (i := 13) (L' := #[tT,tT,tT,tT,tT,tT,tT,tT,tT,tT,tT,tT,tT,tT,fF,fF,fF]) rfl (by kernel_rfl) rfl (fun _ _ _ h => h) hA (by decide) (fun _ => hS) (fun a w' hA => run_idx Try.underlying39 Try.sizeOf70 (hA.ev rfl) hq582 (hA.ev rfl) hi579 hj580) ?_; clear hA; intro a hA
      refine d_takef (i := 14) (L' := #[tT,tT,tT,tT,tT,tT,tT,tT,tT,tT,tT,tT,tT,tT,tT,fF,fF]) rfl (by kernel_rfl) rfl (fun _ _ _ h => h) hA (by decide) (fun _ => hS) (fun a w' hA => run_field' Try.underlying70 rfl rfl Try.sizeOf46 (by decide) (hA.ev rfl)) ?_; clear hA; intro a hA
      refine d_takef (i := 15) (L' := #[tT,tT,tT,tT,tT,tT,tT,tT,tT,tT,tT,tT,tT,tT,tT,tT,fF]) rfl (by kernel_rfl) rfl (fun _ _ _ h => h) hA (by decide) (fun _ => hS) (fun a w' hA => run_field' Try.underlying46 rfl rfl Try.sizeOf43 (by decide) (hA.ev rfl)) ?_; clear hA; intro a hA
      refine d_one (i := 16) (L' := #[tT,tT,tT,tT,tT,tT,tT,tT,tT,tT,tT,tT,tT,tT,tT,tT,tT]) (by kernel_rfl) rfl rfl (e_setrow (x1 := (r535.Heard.getD r568.toNat Place.z)) (y1 := (Place.mk ((r535.Heard.getD r568.toNat Place.z).Bucket) (NAddr.mk (((r535.Heard.getD r568.toNat Place.z).Addr_).Host) (((r535.Heard.getD r568.toNat Place.z).Addr_).Port) (if a_1.Time > ((r535.Heard.getD r568.toNat Place.z).Addr_).Time then a_1.Time else ((r535.Heard.getD r568.toNat Place.z).Addr_).Time)) ((r535.Heard.getD r568.toNat Place.z).Source))) (off := 3) hM (.s .z) Try.sizeOf43 hA rfl rfl hq582 rfl (by first | rfl | (simp [Value.cells, Pl.len]; done) | (simp [Value.cells, Pl.len]; rfl)) (one_val rfl) hi579 hj580 (getD_getD _ _ _) (by decide) (spl_in2 (segs := Place.segs (r535.Heard.getD r568.toNat Place.z)) 1 1 2 rfl (by first | rfl | (simp only [Place.segs, List.take, List.flatten_cons, List.flatten_nil, List.length_append, List.length_nil, Pl.len]; rfl)) (by rw [Pl.len]; exact Nat.le_of_ble_eq_true rfl) (NAddr.spl_Time _ _)) ?_)
      clear hM hA; intro w584  hM hE  a hA
      refine ⟨fun h => absurd h (by decide), ?_⟩
      refine d_done (by kernel_rfl) ?_
      refine TN ?_
      refine wp_seq ?_
      refine wp_region_lit ?_
      refine L1 (stv hA (by decide) (run_ld (hA.ev rfl) (run_loadW Try.isAgg41 Try.sizeOf41 (by simp [Pl.len]; try rfl) (hM.box .z))) ?_)
      clear hA; intro a hA
      refine L1 (e_store (g := g532) (off := 0) (cur := (List.flatten [pHash.enc (Vector.replicate 32 0 : Vector Int 32), [(.slice none 0 0)], [(.slice none 0 0)]])) (cs' := (List.flatten [pHash.enc r535.Salt, [(.slice A541 r535.Heard.length c542)], [(.slice A544 r535.Tried.length c545)]])) hM (.s (.s (.s .z))) Try.sizeOf41 hA rfl (by simp [add_mk]) rfl (by first | rfl | (simp [Value.cells, Pl.len]; done) | (simp [Value.cells, Pl.len]; rfl)) (one_flat (one_cons (Pl.one _ _) (one_cons (by simp [Value.oneCell']) (one_cons (by simp [Value.oneCell']) one_nil)))) (by first | exact Nat.le_of_ble_eq_true rfl | (simp [Pl.len]; done) | (simp [Pl.len]; decide)) (spl_all (by first | rfl | (simp [Value.cells, Pl.len]; done) | (simp [Value.cells, Pl.len]; rfl))) ?_)
      clear hM hA; intro w585  hM hE  a hA
      refine L1 (stv hA (by decide) (run_assign (hA.ev rfl)) ?_)
      clear hA; intro a hA
      refine LQ ?_
      refine TN ?_
      refine wp_ret ?_
      obtain rfl := Option.some.inj H
      refine TR ?_
      exact ret_mix2 (fn := Try.f78) hA rfl (RV.cell rfl (run_loadW Try.isAgg41 Try.sizeOf41 (by simp [Pl.len]; try rfl) (hM.box (.s (.s (.s .z)))))) (RV.tmp rfl) ⟨_, rfl, (.slice A541 r535.Heard.length c542), (.slice A544 r535.Tried.length c545), rfl, (hM.sel [1, 2] rfl (by decide))⟩
    · replace H := ite_f hb571 H
      refine wp_skip ?_
      refine TN ?_
      refine wp_seq ?_
      obtain ⟨o610, H609, H⟩ := Option.bind_eq_some_iff.1 H
      refine cutC (fun a w => ∃ (x608 : Place) (g607 : Nat), x608 = o610 ∧ Mem F w0 w [.box g529 46 (pNAddr.enc a_1), .box g532 41 (List.flatten [pHash.enc (Vector.replicate 32 0 : Vector Int 32), [(.slice none 0 0)], [(.slice none 0 0)]]), .box g546 41 (List.flatten [pHash.enc r535.Salt, [(.slice A541 r535.Heard.length c542)], [(.slice A544 r535.Tried.length c545)]]), .row 70 pPlace.sz (.slice A541 r535.Heard.length c542) (pPlace.flat r535.Heard), .row 70 pPlace.sz (.slice A544 r535.Tried.length c545) (pPlace.flat r535.Tried), .box g607 70 (pPlace.enc x608)] ∧ Has 129 [(4, (.pointer (some (⟨g529, 0, none⟩)))), (6, (.pointer (some (⟨g532, 0, none⟩)))), (8, (.pointer (some (⟨g546, 0, none⟩)))), (11, (.pointer (some (⟨g607, 0, none⟩))))] a) ?_ ?_
      · obtain ⟨r612, H613, H609⟩ := Option.bind_eq_some_iff.1 H609
        refine draw (fun w' => Below w570.heap.size w570 w') [9] rfl ?_
        intro w618 hw hS; replace hM := hM.ext hS; clear hw
        refine d_takef (i := 0) (L' := #[tT,fF,fF,fF,fF,fF,fF,fF,fF,fF]) rfl (by kernel_rfl) rfl (fun _ _ _ h => h) hA (by decide) (fun _ => hS) (fun a w' hA => run_field' Try.underlying41 rfl rfl Try.sizeOf33 (by decide) (hA.ev rfl)) ?_; clear hA; intro a hA
        refine rebase hS ?_; clear hS; intro hS
        refine d_take (i := 1) (L' := #[tT,tT,fF,fF,fF,fF,fF,fF,fF,fF]) rfl (by kernel_rfl) rfl (fun _ _ _ h => h) hA (by decide) rfl hS (fun a w' hA hS' => run_ld (hA.ev rfl) (run_loadP Try.isAgg33 Try.sizeOf33 ((At.seg (segs := [pHash.enc b_0.Salt, [(.slice A0_1 b_0.Heard.length c0_1)], [(.slice A0_2 b_0.Tried.length c0_2)]]) (hM.box (.s (.s (.s (.s (.s .z)))))) 0 rfl (by simp [Pl.len]; try rfl)).extB hS'))) ?_; clear hA; intro a hA
        refine d_take (i := 2) (L' := #[tT,tT,tT,fF,fF,fF,fF,fF,fF,fF]) rfl (by kernel_rfl) rfl (fun _ _ _ h => h) hA (by decide) rfl hS (fun a w' hA hS' => run_ld (hA.ev rfl) (run_loadP Try.isAgg46 Try.sizeOf46 ((hM.box (.s (.s (.s (.s .z))))).extB hS'))) ?_; clear hA; intro a hA
        refine d_takef (i := 3) (L' := #[tT,tT,tT,tT,fF,fF,fF,fF,fF,fF]) rfl (by kernel_rfl) rfl (fun _ _ _ h => h) hA (by decide) (fun _ => hS) (fun a w' hA => run_move (hA.ev rfl)) ?_; clear hA; intro a hA
        refine d_take (i := 5) (L' := #[tT,tT,tT,tT,fF,tT,fF,fF,fF,fF]) rfl (by kernel_rfl) rfl (fun _ _ _ h => h) hA (by decide) rfl hS (fun a w' hA hS' => run_ld (hA.ev rfl) (run_loadP Try.isAgg46 Try.sizeOf46 ((hM.box (.s (.s (.s (.s .z))))).extB hS'))) ?_; clear hA; intro a hA
        refine d_takef (i := 6) (L' := #[tT,tT,tT,tT,fF,tT,tT,fF,fF,fF]) rfl (by kernel_rfl) rfl (fun _ _ _ h => h) hA (by decide) (fun _ => hS) (fun a w' hA => run_move (hA.ev rfl)) ?_; clear hA; intro a hA
        refine d_many (is := [4, 8]) (by kernel_rfl) (by decide) ⟨?_, ?_, trivial⟩
        · refine d_op (i := 4) (L' := #[tT,tT,tT,tT,tT,tT,tT,fF,fF,fF]) rfl rfl (st_call Try.call95 hA [(.agg (pHash.enc b_0.Salt).toArray), (.agg (pNAddr.enc a_1).toArray), (.int .u32 source_2)] rfl (by decide) (ref38_HeardBucket.calls _ _ _ _ _ _ _ (hM.front (Ms := [])) H613) ?_)
          clear hA; rintro _ w619 ⟨rfl, hMc⟩ a hA
          have hE := hMc.below; have hM := hM.call (Ms := []) hMc
          clear hMc; simp only [List.cons_append, List.nil_append] at hM
          replace hS := hS.trans (hE.mono hS.size)
          refine ⟨fun _ => hS, ?_⟩
          refine d_takef (i := 7) (L' := #[tT,tT,tT,tT,tT,tT,tT,tT,fF,fF]) rfl (by kernel_rfl) rfl (fun _ _ _ h => h) hA (by decide) (fun _ => hS) (fun a w' hA => run_build [(0, (.int .i64 r612)), (1, (.agg (pNAddr.enc a_1).toArray)), (2, (.int .u32 source_2))] zero70 Try.underlying70 (ss := [1, 3, 1]) ⟨Try.sizeOf3, Try.sizeOf46, Try.sizeOf43, trivial⟩ hA rfl (fill_step rfl rfl (enc_fit _ _ rfl) (arr_eq (Place.spl_Bucket _ _)) (fill_step rfl (by simp [Value.cells, Pl.len]; try rfl) (enc_fit _ _ rfl) (arr_eq (Place.spl_Addr_ _ _)) (fill_step rfl rfl (enc_fit _ _ rfl) (arr_eq (Place.spl_Source _ _)) (fill_nil))))) ?_; clear hA; intro a hA
          refine d_one (i := 8) (L' := #[tT,tT,tT,tT,tT,tT,tT,tT,tT,fF]) (by kernel_rfl) rfl rfl (e_alloc (cs := (pPlace.enc Place.z)) hM zero70 rfl hA (by decide) ?_)
          clear hM hA; intro w621 g620 hM hE  a hA
          replace hS := hS.trans (hE.mono hS.size)
          refine ⟨fun _ => hS, ?_⟩
          refine d_one (i := 9) (L' := #[tT,tT,tT,tT,tT,tT,tT,tT,tT,tT]) (by kernel_rfl) rfl rfl (e_store (g := g620) (off := 0) (cur := (pPlace.enc Place.z)) (cs' := (pPlace.enc (Place.mk r612 a_1 source_2))) hM .z Try.sizeOf70 hA rfl (by simp [add_mk]) rfl (agg_size _ _) (agg_one _ _) (Nat.le_of_ble_eq_true (enc_fitL _ _ rfl)) (spl_all (by first | rfl | (simp [Value.cells, Pl.len]; done) | (simp [Value.cells, Pl.len]; rfl))) ?_)
          clear hM hA; intro w622  hM hE  a hA
          refine ⟨fun h => absurd h (by decide), ?_⟩
          refine d_done (by kernel_rfl) ?_
          exact ⟨(Place.mk r612 a_1 source_2), g620, Option.some.inj H609, (hM.sel [5, 4, 1, 2, 3, 0] rfl (by decide)), ((((hA.nil.cons (hA.get 11 _ rfl)).cons (hA.get 8 _ rfl)).cons (hA.get 6 _ rfl)).cons (hA.get 4 _ rfl))⟩
        · refine d_op (i := 8) (L' := #[tT,tT,tT,tT,fF,tT,tT,fF,tT,fF]) rfl rfl (e_alloc (cs := (pPlace.enc Place.z)) hM zero70 rfl hA (by decide) ?_)
          clear hM hA; intro w624 g623 hM hE  a hA
          replace hS := hS.trans (hE.mono hS.size)
          refine ⟨fun _ => hS, ?_⟩
          refine d_one (i := 4) (L' := #[tT,tT,tT,tT,tT,tT,tT,fF,tT,fF]) (by kernel_rfl) rfl rfl (st_call Try.call95 hA [(.agg (pHash.enc b_0.Salt).toArray), (.agg (pNAddr.enc a_1).toArray), (.int .u32 source_2)] rfl (by decide) (ref38_HeardBucket.calls _ _ _ _ _ _ _ (hM.front (Ms := [])) H613) ?_)
          clear hA; rintro _ w625 ⟨rfl, hMc⟩ a hA
          have hE := hMc.below; have hM := hM.call (Ms := []) hMc
          clear hMc; simp only [List.cons_append, List.nil_append] at hM
          replace hS := hS.trans (hE.mono hS.size)
          refine ⟨fun _ => hS, ?_⟩
          refine d_takef (i := 7) (L' := #[tT,tT,tT,tT,tT,tT,tT,tT,tT,fF]) rfl (by kernel_rfl) rfl (fun _ _ _ h => h) hA (by decide) (fun _ => hS) (fun a w' hA => run_build [(0, (.int .i64 r612)), (1, (.agg (pNAddr.enc a_1).toArray)), (2, (.int .u32 source_2))] zero70 Try.underlying70 (ss := [1, 3, 1]) ⟨Try.sizeOf3, Try.sizeOf46, Try.sizeOf43, trivial⟩ hA rfl (fill_step rfl rfl (enc_fit _ _ rfl) (arr_eq (Place.spl_Bucket _ _)) (fill_step rfl (by simp [Value.cells, Pl.len]; try rfl) (enc_fit _ _ rfl) (arr_eq (Place.spl_Addr_ _ _)) (fill_step rfl rfl (enc_fit _ _ rfl) (arr_eq (Place.spl_Source _ _)) (fill_nil))))) ?_; clear hA; intro a hA
          refine d_one (i := 9) (L' := #[tT,tT,tT,tT,tT,tT,tT,tT,tT,tT]) (by kernel_rfl) rfl rfl (e_store (g := g623) (off := 0) (cur := (pPlace.enc Place.z)) (cs' := (pPlace.enc (Place.mk r612 a_1 source_2))) hM .z Try.sizeOf70 hA rfl (by simp [add_mk]) rfl (agg_size _ _) (agg_one _ _) (Nat.le_of_ble_eq_true (enc_fitL _ _ rfl)) (spl_all (by first | rfl | (simp [Value.cells, Pl.len]; done) | (simp [Value.cells, Pl.len]; rfl))) ?_)
          clear hM hA; intro w626  hM hE  a hA
          refine ⟨fun h => absurd h (by decide), ?_⟩
          refine d_done (by kernel_rfl) ?_
          exact ⟨(Place.mk r612 a_1 source_2), g623, Option.some.inj H609, (hM.sel [5, 4, 1, 2, 3, 0] rfl (by decide)), ((((hA.nil.cons (hA.get 11 _ rfl)).cons (hA.get 8 _ rfl)).cons (hA.get 6 _ rfl)).cons (hA.get 4 _ rfl))⟩
      clear hM hA
      rintro a w627 ⟨x608, g607, rfl, hM, hA⟩
      try dsimp only at H
      refine TN ?_
      refine wp_seq ?_
      refine wp_region_lit ?_
      refine L1 (stv hA (by decide) (run_field' Try.underlying41 rfl rfl Try.sizeOf39 (by decide) (hA.ev rfl)) ?_)
      clear hA; intro a hA
      refine L1 (stv hA (by decide) (run_ld (hA.ev rfl) (run_loadS Try.isAgg39 (At.seg (segs := [pHash.enc r535.Salt, [(.slice A541 r535.Heard.length c542)], [(.slice A544 r535.Tried.length c545)]]) (hM.box (.s (.s .z))) 1 rfl (by simp [Pl.len]; try rfl)))) ?_)
      clear hA; intro a hA
      refine L1 (stv hA (by decide) (run_field' Try.underlying70 rfl rfl Try.sizeOf3 (by decide) (hA.ev rfl)) ?_)
      clear hA; intro a hA
      refine L1 (stv hA (by decide) (run_ld (hA.ev rfl) (run_loadS Try.isAgg3 (Place.at_Bucket (hM.box (.s (.s (.s (.s (.s .z))))))))) ?_)
      clear hA; intro a hA
      obtain ⟨r628, H629, H⟩ := Option.bind_eq_some_iff.1 H
      refine L1 (st_call Try.call76 hA [(.slice A541 r535.Heard.length c542), (.int .i64 x608.Bucket)] rfl (by decide) (ref38_inside.calls _ _ _ _ _ _ _ ((hM.roV (p := pPlace) (Ms := []) (.s (.s (.s .z))))) (hM.front (Ms := [])) H629) ?_)
      clear hA; rintro _ w630 ⟨rfl, hMc⟩ a hA
      have hE := hMc.below; have hM := hM.call (Ms := []) hMc
      clear hMc; simp only [List.cons_append, List.nil_append] at hM
      refine L1 (stv hA (by decide) (run_move (hA.ev rfl)) ?_)
      clear hA; intro a hA
      refine L1 (stv hA (by decide) (run_ext (hA.ev rfl) rfl) ?_)
      clear hA; intro a hA
      refine L1 (stv hA (by decide) (run_ext (hA.ev rfl) rfl) ?_)
      clear hA; intro a hA
      refine L1 (stv hA (by decide) (run_assign (hA.ev rfl)) ?_)
      clear hA; intro a hA
      refine L1 (stv hA (by decide) (run_assign (hA.ev rfl)) ?_)
      clear hA; intro a hA
      refine LQ ?_
      refine TN ?_
      refine wp_seq ?_
      refine wp_seq ?_
      refine wp_region_lit ?_
      refine L1 (stv hA (by decide) (run_move (hA.ev rfl)) ?_)
      clear hA; intro a hA
      refine L1 (stv hA (by decide) (run_move (hA.ev rfl)) ?_)
      clear hA; intro a hA
      refine L1 (stv hA (by decide) (run_bin (hA.ev rfl) (hA.ev rfl) (bin_sub _ _ _ _)) ?_)
      clear hA; intro a hA
      refine L1 (stv hA (by decide) (run_bin (hA.ev rfl) (hA.ev rfl) (bin_geq _ _ _ _)) ?_)
      clear hA; intro a hA
      refine LQ ?_
      refine TN ?_
      obtain ⟨o840, H839, H⟩ := Option.bind_eq_some_iff.1 H
      refine cutC (fun a w => ∃ (xs837 : (List Place)) (v834 : Value), (.go xs837) = o840 ∧ Mem F w0 w [.box g532 41 (List.flatten [pHash.enc (Vector.replicate 32 0 : Vector Int 32), [(.slice none 0 0)], [(.slice none 0 0)]]), .box g546 41 (List.flatten [pHash.enc r535.Salt, [v834], [(.slice A544 r535.Tried.length c545)]]), .row 70 pPlace.sz v834 (pPlace.flat xs837), .row 70 pPlace.sz (.slice A544 r535.Tried.length c545) (pPlace.flat r535.Tried), .box g607 70 (pPlace.enc x608)] ∧ Has 129 [(6, (.pointer (some (⟨g532, 0, none⟩)))), (8, (.pointer (some (⟨g546, 0, none⟩)))), (11, (.pointer (some (⟨g607, 0, none⟩))))] a) ?_ ?_
      · refine tcond (b := (decide ((IntKind.i64.wrap (r628.2 - r628.1)) ≥ 8))) hA rfl (fun hb841 => ?_) (fun hb841 => ?_)
        · replace H839 := ite_t hb841 H839
          refine wp_seq ?_
          refine wp_region_lit ?_
          refine L1 (stv hA (by decide) (run_move (hA.ev rfl)) ?_)
          clear hA; intro a hA
          refine L1 (stv hA (by decide) (run_assign (hA.ev rfl)) ?_)
          clear hA; intro a hA
          refine LQ ?_
          refine TN ?_
          refine wp_seq ?_
          refine wp_seq ?_
          refine wp_region_lit ?_
          refine L1 (stv hA (by decide) (run_move (hA.ev rfl)) ?_)
          clear hA; intro a hA
          refine L1 (stv hA (by decide) (run_assign (hA.ev rfl)) ?_)
          clear hA; intro a hA
          refine LQ ?_
          refine TN ?_
          obtain ⟨o994, H993, H839⟩ := Option.bind_eq_some_iff.1 H839
          refine cutC (fun a w => ∃ (least992 : Int), least992 = o994 ∧ Mem F w0 w [.box g529 46 (pNAddr.enc a_1), .box g532 41 (List.flatten [pHash.enc (Vector.replicate 32 0 : Vector Int 32), [(.slice none 0 0)], [(.slice none 0 0)]]), .box g546 41 (List.flatten [pHash.enc r535.Salt, [(.slice A541 r535.Heard.length c542)], [(.slice A544 r535.Tried.length c545)]]), .row 70 pPlace.sz (.slice A541 r535.Heard.length c542) (pPlace.flat r535.Heard), .row 70 pPlace.sz (.slice A544 r535.Tried.length c545) (pPlace.flat r535.Tried), .box g607 70 (pPlace.enc x608)] ∧ Has 129 [(4, (.pointer (some (⟨g529, 0, none⟩)))), (6, (.pointer (some (⟨g532, 0, none⟩)))), (8, (.pointer (some (⟨g546, 0, none⟩)))), (11, (.pointer (some (⟨g607, 0, none⟩)))), (14, (.int .i64 least992))] a) ?_ ?_
          · refine wp_block ?_
            refine wp_loop_ghost (fun m a w => ∃ (least984 : Int) (i986 : Int), ref38_hear.l0 r535 r628 m least984 i986 = some o994 ∧ Mem F w0 w [.box g529 46 (pNAddr.enc a_1), .box g532 41 (List.flatten [pHash.enc (Vector.replicate 32 0 : Vector Int 32), [(.slice none 0 0)], [(.slice none 0 0)]]), .box g546 41 (List.flatten [pHash.enc r535.Salt, [(.slice A541 r535.Heard.length c542)], [(.slice A544 r535.Tried.length c545)]]), .row 70 pPlace.sz (.slice A541 r535.Heard.length c542) (pPlace.flat r535.Heard), .row 70 pPlace.sz (.slice A544 r535.Tried.length c545) (pPlace.flat r535.Tried), .box g607 70 (pPlace.enc x608)] ∧ Has 129 [(4, (.pointer (some (⟨g529, 0, none⟩)))), (6, (.pointer (some (⟨g532, 0, none⟩)))), (8, (.pointer (some (⟨g546, 0, none⟩)))), (11, (.pointer (some (⟨g607, 0, none⟩)))), (13, (.int .i64 r628.2)), (14, (.int .i64 least984)), (15, (.int .i64 i986))] a) k ⟨r628.1, r628.1, H993, hM, (((((((hA.nil.cons (hA.get 15 _ rfl)).cons (hA.get 14 _ rfl)).cons (hA.get 13 _ rfl)).cons (hA.get 11 _ rfl)).cons (hA.get 8 _ rfl)).cons (hA.get 6 _ rfl)).cons (hA.get 4 _ rfl))⟩ ?_
            clear hM hA; rintro m995 a w996 ⟨least984, i986, H993, hM, hA⟩
            cases m995 with
            | zero => exact absurd H993 (by simp [ref38_hear.l0])
            | succ m995 =>
            rw [ref38_hear.l0] at H993
            refine wp_seq ?_
            refine wp_seq ?_
            refine wp_region_lit ?_
            refine L1 (stv hA (by decide) (run_move (hA.ev rfl)) ?_)
            clear hA; intro a hA
            refine L1 (stv hA (by decide) (run_move (hA.ev rfl)) ?_)
            clear hA; intro a hA
            refine L1 (stv hA (by decide) (run_bin (hA.ev rfl) (hA.ev rfl) (bin_lss _ _ _ _)) ?_)
            clear hA; intro a hA
            refine LQ ?_
            refine TN ?_
            refine tcond (b := (decide (i986 < r628.2))) hA rfl (fun hb997 => ?_) (fun hb997 => ?_)
            · replace H993 := ite_t hb997 H993
              refine wp_skip ?_
              refine TN ?_
              refine wp_seq ?_
              refine wp_block ?_
              refine wp_seq ?_
              refine draw (fun w' => Below w996.heap.size w996 w') [] rfl ?_
              intro w998 hw hS; replace hM := hM.ext hS; clear hw
              refine d_takef (i := 0) (L' := #[tT,fF,fF,fF,fF,fF,fF,fF,fF,fF,fF,fF,fF,fF,fF]) rfl (by kernel_rfl) rfl (fun _ _ _ h => h) hA (by decide) (fun _ => hS) (fun a w' hA => run_field' Try.underlying41 rfl rfl Try.sizeOf39 (by decide) (hA.ev rfl)) ?_; clear hA; intro a hA
              refine rebase hS ?_; clear hS; intro hS
              refine d_take (i := 1) (L' := #[tT,tT,fF,fF,fF,fF,fF,fF,fF,fF,fF,fF,fF,fF,fF]) rfl (by kernel_rfl) rfl (fun _ _ _ h => h) hA (by decide) rfl hS (fun a w' hA hS' => run_ld (hA.ev rfl) (run_loadS Try.isAgg39 ((At.seg (segs := [pHash.enc r535.Salt, [(.slice A541 r535.Heard.length c542)], [(.slice A544 r535.Tried.length c545)]]) (hM.box (.s (.s .z))) 1 rfl (by simp [Pl.len]; try rfl)).extB hS'))) ?_; clear hA; intro a hA
              refine d_takef (i := 2) (L' := #[tT,tT,tT,fF,fF,fF,fF,fF,fF,fF,fF,fF,fF,fF,fF]) rfl (by kernel_rfl) rfl (fun _ _ _ h => h) hA (by decide) (fun _ => hS) (fun a w' hA => run_move (hA.ev rfl)) ?_; clear hA; intro a hA
              obtain ⟨⟨hi1000, hj1001⟩, H993⟩ := ite_some H993
              obtain ⟨ad1002, hq1003, hat1004⟩ := Row.elem' (p := pPlace) (RowOk.row (hM.row (p := pPlace) (.s (.s (.s .z))))) (RowOk.len (hM.row (p := pPlace) (.s (.s (.s .z))))) Place.z i986 hi1000 hj1001
              refine d_takef (i := 3) (L' := #[tT,tT,tT,tT,fF,fF,fF,fF,fF,fF,fF,fF,fF,fF,fF]) rfl (by kernel_rfl) rfl (fun _ _ _ h => h) hA (by decide) (fun _ => hS) (fun a w' hA => run_idx Try.underlying39 Try.sizeOf70 (hA.ev rfl) hq1003 (hA.ev rfl) hi1000 hj1001) ?_; clear hA; intro a hA
              refine d_takef (i := 4) (L' := #[tT,tT,tT,tT,tT,fF,fF,fF,fF,fF,fF,fF,fF,fF,fF]) rfl (by kernel_rfl) rfl (fun _ _ _ h => h) hA (by decide) (fun _ => hS) (fun a w' hA => run_field' Try.underlying70 rfl rfl Try.sizeOf46 (by decide) (hA.ev rfl)) ?_; clear hA; intro a hA
              refine d_takef (i := 5) (L' := #[tT,tT,tT,tT,tT,tT,fF,fF,fF,fF,fF,fF,fF,fF,fF]) rfl (by kernel_rfl) rfl (fun _ _ _ h => h) hA (by decide) (fun _ => hS) (fun a w' hA => run_field' Try.underlying46 rfl rfl Try.sizeOf43 (by decide) (hA.ev rfl)) ?_; clear hA; intro a hA
              refine d_take (i := 6) (L' := #[tT,tT,tT,tT,tT,tT,tT,fF,fF,fF,fF,fF,fF,fF,fF]) rfl (by kernel_rfl) rfl (fun _ _ _ h => h) hA (by decide) rfl hS (fun a w' hA hS' => run_ld (hA.ev rfl) (run_loadS Try.isAgg43 ((NAddr.at_Time (Place.at_Addr_ (hat1004))).extB hS'))) ?_; clear hA; intro a hA
              refine d_takef (i := 7) (L' := #[tT,tT,tT,tT,tT,tT,tT,tT,fF,fF,fF,fF,fF,fF,fF]) rfl (by kernel_rfl) rfl (fun _ _ _ h => h) hA (by decide) (fun _ => hS) (fun a w' hA => run_field' Try.underlying41 rfl rfl Try.sizeOf39 (by decide) (hA.ev rfl)) ?_; clear hA; intro a hA
              refine d_take (i := 8) (L' := #[tT,tT,tT,tT,tT,tT,tT,tT,tT,fF,fF,fF,fF,fF,fF]) rfl (by kernel_rfl) rfl (fun _ _ _ h => h) hA (by decide) rfl hS (fun a w' hA hS' => run_ld (hA.ev rfl) (run_loadS Try.isAgg39 ((At.seg (segs := [pHash.enc r535.Salt, [(.slice A541 r535.Heard.length c542)], [(.slice A544 r535.Tried.length c545)]]) (hM.box (.s (.s .z))) 1 rfl (by simp [Pl.len]; try rfl)).extB hS'))) ?_; clear hA; intro a hA
              refine d_takef (i := 9) (L' := #[tT,tT,tT,tT,tT,tT,tT,tT,tT,tT,fF,fF,fF,fF,fF]) rfl (by kernel_rfl) rfl (fun _ _ _ h => h) hA (by decide) (fun _ => hS) (fun a w' hA => run_move (hA.ev rfl)) ?_; clear hA; intro a hA
              obtain ⟨⟨hi1005, hj1006⟩, H993⟩ := ite_some H993
              obtain ⟨ad1007, hq1008, hat1009⟩ := Row.elem' (p := pPlace) (RowOk.row (hM.row (p := pPlace) (.s (.s (.s .z))))) (RowOk.len (hM.row (p := pPlace) (.s (.s (.s .z))))) Place.z least984 hi1005 hj1006
              refine d_takef (i := 10) (L' := #[tT,tT,tT,tT,tT,tT,tT,tT,tT,tT,tT,fF,fF,fF,fF]) rfl (by kernel_rfl) rfl (fun _ _ _ h => h) hA (by decide) (fun _ => hS) (fun a w' hA => run_idx Try.underlying39 Try.sizeOf70 (hA.ev rfl) hq1008 (hA.ev rfl) hi1005 hj1006) ?_; clear hA; intro a hA
              refine d_takef (i := 11) (L' := #[tT,tT,tT,tT,tT,tT,tT,tT,tT,tT,tT,tT,fF,fF,fF]) rfl (by kernel_rfl) rfl (fun _ _ _ h => h) hA (by decide) (fun _ => hS) (fun a w' hA => run_field' Try.underlying70 rfl rfl Try.sizeOf46 (by decide) (hA.ev rfl)) ?_; clear hA; intro a hA
              refine d_takef (i := 12) (L' := #[tT,tT,tT,tT,tT,tT,tT,tT,tT,tT,tT,tT,tT,fF,fF]) rfl (by kernel_rfl) rfl (fun _ _ _ h => h) hA (by decide) (fun _ => hS) (fun a w' hA => run_field' Try.underlying46 rfl rfl Try.sizeOf43 (by decide) (hA.ev rfl)) ?_; clear hA; intro a hA
              refine d_take (i := 13) (L' := #[tT,tT,tT,tT,tT,tT,tT,tT,tT,tT,tT,tT,tT,tT,fF]) rfl (by kernel_rfl) rfl (fun _ _ _ h => h) hA (by decide) rfl hS (fun a w' hA hS' => run_ld (hA.ev rfl) (run_loadS Try.isAgg43 ((NAddr.at_Time (Place.at_Addr_ (hat1009))).extB hS'))) ?_; clear hA; intro a hA
              refine d_takef (i := 14) (L' := #[tT,tT,tT,tT,tT,tT,tT,tT,tT,tT,tT,tT,tT,tT,tT]) rfl (by kernel_rfl) rfl (fun _ _ _ h => h) hA (by decide) (fun _ => hS) (fun a w' hA => run_bin (hA.ev rfl) (hA.ev rfl) (bin_lss _ _ _ _)) ?_; clear hA; intro a hA
              refine d_done (by kernel_rfl) ?_
              refine TN ?_
              obtain ⟨o1020, H1019, H993⟩ := Option.bind_eq_some_iff.1 H993
              refine cutC (fun a w => ∃ (least1017 : Int), least1017 = o1020 ∧ Mem F w0 w [.box g529 46 (pNAddr.enc a_1), .box g532 41 (List.flatten [pHash.enc (Vector.replicate 32 0 : Vector Int 32), [(.slice none 0 0)], [(.slice none 0 0)]]), .box g546 41 (List.flatten [pHash.enc r535.Salt, [(.slice A541 r535.Heard.length c542)], [(.slice A544 r535.Tried.length c545)]]), .row 70 pPlace.sz (.slice A541 r535.Heard.length c542) (pPlace.flat r535.Heard), .row 70 pPlace.sz (.slice A544 r535.Tried.length c545) (pPlace.flat r535.Tried), .box g607 70 (pPlace.enc x608)] ∧ Has 129 [(4, (.pointer (some (⟨g529, 0, none⟩)))), (6, (.pointer (some (⟨g532, 0, none⟩)))), (8, (.pointer (some (⟨g546, 0, none⟩)))), (11, (.pointer (some (⟨g607, 0, none⟩)))), (13, (.int .i64 r628.2)), (14, (.int .i64 least1017)), (15, (.int .i64 i986))] a) ?_ ?_
              · refine tcond (b := (decide ((((r535.Heard.getD i986.toNat Place.z).Addr_).Time) < (((r535.Heard.getD least984.toNat Place.z).Addr_).Time)))) hA rfl (fun hb1021 => ?_) (fun hb1021 => ?_)
                · replace H1019 := ite_t hb1021 H1019
                  refine wp_region_lit ?_
                  refine L1 (stv hA (by decide) (run_move (hA.ev rfl)) ?_)
                  clear hA; intro a hA
                  refine L1 (stv hA (by decide) (run_assign (hA.ev rfl)) ?_)
                  clear hA; intro a hA
                  refine LQ ?_
                  exact ⟨i986, Option.some.inj H1019, hM, (((((((hA.nil.cons (hA.get 15 _ rfl)).cons (hA.get 14 _ rfl)).cons (hA.get 13 _ rfl)).cons (hA.get 11 _ rfl)).cons (hA.get 8 _ rfl)).cons (hA.get 6 _ rfl)).cons (hA.get 4 _ rfl))⟩
                · replace H1019 := ite_f hb1021 H1019
                  refine wp_skip ?_
                  exact ⟨least984, Option.some.inj H1019, hM, (((((((hA.nil.cons (hA.get 15 _ rfl)).cons (hA.get 14 _ rfl)).cons (hA.get 13 _ rfl)).cons (hA.get 11 _ rfl)).cons (hA.get 8 _ rfl)).cons (hA.get 6 _ rfl)).cons (hA.get 4 _ rfl))⟩
              clear hM hA
              rintro a w1022 ⟨least1017, rfl, hM, hA⟩
              try dsimp only at H993
              refine BN ?_
              refine TN ?_
              refine wp_region_lit ?_
              refine L1 (stv hA (by decide) (run_move (hA.ev rfl)) ?_)
              clear hA; intro a hA
              refine L1 (stv hA (by decide) (run_bin (hA.ev rfl) (hA.ev rfl) (bin_add _ _ _ _)) ?_)
              clear hA; intro a hA
              refine L1 (stv hA (by decide) (run_assign (hA.ev rfl)) ?_)
              clear hA; intro a hA
              refine LQ ?_
              exact ⟨_, Nat.lt_succ_self m995, least1017, IntKind.i64.wrap (i986 + 1), H993, hM, (((((((hA.nil.cons (hA.get 15 _ rfl)).cons (hA.get 14 _ rfl)).cons (hA.get 13 _ rfl)).cons (hA.get 11 _ rfl)).cons (hA.get 8 _ rfl)).cons (hA.get 6 _ rfl)).cons (hA.get 4 _ rfl))⟩
            · replace H993 := ite_f hb997 H993
              refine wp_exit ?_
              refine TX ?_
              refine TX ?_
              refine BX ?_
              exact ⟨least984, Option.some.inj H993, hM, (((((hA.nil.cons (hA.get 14 _ rfl)).cons (hA.get 11 _ rfl)).cons (hA.get 8 _ rfl)).cons (hA.get 6 _ rfl)).cons (hA.get 4 _ rfl))⟩
          clear hM hA
          rintro a w1023 ⟨least992, rfl, hM, hA⟩
          try dsimp only at H839
          refine TN ?_
          refine wp_seq ?_
          refine wp_seq ?_
          refine draw (fun w' => Below w1023.heap.size w1023 w') [] rfl ?_
          intro w1024 hw hS; replace hM := hM.ext hS; clear hw
          refine d_takef (i := 0) (L' := #[tT,fF,fF,fF,fF,fF,fF,fF,fF,fF]) rfl (by kernel_rfl) rfl (fun _ _ _ h => h) hA (by decide) (fun _ => hS) (fun a w' hA => run_field' Try.underlying41 rfl rfl Try.sizeOf39 (by decide) (hA.ev rfl)) ?_; clear hA; intro a hA
          refine rebase hS ?_; clear hS; intro hS
          refine d_take (i := 1) (L' := #[tT,tT,fF,fF,fF,fF,fF,fF,fF,fF]) rfl (by kernel_rfl) rfl (fun _ _ _ h => h) hA (by decide) rfl hS (fun a w' hA hS' => run_ld (hA.ev rfl) (run_loadS Try.isAgg39 ((At.seg (segs := [pHash.enc r535.Salt, [(.slice A541 r535.Heard.length c542)], [(.slice A544 r535.Tried.length c545)]]) (hM.box (.s (.s .z))) 1 rfl (by simp [Pl.len]; try rfl)).extB hS'))) ?_; clear hA; intro a hA
          refine d_takef (i := 2) (L' := #[tT,tT,tT,fF,fF,fF,fF,fF,fF,fF]) rfl (by kernel_rfl) rfl (fun _ _ _ h => h) hA (by decide) (fun _ => hS) (fun a w' hA => run_move (hA.ev rfl)) ?_; clear hA; intro a hA
          obtain ⟨⟨hi1026, hj1027⟩, H839⟩ := ite_some H839
          obtain ⟨ad1028, hq1029, hat1030⟩ := Row.elem' (p := pPlace) (RowOk.row (hM.row (p := pPlace) (.s (.s (.s .z))))) (RowOk.len (hM.row (p := pPlace) (.s (.s (.s .z))))) Place.z least992 hi1026 hj1027
          refine d_takef (i := 3) (L' := #[tT,tT,tT,tT,fF,fF,fF,fF,fF,fF]) rfl (by kernel_rfl) rfl (fun _ _ _ h => h) hA (by decide) (fun _ => hS) (fun a w' hA => run_idx Try.underlying39 Try.sizeOf70 (hA.ev rfl) hq1029 (hA.ev rfl) hi1026 hj1027) ?_; clear hA; intro a hA
          refine d_takef (i := 4) (L' := #[tT,tT,tT,tT,tT,fF,fF,fF,fF,fF]) rfl (by kernel_rfl) rfl (fun _ _ _ h => h) hA (by decide) (fun _ => hS) (fun a w' hA => run_field' Try.underlying70 rfl rfl Try.sizeOf46 (by decide) (hA.ev rfl)) ?_; clear hA; intro a hA
          refine d_takef (i := 5) (L' := #[tT,tT,tT,tT,tT,tT,fF,fF,fF,fF]) rfl (by kernel_rfl) rfl (fun _ _ _ h => h) hA (by decide) (fun _ => hS) (fun a w' hA => run_field' Try.underlying46 rfl rfl Try.sizeOf43 (by decide) (hA.ev rfl)) ?_; clear hA; intro a hA
          refine d_take (i := 6) (L' := #[tT,tT,tT,tT,tT,tT,tT,fF,fF,fF]) rfl (by kernel_rfl) rfl (fun _ _ _ h => h) hA (by decide) rfl hS (fun a w' hA hS' => run_ld (hA.ev rfl) (run_loadS Try.isAgg43 ((NAddr.at_Time (Place.at_Addr_ (hat1030))).extB hS'))) ?_; clear hA; intro a hA
          refine d_takef (i := 7) (L' := #[tT,tT,tT,tT,tT,tT,tT,tT,fF,fF]) rfl (by kernel_rfl) rfl (fun _ _ _ h => h) hA (by decide) (fun _ => hS) (fun a w' hA => run_field' Try.underlying46 rfl rfl Try.sizeOf43 (by decide) (hA.ev rfl)) ?_; clear hA; intro a hA
          refine d_take (i := 8) (L' := #[tT,tT,tT,tT,tT,tT,tT,tT,tT,fF]) rfl (by kernel_rfl) rfl (fun _ _ _ h => h) hA (by decide) rfl hS (fun a w' hA hS' => run_ld (hA.ev rfl) (run_loadS Try.isAgg43 ((NAddr.at_Time (hM.box .z)).extB hS'))) ?_; clear hA; intro a hA
          refine d_takef (i := 9) (L' := #[tT,tT,tT,tT,tT,tT,tT,tT,tT,tT]) rfl (by kernel_rfl) rfl (fun _ _ _ h => h) hA (by decide) (fun _ => hS) (fun a w' hA => run_bin (hA.ev rfl) (hA.ev rfl) (bin_geq _ _ _ _)) ?_; clear hA; intro a hA
          refine d_done (by kernel_rfl) ?_
          refine TN ?_
          refine tcond (b := (decide ((((r535.Heard.getD least992.toNat Place.z).Addr_).Time) ≥ a_1.Time))) hA rfl (fun hb1031 => ?_) (fun hb1031 => ?_)
          · replace H839 := ite_t hb1031 H839
            refine wp_seq ?_
            refine wp_region_lit ?_
            refine L1 (stv hA (by decide) (run_ld (hA.ev rfl) (run_loadW Try.isAgg41 Try.sizeOf41 (by simp [Pl.len]; try rfl) (hM.box (.s (.s .z))))) ?_)
            clear hA; intro a hA
            refine L1 (e_store (g := g532) (off := 0) (cur := (List.flatten [pHash.enc (Vector.replicate 32 0 : Vector Int 32), [(.slice none 0 0)], [(.slice none 0 0)]])) (cs' := (List.flatten [pHash.enc r535.Salt, [(.slice A541 r535.Heard.length c542)], [(.slice A544 r535.Tried.length c545)]])) hM (.s .z) Try.sizeOf41 hA rfl (by simp [add_mk]) rfl (by first | rfl | (simp [Value.cells, Pl.len]; done) | (simp [Value.cells, Pl.len]; rfl)) (one_flat (one_cons (Pl.one _ _) (one_cons (by simp [Value.oneCell']) (one_cons (by simp [Value.oneCell']) one_nil)))) (by first | exact Nat.le_of_ble_eq_true rfl | (simp [Pl.len]; done) | (simp [Pl.len]; decide)) (spl_all (by first | rfl | (simp [Value.cells, Pl.len]; done) | (simp [Value.cells, Pl.len]; rfl))) ?_)
            clear hM hA; intro w1032  hM hE  a hA
            refine L1 (stv hA (by decide) (run_assign (hA.ev rfl)) ?_)
            clear hA; intro a hA
            refine LQ ?_
            refine TN ?_
            refine wp_ret ?_
            obtain rfl := Option.some.inj H839
            dsimp only at H
            obtain rfl := Option.some.inj H
            refine TR ?_
            refine TR ?_
            refine TR ?_
            exact ret_mix2 (fn := Try.f78) hA rfl (RV.cell rfl (run_loadW Try.isAgg41 Try.sizeOf41 (by simp [Pl.len]; try rfl) (hM.box (.s .z)))) (RV.tmp rfl) ⟨_, rfl, (.slice A541 r535.Heard.length c542), (.slice A544 r535.Tried.length c545), rfl, (hM.sel [3, 4] rfl (by decide))⟩
          · replace H839 := ite_f hb1031 H839
            refine wp_skip ?_
            refine TN ?_
            refine wp_region_lit ?_
            refine L1 (stv hA (by decide) (run_field' Try.underlying41 rfl rfl Try.sizeOf39 (by decide) (hA.ev rfl)) ?_)
            clear hA; intro a hA
            refine L1 (stv hA (by decide) (run_ld (hA.ev rfl) (run_loadS Try.isAgg39 (At.seg (segs := [pHash.enc r535.Salt, [(.slice A541 r535.Heard.length c542)], [(.slice A544 r535.Tried.length c545)]]) (hM.box (.s (.s .z))) 1 rfl (by simp [Pl.len]; try rfl)))) ?_)
            clear hA; intro a hA
            refine L1 (stv hA (by decide) (run_move (hA.ev rfl)) ?_)
            clear hA; intro a hA
            obtain ⟨r1033, H1034, H839⟩ := Option.bind_eq_some_iff.1 H839
            refine L1 (st_call Try.call74 hA [(.slice A541 r535.Heard.length c542), (.int .i64 least992)] rfl (by decide) (ref38_remove.calls _ _ _ _ _ _ _ ((hM.roV (p := pPlace) (Ms := []) (.s (.s (.s .z))))) (hM.front (Ms := [])) H1034) ?_)
            clear hA; rintro _ w1035 ⟨v1036, rfl, hMc⟩ a hA
            have hE := hMc.below; have hM := hM.call (Ms := []) hMc
            clear hMc; simp only [List.cons_append, List.nil_append] at hM
            obtain ⟨A1038, c1039, rfl⟩ := RowOk.form (hM.row (p := pPlace) .z)
            refine L1 (stv hA (by decide) (run_field' Try.underlying41 rfl rfl Try.sizeOf39 (by decide) (hA.ev rfl)) ?_)
            clear hA; intro a hA
            refine L1 (e_store (g := g546) (off := 32) (cur := (List.flatten [pHash.enc r535.Salt, [(.slice A541 r535.Heard.length c542)], [(.slice A544 r535.Tried.length c545)]])) (cs' := (List.flatten [pHash.enc r535.Salt, [(.slice A1038 r1033.length c1039)], [(.slice A544 r535.Tried.length c545)]])) hM (.s (.s (.s .z))) Try.sizeOf39 hA rfl (by simp [add_mk]) rfl (by first | rfl | (simp [Value.cells, Pl.len]; done) | (simp [Value.cells, Pl.len]; rfl)) (one_val rfl) (by first | exact Nat.le_of_ble_eq_true rfl | (simp [Pl.len]; done) | (simp [Pl.len]; decide)) (spl_seg [pHash.enc r535.Salt, [(.slice A541 r535.Heard.length c542)], [(.slice A544 r535.Tried.length c545)]] 1 _ _ rfl (by simp [Pl.len]; try rfl) (by first | rfl | (simp [Value.cells, Pl.len]; done) | (simp [Value.cells, Pl.len]; rfl))) ?_)
            clear hM hA; intro w1040  hM hE  a hA
            refine LQ ?_
            exact ⟨r1033, (.slice A1038 r1033.length c1039), Option.some.inj H839, (hM.sel [2, 3, 0, 5, 6] rfl (by decide)), (((hA.nil.cons (hA.get 11 _ rfl)).cons (hA.get 8 _ rfl)).cons (hA.get 6 _ rfl))⟩
        · replace H839 := ite_f hb841 H839
          refine wp_skip ?_
          exact ⟨r535.Heard, (.slice A541 r535.Heard.length c542), Option.some.inj H839, (hM.sel [1, 2, 3, 4, 5] rfl (by decide)), (((hA.nil.cons (hA.get 11 _ rfl)).cons (hA.get 8 _ rfl)).cons (hA.get 6 _ rfl))⟩
      clear hM hA
      rintro a w1041 ⟨xs837, v834, rfl, hM, hA⟩
      try dsimp only at H
      obtain ⟨A835, c836, rfl⟩ := RowOk.form (hM.row (p := pPlace) (.s (.s .z)))
      refine TN ?_
      refine wp_seq ?_
      refine wp_region_lit ?_
      refine L1 (stv hA (by decide) (run_field' Try.underlying41 rfl rfl Try.sizeOf39 (by decide) (hA.ev rfl)) ?_)
      clear hA; intro a hA
      refine L1 (stv hA (by decide) (run_ld (hA.ev rfl) (run_loadS Try.isAgg39 (At.seg (segs := [pHash.enc r535.Salt, [(.slice A835 xs837.length c836)], [(.slice A544 r535.Tried.length c545)]]) (hM.box (.s .z)) 1 rfl (by simp [Pl.len]; try rfl)))) ?_)
      clear hA; intro a hA
      refine L1 (stv hA (by decide) (run_ld (hA.ev rfl) (run_loadP Try.isAgg70 Try.sizeOf70 (hM.box (.s (.s (.s (.s .z))))))) ?_)
      clear hA; intro a hA
      obtain ⟨r1042, H1043, H⟩ := Option.bind_eq_some_iff.1 H
      refine L1 (st_call Try.call77 hA [(.slice A835 xs837.length c836), (.agg (pPlace.enc x608).toArray)] rfl (by decide) (ref38_insert.calls _ _ _ _ _ _ _ ((hM.roV (p := pPlace) (Ms := []) (.s (.s .z)))) (hM.front (Ms := [])) H1043) ?_)
      clear hA; rintro _ w1044 ⟨v1045, rfl, hMc⟩ a hA
      have hE := hMc.below; have hM := hM.call (Ms := []) hMc
      clear hMc; simp only [List.cons_append, List.nil_append] at hM
      obtain ⟨A1047, c1048, rfl⟩ := RowOk.form (hM.row (p := pPlace) .z)
      refine L1 (stv hA (by decide) (run_field' Try.underlying41 rfl rfl Try.sizeOf39 (by decide) (hA.ev rfl)) ?_)
      clear hA; intro a hA
      refine L1 (e_store (g := g546) (off := 32) (cur := (List.flatten [pHash.enc r535.Salt, [(.slice A835 xs837.length c836)], [(.slice A544 r535.Tried.length c545)]])) (cs' := (List.flatten [pHash.enc r535.Salt, [(.slice A1047 r1042.length c1048)], [(.slice A544 r535.Tried.length c545)]])) hM (.s (.s .z)) Try.sizeOf39 hA rfl (by simp [add_mk]) rfl (by first | rfl | (simp [Value.cells, Pl.len]; done) | (simp [Value.cells, Pl.len]; rfl)) (one_val rfl) (by first | exact Nat.le_of_ble_eq_true rfl | (simp [Pl.len]; done) | (simp [Pl.len]; decide)) (spl_seg [pHash.enc r535.Salt, [(.slice A835 xs837.length c836)], [(.slice A544 r535.Tried.length c545)]] 1 _ _ rfl (by simp [Pl.len]; try rfl) (by first | rfl | (simp [Value.cells, Pl.len]; done) | (simp [Value.cells, Pl.len]; rfl))) ?_)
      clear hM hA; intro w1049  hM hE  a hA
      refine LQ ?_
      refine TN ?_
      refine wp_seq ?_
      refine wp_region_lit ?_
      refine L1 (stv hA (by decide) (run_ld (hA.ev rfl) (run_loadW Try.isAgg41 Try.sizeOf41 (by simp [Pl.len]; try rfl) (hM.box (.s (.s .z))))) ?_)
      clear hA; intro a hA
      refine L1 (e_store (g := g532) (off := 0) (cur := (List.flatten [pHash.enc (Vector.replicate 32 0 : Vector Int 32), [(.slice none 0 0)], [(.slice none 0 0)]])) (cs' := (List.flatten [pHash.enc r535.Salt, [(.slice A1047 r1042.length c1048)], [(.slice A544 r535.Tried.length c545)]])) hM (.s .z) Try.sizeOf41 hA rfl (by simp [add_mk]) rfl (by first | rfl | (simp [Value.cells, Pl.len]; done) | (simp [Value.cells, Pl.len]; rfl)) (one_flat (one_cons (Pl.one _ _) (one_cons (by simp [Value.oneCell']) (one_cons (by simp [Value.oneCell']) one_nil)))) (by first | exact Nat.le_of_ble_eq_true rfl | (simp [Pl.len]; done) | (simp [Pl.len]; decide)) (spl_all (by first | rfl | (simp [Value.cells, Pl.len]; done) | (simp [Value.cells, Pl.len]; rfl))) ?_)
      clear hM hA; intro w1050  hM hE  a hA
      refine L1 (stv hA (by decide) (run_assign (hA.ev rfl)) ?_)
      clear hA; intro a hA
      refine LQ ?_
      refine TN ?_
      refine wp_ret ?_
      obtain rfl := Option.some.inj H
      exact ret_mix2 (fn := Try.f78) hA rfl (RV.cell rfl (run_loadW Try.isAgg41 Try.sizeOf41 (by simp [Pl.len]; try rfl) (hM.box (.s .z)))) (RV.tmp rfl) ⟨_, rfl, (.slice A1047 r1042.length c1048), (.slice A544 r535.Tried.length c545), rfl, (hM.sel [0, 4] rfl (by decide))⟩

def ref38_Good.f (k : Nat) (b_0 : Book) (a_1 : NAddr) : Option (Book × Int) := ((ref38_Sound.f k (Book.mk b_0.Salt b_0.Heard b_0.Tried)).bind fun r176 => (if (!r176) = true then (some ((Book.mk (Vector.replicate 32 0 : Vector Int 32) ([] : List Place) ([] : List Place)), 6)) else ((ref38_find.f k b_0.Heard a_1).bind fun r183 => (if (decide (r183 < 0)) = true then (some ((Book.mk (Vector.replicate 32 0 : Vector Int 32) ([] : List Place) ([] : List Place)), 9)) else ((ref38_Copied.f k (Book.mk b_0.Salt b_0.Heard b_0.Tried)).bind fun r190 => (if 0 ≤ r183 ∧ r183 < ((r190.Heard.length : Nat) : Int) then ((ref38_remove.f k r190.Heard r183).bind fun r214 => ((ref38_TriedBucket.f k b_0.Salt ((r190.Heard.getD r183.toNat Place.z).Addr_)).bind fun r222 => ((ref38_inside.f k r190.Tried r222).bind fun r226 => (Option.bind (α := (List Place) × NAddr) (if (decide ((IntKind.i64.wrap (r226.2 - r226.1)) ≥ 8)) = true then (if 0 ≤ r226.1 ∧ r226.1 < ((r190.Tried.length : Nat) : Int) then ((ref38_remove.f k r190.Tried r226.1).bind fun r267 => (some (r267, (r190.Tried.getD r226.1.toNat Place.z).Addr_))) else none) else (some (r190.Tried, NAddr.z))) (fun st => match st with | (xs253, x256) => ((ref38_insert.f k xs253 (Place.mk r222 ((r190.Heard.getD r183.toNat Place.z).Addr_) ((r190.Heard.getD r183.toNat Place.z).Source))).bind fun r276 => (Option.bind (α := (Vector Int 32) × (List Place) × (List Place)) (if (decide ((IntKind.i64.wrap (r226.2 - r226.1)) ≥ 8)) = true then ((ref38_Group.f k x256).bind fun r320 => ((ref38_hear.f k (Book.mk r190.Salt r214 r276) x256 r320).bind fun r323 => (some (r323.1.Salt, r323.1.Heard, r323.1.Tried)))) else (some (r190.Salt, r214, r276))) (fun st => match st with | (x304, xs309, xs314) => (some ((Book.mk x304 xs309 xs314), 0)))))))))) else none))))))
set_option maxHeartbeats 2000000 in
set_option maxRecDepth 100000 in
theorem ref38_Good.calls (k : Nat) (b_0 : Book) (a_1 : NAddr) (F : List (Option Nat)) (v0_1 : Value) (v0_2 : Value) (r : (Book × Int)) (w0 : World) (h0_1 : RoV F pPlace w0 v0_1 b_0.Heard) (h0_2 : RoV F pPlace w0 v0_2 b_0.Tried) (hM : Mem F w0 w0 []) (H : ref38_Good.f k b_0 a_1 = some r) :
    Calls Try.prog 47 #[(.agg (List.flatten [pHash.enc b_0.Salt, [v0_1], [v0_2]]).toArray), (.agg (pNAddr.enc a_1).toArray)] w0 fun e w' => ∃ v, e = .returned v ∧ ∃ (ur_0_1 : Value) (ur_0_2 : Value), v = (.tuple #[(.agg (List.flatten [pHash.enc r.1.Salt, [ur_0_1], [ur_0_2]]).toArray), (.int .i64 r.2)]) ∧ Mem F w0 w' [.row 70 pPlace.sz ur_0_1 (pPlace.flat r.1.Heard), .row 70 pPlace.sz ur_0_2 (pPlace.flat r.1.Tried)] := by
  unfold ref38_Good.f at H
  obtain ⟨A0_1, c0_1, rfl, hr0_1, hc0_1⟩ := h0_1
  obtain ⟨A0_2, c0_2, rfl, hr0_2, hc0_2⟩ := h0_2
  refine enterL (n := 81) [(.agg (List.flatten [pHash.enc b_0.Salt, [(.slice A0_1 b_0.Heard.length c0_1)], [(.slice A0_2 b_0.Tried.length c0_2)]]).toArray), (.agg (pNAddr.enc a_1).toArray)] Try.func47 rfl rfl rfl ?_
  intro a hA
  refine wp_seq ?_
  refine wp_region_lit ?_
  refine L1 (e_box (cs := (List.flatten [pHash.enc b_0.Salt, [(.slice A0_1 b_0.Heard.length c0_1)], [(.slice A0_2 b_0.Tried.length c0_2)]])) hM hA rfl rfl (by decide) ?_)
  clear hM hA; intro w168 g167 hM hE  a hA
  refine L1 (e_box (cs := (pNAddr.enc a_1)) hM hA rfl rfl (by decide) ?_)
  clear hM hA; intro w171 g170 hM hE  a hA
  refine L1 (e_alloc (cs := (List.flatten [pHash.enc (Vector.replicate 32 0 : Vector Int 32), [(.slice none 0 0)], [(.slice none 0 0)]])) hM zero41 rfl hA (by decide) ?_)
  clear hM hA; intro w174 g173 hM hE  a hA
  refine L1 (stv hA (by decide) (run_assign (hA.ev rfl)) ?_)
  clear hA; intro a hA
  refine LQ ?_
  refine TN ?_
  refine wp_seq ?_
  refine wp_seq ?_
  refine wp_region_lit ?_
  refine L1 (stv hA (by decide) (run_ld (hA.ev rfl) (run_loadW Try.isAgg41 Try.sizeOf41 (by simp [Pl.len]; try rfl) (hM.box (.s (.s .z))))) ?_)
  clear hA; intro a hA
  obtain ⟨r176, H177, H⟩ := Option.bind_eq_some_iff.1 H
  refine L1 (st_call Try.call71 hA [(.agg (List.flatten [pHash.enc b_0.Salt, [(.slice A0_1 b_0.Heard.length c0_1)], [(.slice A0_2 b_0.Tried.length c0_2)]]).toArray)] rfl (by decide) (ref38_Sound.calls _ (Book.mk b_0.Salt b_0.Heard b_0.Tried) _ _ _ _ _ ((RoV.mk (hM.roC (Ms := []) hr0_1) (Eq.refl b_0.Heard.length) hc0_1)) ((RoV.mk (hM.roC (Ms := []) hr0_2) (Eq.refl b_0.Tried.length) hc0_2)) (hM.front (Ms := [])) H177) ?_)
  clear hA; rintro _ w178 ⟨rfl, hMc⟩ a hA
  have hE := hMc.below; have hM := hM.call (Ms := []) hMc
  clear hMc; simp only [List.cons_append, List.nil_append] at hM
  refine L1 (stv hA (by decide) (run_not (hA.ev rfl)) ?_)
  clear hA; intro a hA
  refine LQ ?_
  refine TN ?_
  refine tcond (b := (!r176)) hA rfl (fun hb179 => ?_) (fun hb179 => ?_)
  · replace H := ite_t hb179 H
    refine wp_seq ?_
    refine wp_region_lit ?_
    refine L1 (stv hA (by decide) (run_build (cells := (List.flatten [pHash.enc (Vector.replicate 32 0 : Vector Int 32), [(.slice none 0 0)], [(.slice none 0 0)]]).toArray) [] zero41 Try.underlying41 (ss := [32, 1, 1]) ⟨Try.sizeOf33, Try.sizeOf39, Try.sizeOf39, trivial⟩ hA rfl (fill_nilS)) ?_)
    clear hA; intro a hA
    refine L1 (e_store (g := g173) (off := 0) (cur := (List.flatten [pHash.enc (Vector.replicate 32 0 : Vector Int 32), [(.slice none 0 0)], [(.slice none 0 0)]])) (cs' := (List.flatten [pHash.enc (Vector.replicate 32 0 : Vector Int 32), [(.slice none 0 0)], [(.slice none 0 0)]])) hM .z Try.sizeOf41 hA rfl (by simp [add_mk]) rfl (by first | rfl | (simp [Value.cells, Pl.len]; done) | (simp [Value.cells, Pl.len]; rfl)) (one_flat (one_cons (Pl.one _ _) (one_cons (by simp [Value.oneCell']) (one_cons (by simp [Value.oneCell']) one_nil)))) (by first | exact Nat.le_of_ble_eq_true rfl | (simp [Pl.len]; done) | (simp [Pl.len]; decide)) (spl_all (by first | rfl | (simp [Value.cells, Pl.len]; done) | (simp [Value.cells, Pl.len]; rfl))) ?_)
    clear hM hA; intro w180  hM hE  a hA
    refine L1 (stv hA (by decide) (run_assign (hA.ev rfl)) ?_)
    clear hA; intro a hA
    refine LQ ?_
    refine TN ?_
    refine wp_ret ?_
    have hM := hM.addnil 70 (pPlace).sz
    have hM := hM.addnil 70 (pPlace).sz
    obtain rfl := Option.some.inj H
    refine TR ?_
    exact ret_mix2 (fn := Try.f47) hA rfl (RV.cell rfl (run_loadW Try.isAgg41 Try.sizeOf41 (by simp [Pl.len]; try rfl) (hM.box (.s (.s .z))))) (RV.tmp rfl) ⟨_, rfl, (.slice none 0 0), (.slice none 0 0), rfl, (hM.sel [1, 0] rfl (by decide))⟩
  · replace H := ite_f hb179 H
    refine wp_skip ?_
    refine TN ?_
    refine wp_seq ?_
    refine wp_region_lit ?_
    refine L1 (stv hA (by decide) (run_field' Try.underlying41 rfl rfl Try.sizeOf39 (by decide) (hA.ev rfl)) ?_)
    clear hA; intro a hA
    refine L1 (stv hA (by decide) (run_ld (hA.ev rfl) (run_loadS Try.isAgg39 (At.seg (segs := [pHash.enc b_0.Salt, [(.slice A0_1 b_0.Heard.length c0_1)], [(.slice A0_2 b_0.Tried.length c0_2)]]) (hM.box (.s (.s .z))) 1 rfl (by simp [Pl.len]; try rfl)))) ?_)
    clear hA; intro a hA
    refine L1 (stv hA (by decide) (run_ld (hA.ev rfl) (run_loadP Try.isAgg46 Try.sizeOf46 (hM.box (.s .z)))) ?_)
    clear hA; intro a hA
    obtain ⟨r183, H184, H⟩ := Option.bind_eq_some_iff.1 H
    refine L1 (st_call Try.call72 hA [(.slice A0_1 b_0.Heard.length c0_1), (.agg (pNAddr.enc a_1).toArray)] rfl (by decide) (ref38_find.calls _ _ _ _ _ _ _ ((RoV.mk (hM.roC (Ms := []) hr0_1) (Eq.refl b_0.Heard.length) hc0_1)) (hM.front (Ms := [])) H184) ?_)
    clear hA; rintro _ w185 ⟨rfl, hMc⟩ a hA
    have hE := hMc.below; have hM := hM.call (Ms := []) hMc
    clear hMc; simp only [List.cons_append, List.nil_append] at hM
    refine L1 (stv hA (by decide) (run_assign (hA.ev rfl)) ?_)
    clear hA; intro a hA
    refine LQ ?_
    refine TN ?_
    refine wp_seq ?_
    refine wp_seq ?_
    refine wp_region_lit ?_
    refine L1 (stv hA (by decide) (run_move (hA.ev rfl)) ?_)
    clear hA; intro a hA
    refine L1 (stv hA (by decide) (run_bin (hA.ev rfl) (hA.ev rfl) (bin_lss _ _ _ _)) ?_)
    clear hA; intro a hA
    refine LQ ?_
    refine TN ?_
    refine tcond (b := (decide (r183 < 0))) hA rfl (fun hb186 => ?_) (fun hb186 => ?_)
    · replace H := ite_t hb186 H
      refine wp_seq ?_
      refine wp_region_lit ?_
      refine L1 (stv hA (by decide) (run_build (cells := (List.flatten [pHash.enc (Vector.replicate 32 0 : Vector Int 32), [(.slice none 0 0)], [(.slice none 0 0)]]).toArray) [] zero41 Try.underlying41 (ss := [32, 1, 1]) ⟨Try.sizeOf33, Try.sizeOf39, Try.sizeOf39, trivial⟩ hA rfl (fill_nilS)) ?_)
      clear hA; intro a hA
      refine L1 (e_store (g := g173) (off := 0) (cur := (List.flatten [pHash.enc (Vector.replicate 32 0 : Vector Int 32), [(.slice none 0 0)], [(.slice none 0 0)]])) (cs' := (List.flatten [pHash.enc (Vector.replicate 32 0 : Vector Int 32), [(.slice none 0 0)], [(.slice none 0 0)]])) hM .z Try.sizeOf41 hA rfl (by simp [add_mk]) rfl (by first | rfl | (simp [Value.cells, Pl.len]; done) | (simp [Value.cells, Pl.len]; rfl)) (one_flat (one_cons (Pl.one _ _) (one_cons (by simp [Value.oneCell']) (one_cons (by simp [Value.oneCell']) one_nil)))) (by first | exact Nat.le_of_ble_eq_true rfl | (simp [Pl.len]; done) | (simp [Pl.len]; decide)) (spl_all (by first | rfl | (simp [Value.cells, Pl.len]; done) | (simp [Value.cells, Pl.len]; rfl))) ?_)
      clear hM hA; intro w187  hM hE  a hA
      refine L1 (stv hA (by decide) (run_assign (hA.ev rfl)) ?_)
      clear hA; intro a hA
      refine LQ ?_
      refine TN ?_
      refine wp_ret ?_
      have hM := hM.addnil 70 (pPlace).sz
      have hM := hM.addnil 70 (pPlace).sz
      obtain rfl := Option.some.inj H
      refine TR ?_
      exact ret_mix2 (fn := Try.f47) hA rfl (RV.cell rfl (run_loadW Try.isAgg41 Try.sizeOf41 (by simp [Pl.len]; try rfl) (hM.box (.s (.s .z))))) (RV.tmp rfl) ⟨_, rfl, (.slice none 0 0), (.slice none 0 0), rfl, (hM.sel [1, 0] rfl (by decide))⟩
    · replace H := ite_f hb186 H
      refine wp_skip ?_
      refine TN ?_
      refine wp_seq ?_
      refine wp_region_lit ?_
      refine L1 (stv hA (by decide) (run_ld (hA.ev rfl) (run_loadW Try.isAgg41 Try.sizeOf41 (by simp [Pl.len]; try rfl) (hM.box (.s (.s .z))))) ?_)
      clear hA; intro a hA
      obtain ⟨r190, H191, H⟩ := Option.bind_eq_some_iff.1 H
      refine L1 (st_call Try.call73 hA [(.agg (List.flatten [pHash.enc b_0.Salt, [(.slice A0_1 b_0.Heard.length c0_1)], [(.slice A0_2 b_0.Tried.length c0_2)]]).toArray)] rfl (by decide) (ref38_Copied.calls _ (Book.mk b_0.Salt b_0.Heard b_0.Tried) _ _ _ _ _ ((RoV.mk (hM.roC (Ms := []) hr0_1) (Eq.refl b_0.Heard.length) hc0_1)) ((RoV.mk (hM.roC (Ms := []) hr0_2) (Eq.refl b_0.Tried.length) hc0_2)) (hM.front (Ms := [])) H191) ?_)
      clear hA; rintro _ w192 ⟨v193, v194, rfl, hMc⟩ a hA
      have hE := hMc.below; have hM := hM.call (Ms := []) hMc
      clear hMc; simp only [List.cons_append, List.nil_append] at hM
      obtain ⟨A196, c197, rfl⟩ := RowOk.form (hM.row (p := pPlace) .z)
      obtain ⟨A199, c200, rfl⟩ := RowOk.form (hM.row (p := pPlace) (.s .z))
      refine L1 (e_alloc (cs := (List.flatten [pHash.enc (Vector.replicate 32 0 : Vector Int 32), [(.slice none 0 0)], [(.slice none 0 0)]])) hM zero41 rfl hA (by decide) ?_)
      clear hM hA; intro w202 g201 hM hE  a hA
      refine L1 (e_store (g := g201) (off := 0) (cur := (List.flatten [pHash.enc (Vector.replicate 32 0 : Vector Int 32), [(.slice none 0 0)], [(.slice none 0 0)]])) (cs' := (List.flatten [pHash.enc r190.Salt, [(.slice A196 r190.Heard.length c197)], [(.slice A199 r190.Tried.length c200)]])) hM .z Try.sizeOf41 hA rfl (by simp [add_mk]) rfl (by first | rfl | (simp [Value.cells, Pl.len]; done) | (simp [Value.cells, Pl.len]; rfl)) (one_flat (one_cons (Pl.one _ _) (one_cons (by simp [Value.oneCell']) (one_cons (by simp [Value.oneCell']) one_nil)))) (by first | exact Nat.le_of_ble_eq_true rfl | (simp [Pl.len]; done) | (simp [Pl.len]; decide)) (spl_all (by first | rfl | (simp [Value.cells, Pl.len]; done) | (simp [Value.cells, Pl.len]; rfl))) ?_)
      clear hM hA; intro w204  hM hE  a hA
      refine LQ ?_
      refine TN ?_
      refine wp_seq ?_
      refine wp_region_lit ?_
      refine L1 (stv hA (by decide) (run_field' Try.underlying41 rfl rfl Try.sizeOf39 (by decide) (hA.ev rfl)) ?_)
      clear hA; intro a hA
      refine L1 (stv hA (by decide) (run_ld (hA.ev rfl) (run_loadS Try.isAgg39 (At.seg (segs := [pHash.enc r190.Salt, [(.slice A196 r190.Heard.length c197)], [(.slice A199 r190.Tried.length c200)]]) (hM.box .z) 1 rfl (by simp [Pl.len]; try rfl)))) ?_)
      clear hA; intro a hA
      refine L1 (stv hA (by decide) (run_move (hA.ev rfl)) ?_)
      clear hA; intro a hA
      obtain ⟨⟨hi205, hj206⟩, H⟩ := ite_some H
      obtain ⟨ad207, hq208, hat209⟩ := Row.elem' (p := pPlace) (RowOk.row (hM.row (p := pPlace) (.s .z))) (RowOk.len (hM.row (p := pPlace) (.s .z))) Place.z r183 hi205 hj206
      refine L1 (stv hA (by decide) (run_idx Try.underlying39 Try.sizeOf70 (hA.ev rfl) hq208 (hA.ev rfl) hi205 hj206) ?_)
      clear hA; intro a hA
      refine L1 (stv hA (by decide) (run_ld (hA.ev rfl) (run_loadP Try.isAgg70 Try.sizeOf70 hat209)) ?_)
      clear hA; intro a hA
      refine L1 (e_alloc (cs := (pPlace.enc Place.z)) hM zero70 rfl hA (by decide) ?_)
      clear hM hA; intro w211 g210 hM hE  a hA
      refine L1 (e_store (g := g210) (off := 0) (cur := (pPlace.enc Place.z)) (cs' := (pPlace.enc (r190.Heard.getD r183.toNat Place.z))) hM .z Try.sizeOf70 hA rfl (by simp [add_mk]) rfl (agg_size _ _) (agg_one _ _) (Nat.le_of_ble_eq_true (enc_fitL _ _ rfl)) (spl_all (by first | rfl | (simp [Value.cells, Pl.len]; done) | (simp [Value.cells, Pl.len]; rfl))) ?_)
      clear hM hA; intro w213  hM hE  a hA
      refine LQ ?_
      refine TN ?_
      refine wp_seq ?_
      refine wp_region_lit ?_
      refine L1 (stv hA (by decide) (run_field' Try.underlying41 rfl rfl Try.sizeOf39 (by decide) (hA.ev rfl)) ?_)
      clear hA; intro a hA
      refine L1 (stv hA (by decide) (run_ld (hA.ev rfl) (run_loadS Try.isAgg39 (At.seg (segs := [pHash.enc r190.Salt, [(.slice A196 r190.Heard.length c197)], [(.slice A199 r190.Tried.length c200)]]) (hM.box (.s .z)) 1 rfl (by simp [Pl.len]; try rfl)))) ?_)
      clear hA; intro a hA
      refine L1 (stv hA (by decide) (run_move (hA.ev rfl)) ?_)
      clear hA; intro a hA
      obtain ⟨r214, H215, H⟩ := Option.bind_eq_some_iff.1 H
      refine L1 (st_call Try.call74 hA [(.slice A196 r190.Heard.length c197), (.int .i64 r183)] rfl (by decide) (ref38_remove.calls _ _ _ _ _ _ _ ((hM.roV (p := pPlace) (Ms := []) (.s (.s .z)))) (hM.front (Ms := [])) H215) ?_)
      clear hA; rintro _ w216 ⟨v217, rfl, hMc⟩ a hA
      have hE := hMc.below; have hM := hM.call (Ms := []) hMc
      clear hMc; simp only [List.cons_append, List.nil_append] at hM
      obtain ⟨A219, c220, rfl⟩ := RowOk.form (hM.row (p := pPlace) .z)
      refine L1 (stv hA (by decide) (run_field' Try.underlying41 rfl rfl Try.sizeOf39 (by decide) (hA.ev rfl)) ?_)
      clear hA; intro a hA
      refine L1 (e_store (g := g201) (off := 32) (cur := (List.flatten [pHash.enc r190.Salt, [(.slice A196 r190.Heard.length c197)], [(.slice A199 r190.Tried.length c200)]])) (cs' := (List.flatten [pHash.enc r190.Salt, [(.slice A219 r214.length c220)], [(.slice A199 r190.Tried.length c200)]])) hM (.s (.s .z)) Try.sizeOf39 hA rfl (by simp [add_mk]) rfl (by first | rfl | (simp [Value.cells, Pl.len]; done) | (simp [Value.cells, Pl.len]; rfl)) (one_val rfl) (by first | exact Nat.le_of_ble_eq_true rfl | (simp [Pl.len]; done) | (simp [Pl.len]; decide)) (spl_seg [pHash.enc r190.Salt, [(.slice A196 r190.Heard.length c197)], [(.slice A199 r190.Tried.length c200)]] 1 _ _ rfl (by simp [Pl.len]; try rfl) (by first | rfl | (simp [Value.cells, Pl.len]; done) | (simp [Value.cells, Pl.len]; rfl))) ?_)
      clear hM hA; intro w221  hM hE  a hA
      refine LQ ?_
      refine TN ?_
      refine wp_seq ?_
      refine wp_region_lit ?_
      refine L1 (stv hA (by decide) (run_field' Try.underlying41 rfl rfl Try.sizeOf33 (by decide) (hA.ev rfl)) ?_)
      clear hA; intro a hA
      refine L1 (stv hA (by decide) (run_ld (hA.ev rfl) (run_loadP Try.isAgg33 Try.sizeOf33 (At.seg (segs := [pHash.enc b_0.Salt, [(.slice A0_1 b_0.Heard.length c0_1)], [(.slice A0_2 b_0.Tried.length c0_2)]]) (hM.box (.s (.s (.s (.s (.s (.s (.s .z)))))))) 0 rfl (by simp [Pl.len]; try rfl)))) ?_)
      clear hA; intro a hA
      refine L1 (stv hA (by decide) (run_field' Try.underlying70 rfl rfl Try.sizeOf46 (by decide) (hA.ev rfl)) ?_)
      clear hA; intro a hA
      refine L1 (stv hA (by decide) (run_ld (hA.ev rfl) (run_loadP Try.isAgg46 Try.sizeOf46 (Place.at_Addr_ (hM.box (.s .z))))) ?_)
      clear hA; intro a hA
      obtain ⟨r222, H223, H⟩ := Option.bind_eq_some_iff.1 H
      refine L1 (st_call Try.call75 hA [(.agg (pHash.enc b_0.Salt).toArray), (.agg (pNAddr.enc ((r190.Heard.getD r183.toNat Place.z).Addr_)).toArray)] rfl (by decide) (ref38_TriedBucket.calls _ _ _ _ _ _ (hM.front (Ms := [])) H223) ?_)
      clear hA; rintro _ w224 ⟨rfl, hMc⟩ a hA
      have hE := hMc.below; have hM := hM.call (Ms := []) hMc
      clear hMc; simp only [List.cons_append, List.nil_append] at hM
      refine L1 (stv hA (by decide) (run_field' Try.underlying70 rfl rfl Try.sizeOf3 (by decide) (hA.ev rfl)) ?_)
      clear hA; intro a hA
      refine L1 (e_store (g := g210) (off := 0) (cur := (pPlace.enc (r190.Heard.getD r183.toNat Place.z))) (cs' := (pPlace.enc (Place.mk r222 ((r190.Heard.getD r183.toNat Place.z).Addr_) ((r190.Heard.getD r183.toNat Place.z).Source)))) hM (.s .z) Try.sizeOf3 hA rfl (by simp [add_mk]) rfl (by first | rfl | (simp [Value.cells, Pl.len]; done) | (simp [Value.cells, Pl.len]; rfl)) (one_val rfl) (Nat.le_of_ble_eq_true (enc_fitL _ _ rfl)) (Place.spl_Bucket _ _) ?_)
      clear hM hA; intro w225  hM hE  a hA
      refine LQ ?_
      refine TN ?_
      refine wp_seq ?_
      refine wp_region_lit ?_
      refine L1 (stv hA (by decide) (run_field' Try.underlying41 rfl rfl Try.sizeOf39 (by decide) (hA.ev rfl)) ?_)
      clear hA; intro a hA
      refine L1 (stv hA (by decide) (run_ld (hA.ev rfl) (run_loadS Try.isAgg39 (At.seg (segs := [pHash.enc r190.Salt, [(.slice A219 r214.length c220)], [(.slice A199 r190.Tried.length c200)]]) (hM.box (.s (.s .z))) 2 rfl (by simp [Pl.len]; try rfl)))) ?_)
      clear hA; intro a hA
      refine L1 (stv hA (by decide) (run_field' Try.underlying70 rfl rfl Try.sizeOf3 (by decide) (hA.ev rfl)) ?_)
      clear hA; intro a hA
      refine L1 (stv hA (by decide) (run_ld (hA.ev rfl) (run_loadS Try.isAgg3 (Place.at_Bucket (hM.box (.s .z))))) ?_)
      clear hA; intro a hA
      obtain ⟨r226, H227, H⟩ := Option.bind_eq_some_iff.1 H
      refine L1 (st_call Try.call76 hA [(.slice A199 r190.Tried.length c200), (.int .i64 r222)] rfl (by decide) (ref38_inside.calls _ _ _ _ _ _ _ ((hM.roV (p := pPlace) (Ms := []) (.s (.s (.s (.s .z)))))) (hM.front (Ms := [])) H227) ?_)
      clear hA; rintro _ w228 ⟨rfl, hMc⟩ a hA
      have hE := hMc.below; have hM := hM.call (Ms := []) hMc
      clear hMc; simp only [List.cons_append, List.nil_append] at hM
      refine L1 (stv hA (by decide) (run_move (hA.ev rfl)) ?_)
      clear hA; intro a hA
      refine L1 (stv hA (by decide) (run_ext (hA.ev rfl) rfl) ?_)
      clear hA; intro a hA
      refine L1 (stv hA (by decide) (run_ext (hA.ev rfl) rfl) ?_)
      clear hA; intro a hA
      refine L1 (stv hA (by decide) (run_assign (hA.ev rfl)) ?_)
      clear hA; intro a hA
      refine L1 (stv hA (by decide) (run_assign (hA.ev rfl)) ?_)
      clear hA; intro a hA
      refine LQ ?_
      refine TN ?_
      refine wp_seq ?_
      refine wp_region_lit ?_
      refine L1 (e_alloc (cs := (pNAddr.enc NAddr.z)) hM zero46 rfl hA (by decide) ?_)
      clear hM hA; intro w230 g229 hM hE  a hA
      refine LQ ?_
      refine TN ?_
      refine wp_seq ?_
      refine wp_region_lit ?_
      refine L1 (stv hA (by decide) (run_move (hA.ev rfl)) ?_)
      clear hA; intro a hA
      refine L1 (stv hA (by decide) (run_move (hA.ev rfl)) ?_)
      clear hA; intro a hA
      refine L1 (stv hA (by decide) (run_bin (hA.ev rfl) (hA.ev rfl) (bin_sub _ _ _ _)) ?_)
      clear hA; intro a hA
      refine L1 (stv hA (by decide) (run_bin (hA.ev rfl) (hA.ev rfl) (bin_geq _ _ _ _)) ?_)
      clear hA; intro a hA
      refine L1 (stv hA (by decide) (run_assign (hA.ev rfl)) ?_)
      clear hA; intro a hA
      refine LQ ?_
      refine TN ?_
      refine wp_seq ?_
      refine wp_seq ?_
      refine wp_region_lit ?_
      refine L1 (stv hA (by decide) (run_move (hA.ev rfl)) ?_)
      clear hA; intro a hA
      refine LQ ?_
      refine TN ?_
      obtain ⟨o259, H258, H⟩ := Option.bind_eq_some_iff.1 H
      refine cutC (fun a w => ∃ (xs253 : (List Place)) (x256 : NAddr) (v250 : Value), (xs253, x256) = o259 ∧ Mem F w0 w [.box g173 41 (List.flatten [pHash.enc (Vector.replicate 32 0 : Vector Int 32), [(.slice none 0 0)], [(.slice none 0 0)]]), .box g201 41 (List.flatten [pHash.enc r190.Salt, [(.slice A219 r214.length c220)], [v250]]), .row 70 pPlace.sz (.slice A219 r214.length c220) (pPlace.flat r214), .row 70 pPlace.sz v250 (pPlace.flat xs253), .box g210 70 (pPlace.enc (Place.mk r222 ((r190.Heard.getD r183.toNat Place.z).Addr_) ((r190.Heard.getD r183.toNat Place.z).Source))), .box g229 46 (pNAddr.enc x256)] ∧ Has 81 [(4, (.pointer (some (⟨g173, 0, none⟩)))), (7, (.pointer (some (⟨g201, 0, none⟩)))), (8, (.pointer (some (⟨g210, 0, none⟩)))), (11, (.pointer (some (⟨g229, 0, none⟩)))), (12, (.bool (decide ((IntKind.i64.wrap (r226.2 - r226.1)) ≥ 8))))] a) ?_ ?_
      · refine tcond (b := (decide ((IntKind.i64.wrap (r226.2 - r226.1)) ≥ 8))) hA rfl (fun hb260 => ?_) (fun hb260 => ?_)
        · replace H258 := ite_t hb260 H258
          refine wp_seq ?_
          refine wp_region_lit ?_
          refine L1 (stv hA (by decide) (run_field' Try.underlying41 rfl rfl Try.sizeOf39 (by decide) (hA.ev rfl)) ?_)
          clear hA; intro a hA
          refine L1 (stv hA (by decide) (run_ld (hA.ev rfl) (run_loadS Try.isAgg39 (At.seg (segs := [pHash.enc r190.Salt, [(.slice A219 r214.length c220)], [(.slice A199 r190.Tried.length c200)]]) (hM.box (.s (.s (.s .z)))) 2 rfl (by simp [Pl.len]; try rfl)))) ?_)
          clear hA; intro a hA
          refine L1 (stv hA (by decide) (run_move (hA.ev rfl)) ?_)
          clear hA; intro a hA
          obtain ⟨⟨hi261, hj262⟩, H258⟩ := ite_some H258
          obtain ⟨ad263, hq264, hat265⟩ := Row.elem' (p := pPlace) (RowOk.row (hM.row (p := pPlace) (.s (.s (.s (.s (.s .z))))))) (RowOk.len (hM.row (p := pPlace) (.s (.s (.s (.s (.s .z))))))) Place.z r226.1 hi261 hj262
          refine L1 (stv hA (by decide) (run_idx Try.underlying39 Try.sizeOf70 (hA.ev rfl) hq264 (hA.ev rfl) hi261 hj262) ?_)
          clear hA; intro a hA
          refine L1 (stv hA (by decide) (run_field' Try.underlying70 rfl rfl Try.sizeOf46 (by decide) (hA.ev rfl)) ?_)
          clear hA; intro a hA
          refine L1 (stv hA (by decide) (run_ld (hA.ev rfl) (run_loadP Try.isAgg46 Try.sizeOf46 (Place.at_Addr_ (hat265)))) ?_)
          clear hA; intro a hA
          refine L1 (e_store (g := g229) (off := 0) (cur := (pNAddr.enc NAddr.z)) (cs' := (pNAddr.enc ((r190.Tried.getD r226.1.toNat Place.z).Addr_))) hM .z Try.sizeOf46 hA rfl (by simp [add_mk]) rfl (agg_size _ _) (agg_one _ _) (Nat.le_of_ble_eq_true (enc_fitL _ _ rfl)) (spl_all (by first | rfl | (simp [Value.cells, Pl.len]; done) | (simp [Value.cells, Pl.len]; rfl))) ?_)
          clear hM hA; intro w266  hM hE  a hA
          refine LQ ?_
          refine TN ?_
          refine wp_region_lit ?_
          refine L1 (stv hA (by decide) (run_field' Try.underlying41 rfl rfl Try.sizeOf39 (by decide) (hA.ev rfl)) ?_)
          clear hA; intro a hA
          refine L1 (stv hA (by decide) (run_ld (hA.ev rfl) (run_loadS Try.isAgg39 (At.seg (segs := [pHash.enc r190.Salt, [(.slice A219 r214.length c220)], [(.slice A199 r190.Tried.length c200)]]) (hM.box (.s (.s (.s .z)))) 2 rfl (by simp [Pl.len]; try rfl)))) ?_)
          clear hA; intro a hA
          refine L1 (stv hA (by decide) (run_move (hA.ev rfl)) ?_)
          clear hA; intro a hA
          obtain ⟨r267, H268, H258⟩ := Option.bind_eq_some_iff.1 H258
          refine L1 (st_call Try.call74 hA [(.slice A199 r190.Tried.length c200), (.int .i64 r226.1)] rfl (by decide) (ref38_remove.calls _ _ _ _ _ _ _ ((hM.roV (p := pPlace) (Ms := []) (.s (.s (.s (.s (.s .z))))))) (hM.front (Ms := [])) H268) ?_)
          clear hA; rintro _ w269 ⟨v270, rfl, hMc⟩ a hA
          have hE := hMc.below; have hM := hM.call (Ms := []) hMc
          clear hMc; simp only [List.cons_append, List.nil_append] at hM
          obtain ⟨A272, c273, rfl⟩ := RowOk.form (hM.row (p := pPlace) .z)
          refine L1 (stv hA (by decide) (run_field' Try.underlying41 rfl rfl Try.sizeOf39 (by decide) (hA.ev rfl)) ?_)
          clear hA; intro a hA
          refine L1 (e_store (g := g201) (off := 33) (cur := (List.flatten [pHash.enc r190.Salt, [(.slice A219 r214.length c220)], [(.slice A199 r190.Tried.length c200)]])) (cs' := (List.flatten [pHash.enc r190.Salt, [(.slice A219 r214.length c220)], [(.slice A272 r267.length c273)]])) hM (.s (.s (.s (.s .z)))) Try.sizeOf39 hA rfl (by simp [add_mk]) rfl (by first | rfl | (simp [Value.cells, Pl.len]; done) | (simp [Value.cells, Pl.len]; rfl)) (one_val rfl) (by first | exact Nat.le_of_ble_eq_true rfl | (simp [Pl.len]; done) | (simp [Pl.len]; decide)) (spl_seg [pHash.enc r190.Salt, [(.slice A219 r214.length c220)], [(.slice A199 r190.Tried.length c200)]] 2 _ _ rfl (by simp [Pl.len]; try rfl) (by first | rfl | (simp [Value.cells, Pl.len]; done) | (simp [Value.cells, Pl.len]; rfl))) ?_)
          clear hM hA; intro w274  hM hE  a hA
          refine LQ ?_
          exact ⟨r267, (r190.Tried.getD r226.1.toNat Place.z).Addr_, (.slice A272 r267.length c273), Option.some.inj H258, (hM.sel [7, 4, 2, 0, 3, 1] rfl (by decide)), (((((hA.nil.cons (hA.get 12 _ rfl)).cons (hA.get 11 _ rfl)).cons (hA.get 8 _ rfl)).cons (hA.get 7 _ rfl)).cons (hA.get 4 _ rfl))⟩
        · replace H258 := ite_f hb260 H258
          refine wp_skip ?_
          exact ⟨r190.Tried, NAddr.z, (.slice A199 r190.Tried.length c200), Option.some.inj H258, (hM.sel [6, 3, 1, 5, 2, 0] rfl (by decide)), (((((hA.nil.cons (hA.get 12 _ rfl)).cons (hA.get 11 _ rfl)).cons (hA.get 8 _ rfl)).cons (hA.get 7 _ rfl)).cons (hA.get 4 _ rfl))⟩
      clear hM hA
      rintro a w275 ⟨xs253, x256, v250, rfl, hM, hA⟩
      try dsimp only at H
      obtain ⟨A251, c252, rfl⟩ := RowOk.form (hM.row (p := pPlace) (.s (.s (.s .z))))
      refine TN ?_
      refine wp_seq ?_
      refine wp_region_lit ?_
      refine L1 (stv hA (by decide) (run_field' Try.underlying41 rfl rfl Try.sizeOf39 (by decide) (hA.ev rfl)) ?_)
      clear hA; intro a hA
      refine L1 (stv hA (by decide) (run_ld (hA.ev rfl) (run_loadS Try.isAgg39 (At.seg (segs := [pHash.enc r190.Salt, [(.slice A219 r214.length c220)], [(.slice A251 xs253.length c252)]]) (hM.box (.s .z)) 2 rfl (by simp [Pl.len]; try rfl)))) ?_)
      clear hA; intro a hA
      refine L1 (stv hA (by decide) (run_ld (hA.ev rfl) (run_loadP Try.isAgg70 Try.sizeOf70 (hM.box (.s (.s (.s (.s .z))))))) ?_)
      clear hA; intro a hA
      obtain ⟨r276, H277, H⟩ := Option.bind_eq_some_iff.1 H
      refine L1 (st_call Try.call77 hA [(.slice A251 xs253.length c252), (.agg (pPlace.enc (Place.mk r222 ((r190.Heard.getD r183.toNat Place.z).Addr_) ((r190.Heard.getD r183.toNat Place.z).Source))).toArray)] rfl (by decide) (ref38_insert.calls _ _ _ _ _ _ _ ((hM.roV (p := pPlace) (Ms := []) (.s (.s (.s .z))))) (hM.front (Ms := [])) H277) ?_)
      clear hA; rintro _ w278 ⟨v279, rfl, hMc⟩ a hA
      have hE := hMc.below; have hM := hM.call (Ms := []) hMc
      clear hMc; simp only [List.cons_append, List.nil_append] at hM
      obtain ⟨A281, c282, rfl⟩ := RowOk.form (hM.row (p := pPlace) .z)
      refine L1 (stv hA (by decide) (run_field' Try.underlying41 rfl rfl Try.sizeOf39 (by decide) (hA.ev rfl)) ?_)
      clear hA; intro a hA
      refine L1 (e_store (g := g201) (off := 33) (cur := (List.flatten [pHash.enc r190.Salt, [(.slice A219 r214.length c220)], [(.slice A251 xs253.length c252)]])) (cs' := (List.flatten [pHash.enc r190.Salt, [(.slice A219 r214.length c220)], [(.slice A281 r276.length c282)]])) hM (.s (.s .z)) Try.sizeOf39 hA rfl (by simp [add_mk]) rfl (by first | rfl | (simp [Value.cells, Pl.len]; done) | (simp [Value.cells, Pl.len]; rfl)) (one_val rfl) (by first | exact Nat.le_of_ble_eq_true rfl | (simp [Pl.len]; done) | (simp [Pl.len]; decide)) (spl_seg [pHash.enc r190.Salt, [(.slice A219 r214.length c220)], [(.slice A251 xs253.length c252)]] 2 _ _ rfl (by simp [Pl.len]; try rfl) (by first | rfl | (simp [Value.cells, Pl.len]; done) | (simp [Value.cells, Pl.len]; rfl))) ?_)
      clear hM hA; intro w283  hM hE  a hA
      refine LQ ?_
      refine TN ?_
      refine wp_seq ?_
      refine wp_seq ?_
      refine wp_region_lit ?_
      refine L1 (stv hA (by decide) (run_move (hA.ev rfl)) ?_)
      clear hA; intro a hA
      refine LQ ?_
      refine TN ?_
      obtain ⟨o316, H315, H⟩ := Option.bind_eq_some_iff.1 H
      refine cutC (fun a w => ∃ (x304 : (Vector Int 32)) (xs309 : (List Place)) (xs314 : (List Place)) (v306 : Value) (v311 : Value), (x304, xs309, xs314) = o316 ∧ Mem F w0 w [.box g173 41 (List.flatten [pHash.enc (Vector.replicate 32 0 : Vector Int 32), [(.slice none 0 0)], [(.slice none 0 0)]]), .box g201 41 (List.flatten [pHash.enc x304, [v306], [v311]]), .row 70 pPlace.sz v306 (pPlace.flat xs309), .row 70 pPlace.sz v311 (pPlace.flat xs314)] ∧ Has 81 [(4, (.pointer (some (⟨g173, 0, none⟩)))), (7, (.pointer (some (⟨g201, 0, none⟩))))] a) ?_ ?_
      · refine tcond (b := (decide ((IntKind.i64.wrap (r226.2 - r226.1)) ≥ 8))) hA rfl (fun hb317 => ?_) (fun hb317 => ?_)
        · replace H315 := ite_t hb317 H315
          refine draw (fun w' => Below w283.heap.size w283 w') [8] rfl ?_
          intro w318 hw hS; replace hM := hM.ext hS; clear hw
          refine rebase hS ?_; clear hS; intro hS
          refine d_take (i := 0) (L' := #[tT,fF,fF,fF,fF,fF,fF,fF,fF]) rfl (by kernel_rfl) rfl (fun _ _ _ h => h) hA (by decide) rfl hS (fun a w' hA hS' => run_ld (hA.ev rfl) (run_loadW Try.isAgg41 Try.sizeOf41 (by simp [Pl.len]; try rfl) ((hM.box (.s (.s .z))).extB hS'))) ?_; clear hA; intro a hA
          refine d_take (i := 1) (L' := #[tT,tT,fF,fF,fF,fF,fF,fF,fF]) rfl (by kernel_rfl) rfl (fun _ _ _ h => h) hA (by decide) rfl hS (fun a w' hA hS' => run_ld (hA.ev rfl) (run_loadP Try.isAgg46 Try.sizeOf46 ((hM.box (.s (.s (.s (.s (.s (.s .z))))))).extB hS'))) ?_; clear hA; intro a hA
          refine d_take (i := 2) (L' := #[tT,tT,tT,fF,fF,fF,fF,fF,fF]) rfl (by kernel_rfl) rfl (fun _ _ _ h => h) hA (by decide) rfl hS (fun a w' hA hS' => run_ld (hA.ev rfl) (run_loadP Try.isAgg46 Try.sizeOf46 ((hM.box (.s (.s (.s (.s (.s (.s .z))))))).extB hS'))) ?_; clear hA; intro a hA
          obtain ⟨r320, H321, H315⟩ := Option.bind_eq_some_iff.1 H315
          refine d_one (i := 3) (L' := #[tT,tT,tT,tT,fF,fF,fF,fF,fF]) (by kernel_rfl) rfl rfl (st_call Try.call79 hA [(.agg (pNAddr.enc x256).toArray)] rfl (by decide) (ref38_Group.calls _ _ _ _ _ (hM.front (Ms := [])) H321) ?_)
          clear hA; rintro _ w322 ⟨rfl, hMc⟩ a hA
          have hE := hMc.below; have hM := hM.call (Ms := []) hMc
          clear hMc; simp only [List.cons_append, List.nil_append] at hM
          replace hS := hS.trans (hE.mono hS.size)
          refine ⟨fun _ => hS, ?_⟩
          obtain ⟨r323, H324, H315⟩ := Option.bind_eq_some_iff.1 H315
          refine d_one (i := 4) (L' := #[tT,tT,tT,tT,tT,fF,fF,fF,fF]) (by kernel_rfl) rfl rfl (st_call Try.call78 hA [(.agg (List.flatten [pHash.enc r190.Salt, [(.slice A219 r214.length c220)], [(.slice A281 r276.length c282)]]).toArray), (.agg (pNAddr.enc x256).toArray), (.int .u32 r320)] rfl (by decide) (ref38_hear.calls _ (Book.mk r190.Salt r214 r276) _ _ _ _ _ _ _ ((hM.roV (p := pPlace) (Ms := []) (.s (.s (.s .z))))) ((hM.roV (p := pPlace) (Ms := []) .z)) (hM.front (Ms := [])) H324) ?_)
          clear hA; rintro _ w325 ⟨v326, v327, rfl, hMc⟩ a hA
          have hE := hMc.below; have hM := hM.call (Ms := []) hMc
          have hlw328 : ∀ k, _ → w318.heap.size ≤ k := fun k hk => Nat.le_trans hS.size ((hMc.low _ (List.Mem.head _) k hk).resolve_right (by simp))
          have hlw329 : ∀ k, _ → w318.heap.size ≤ k := fun k hk => Nat.le_trans hS.size ((hMc.low _ (List.Mem.tail _ (List.Mem.head _)) k hk).resolve_right (by simp))
          clear hMc; simp only [List.cons_append, List.nil_append] at hM
          obtain ⟨A330, c331, rfl⟩ := RowOk.form (hM.row (p := pPlace) .z)
          obtain ⟨A332, c333, rfl⟩ := RowOk.form (hM.row (p := pPlace) (.s .z))
          replace hS := hS.trans (hE.mono hS.size)
          refine ⟨fun _ => hS, ?_⟩
          refine d_takef (i := 5) (L' := #[tT,tT,tT,tT,tT,tT,fF,fF,fF]) rfl (by kernel_rfl) rfl (fun _ _ _ h => h) hA (by decide) (fun _ => hS) (fun a w' hA => run_move (hA.ev rfl)) ?_; clear hA; intro a hA
          refine d_takef (i := 6) (L' := #[tT,tT,tT,tT,tT,tT,tT,fF,fF]) rfl (by kernel_rfl) rfl (fun _ _ _ h => h) hA (by decide) (fun _ => hS) (fun a w' hA => run_ext (hA.ev rfl) rfl) ?_; clear hA; intro a hA
          refine d_takef (i := 7) (L' := #[tT,tT,tT,tT,tT,tT,tT,tT,fF]) rfl (by kernel_rfl) rfl (fun _ _ _ h => h) hA (by decide) (fun _ => hS) (fun a w' hA => run_ext (hA.ev rfl) rfl) ?_; clear hA; intro a hA
          refine d_one (i := 8) (L' := #[tT,tT,tT,tT,tT,tT,tT,tT,tT]) (by kernel_rfl) rfl rfl (e_store (g := g201) (off := 0) (cur := (List.flatten [pHash.enc r190.Salt, [(.slice A219 r214.length c220)], [(.slice A281 r276.length c282)]])) (cs' := (List.flatten [pHash.enc r323.1.Salt, [(.slice A330 r323.1.Heard.length c331)], [(.slice A332 r323.1.Tried.length c333)]])) hM (.s (.s (.s (.s .z)))) Try.sizeOf41 hA rfl (by simp [add_mk]) rfl (by first | rfl | (simp [Value.cells, Pl.len]; done) | (simp [Value.cells, Pl.len]; rfl)) (one_flat (one_cons (Pl.one _ _) (one_cons (by simp [Value.oneCell']) (one_cons (by simp [Value.oneCell']) one_nil)))) (by first | exact Nat.le_of_ble_eq_true rfl | (simp [Pl.len]; done) | (simp [Pl.len]; decide)) (spl_all (by first | rfl | (simp [Value.cells, Pl.len]; done) | (simp [Value.cells, Pl.len]; rfl))) ?_)
          clear hM hA; intro w334  hM hE  a hA
          refine ⟨fun h => absurd h (by decide), ?_⟩
          refine d_done (by kernel_rfl) ?_
          exact ⟨r323.1.Salt, r323.1.Heard, r323.1.Tried, (.slice A330 r323.1.Heard.length c331), (.slice A332 r323.1.Tried.length c333), Option.some.inj H315, (hM.sel [3, 4, 0, 1] rfl (by decide)), ((hA.nil.cons (hA.get 7 _ rfl)).cons (hA.get 4 _ rfl))⟩
        · replace H315 := ite_f hb317 H315
          refine wp_skip ?_
          exact ⟨r190.Salt, r214, r276, (.slice A219 r214.length c220), (.slice A281 r276.length c282), Option.some.inj H315, (hM.sel [1, 2, 3, 0] rfl (by decide)), ((hA.nil.cons (hA.get 7 _ rfl)).cons (hA.get 4 _ rfl))⟩
      clear hM hA
      rintro a w335 ⟨x304, xs309, xs314, v306, v311, rfl, hM, hA⟩
      try dsimp only at H
      obtain ⟨A307, c308, rfl⟩ := RowOk.form (hM.row (p := pPlace) (.s (.s .z)))
      obtain ⟨A312, c313, rfl⟩ := RowOk.form (hM.row (p := pPlace) (.s (.s (.s .z))))
      refine TN ?_
      refine wp_seq ?_
      refine wp_region_lit ?_
      refine L1 (stv hA (by decide) (run_ld (hA.ev rfl) (run_loadW Try.isAgg41 Try.sizeOf41 (by simp [Pl.len]; try rfl) (hM.box (.s .z)))) ?_)
      clear hA; intro a hA
      refine L1 (e_store (g := g173) (off := 0) (cur := (List.flatten [pHash.enc (Vector.replicate 32 0 : Vector Int 32), [(.slice none 0 0)], [(.slice none 0 0)]])) (cs' := (List.flatten [pHash.enc x304, [(.slice A307 xs309.length c308)], [(.slice A312 xs314.length c313)]])) hM .z Try.sizeOf41 hA rfl (by simp [add_mk]) rfl (by first | rfl | (simp [Value.cells, Pl.len]; done) | (simp [Value.cells, Pl.len]; rfl)) (one_flat (one_cons (Pl.one _ _) (one_cons (by simp [Value.oneCell']) (one_cons (by simp [Value.oneCell']) one_nil)))) (by first | exact Nat.le_of_ble_eq_true rfl | (simp [Pl.len]; done) | (simp [Pl.len]; decide)) (spl_all (by first | rfl | (simp [Value.cells, Pl.len]; done) | (simp [Value.cells, Pl.len]; rfl))) ?_)
      clear hM hA; intro w336  hM hE  a hA
      refine L1 (stv hA (by decide) (run_assign (hA.ev rfl)) ?_)
      clear hA; intro a hA
      refine LQ ?_
      refine TN ?_
      refine wp_ret ?_
      obtain rfl := Option.some.inj H
      exact ret_mix2 (fn := Try.f47) hA rfl (RV.cell rfl (run_loadW Try.isAgg41 Try.sizeOf41 (by simp [Pl.len]; try rfl) (hM.box .z))) (RV.tmp rfl) ⟨_, rfl, (.slice A307 xs309.length c308), (.slice A312 xs314.length c313), rfl, (hM.sel [2, 3] rfl (by decide))⟩

def ref38_Heard.f (k : Nat) (b_0 : Book) (a_1 : NAddr) (source_2 : Int) : Option (Book × Bool × Int) := ((ref38_Sound.f k (Book.mk b_0.Salt b_0.Heard b_0.Tried)).bind fun r40 => (if (!r40) = true then (some ((Book.mk (Vector.replicate 32 0 : Vector Int 32) ([] : List Place) ([] : List Place)), false, 6)) else ((ref38_hear.f k (Book.mk b_0.Salt b_0.Heard b_0.Tried) a_1 source_2).bind fun r47 => (some ((Book.mk r47.1.Salt r47.1.Heard r47.1.Tried), r47.2, 0)))))
set_option maxHeartbeats 2000000 in
set_option maxRecDepth 100000 in
theorem ref38_Heard.calls (k : Nat) (b_0 : Book) (a_1 : NAddr) (source_2 : Int) (F : List (Option Nat)) (v0_1 : Value) (v0_2 : Value) (r : (Book × Bool × Int)) (w0 : World) (h0_1 : RoV F pPlace w0 v0_1 b_0.Heard) (h0_2 : RoV F pPlace w0 v0_2 b_0.Tried) (hM : Mem F w0 w0 []) (H : ref38_Heard.f k b_0 a_1 source_2 = some r) :
    Calls Try.prog 48 #[(.agg (List.flatten [pHash.enc b_0.Salt, [v0_1], [v0_2]]).toArray), (.agg (pNAddr.enc a_1).toArray), (.int .u32 source_2)] w0 fun e w' => ∃ v, e = .returned v ∧ ∃ (ur_0_1 : Value) (ur_0_2 : Value), v = (.tuple #[(.agg (List.flatten [pHash.enc r.1.Salt, [ur_0_1], [ur_0_2]]).toArray), (.bool r.2.1), (.int .i64 r.2.2)]) ∧ Mem F w0 w' [.row 70 pPlace.sz ur_0_1 (pPlace.flat r.1.Heard), .row 70 pPlace.sz ur_0_2 (pPlace.flat r.1.Tried)] := by
  unfold ref38_Heard.f at H
  obtain ⟨A0_1, c0_1, rfl, hr0_1, hc0_1⟩ := h0_1
  obtain ⟨A0_2, c0_2, rfl, hr0_2, hc0_2⟩ := h0_2
  refine enterL (n := 24) [(.agg (List.flatten [pHash.enc b_0.Salt, [(.slice A0_1 b_0.Heard.length c0_1)], [(.slice A0_2 b_0.Tried.length c0_2)]]).toArray), (.agg (pNAddr.enc a_1).toArray), (.int .u32 source_2)] Try.func48 rfl rfl rfl ?_
  intro a hA
  refine wp_seq ?_
  refine wp_region_lit ?_
  refine L1 (e_box (cs := (List.flatten [pHash.enc b_0.Salt, [(.slice A0_1 b_0.Heard.length c0_1)], [(.slice A0_2 b_0.Tried.length c0_2)]])) hM hA rfl rfl (by decide) ?_)
  clear hM hA; intro w32 g31 hM hE  a hA
  refine L1 (e_box (cs := (pNAddr.enc a_1)) hM hA rfl rfl (by decide) ?_)
  clear hM hA; intro w35 g34 hM hE  a hA
  refine L1 (e_alloc (cs := (List.flatten [pHash.enc (Vector.replicate 32 0 : Vector Int 32), [(.slice none 0 0)], [(.slice none 0 0)]])) hM zero41 rfl hA (by decide) ?_)
  clear hM hA; intro w38 g37 hM hE  a hA
  refine L1 (stv hA (by decide) (run_assign (hA.ev rfl)) ?_)
  clear hA; intro a hA
  refine L1 (stv hA (by decide) (run_assign (hA.ev rfl)) ?_)
  clear hA; intro a hA
  refine LQ ?_
  refine TN ?_
  refine wp_seq ?_
  refine wp_seq ?_
  refine wp_region_lit ?_
  refine L1 (stv hA (by decide) (run_ld (hA.ev rfl) (run_loadW Try.isAgg41 Try.sizeOf41 (by simp [Pl.len]; try rfl) (hM.box (.s (.s .z))))) ?_)
  clear hA; intro a hA
  obtain ⟨r40, H41, H⟩ := Option.bind_eq_some_iff.1 H
  refine L1 (st_call Try.call71 hA [(.agg (List.flatten [pHash.enc b_0.Salt, [(.slice A0_1 b_0.Heard.length c0_1)], [(.slice A0_2 b_0.Tried.length c0_2)]]).toArray)] rfl (by decide) (ref38_Sound.calls _ (Book.mk b_0.Salt b_0.Heard b_0.Tried) _ _ _ _ _ ((RoV.mk (hM.roC (Ms := []) hr0_1) (Eq.refl b_0.Heard.length) hc0_1)) ((RoV.mk (hM.roC (Ms := []) hr0_2) (Eq.refl b_0.Tried.length) hc0_2)) (hM.front (Ms := [])) H41) ?_)
  clear hA; rintro _ w42 ⟨rfl, hMc⟩ a hA
  have hE := hMc.below; have hM := hM.call (Ms := []) hMc
  clear hMc; simp only [List.cons_append, List.nil_append] at hM
  refine L1 (stv hA (by decide) (run_not (hA.ev rfl)) ?_)
  clear hA; intro a hA
  refine LQ ?_
  refine TN ?_
  refine tcond (b := (!r40)) hA rfl (fun hb43 => ?_) (fun hb43 => ?_)
  · replace H := ite_t hb43 H
    refine wp_seq ?_
    refine wp_region_lit ?_
    refine L1 (stv hA (by decide) (run_build (cells := (List.flatten [pHash.enc (Vector.replicate 32 0 : Vector Int 32), [(.slice none 0 0)], [(.slice none 0 0)]]).toArray) [] zero41 Try.underlying41 (ss := [32, 1, 1]) ⟨Try.sizeOf33, Try.sizeOf39, Try.sizeOf39, trivial⟩ hA rfl (fill_nilS)) ?_)
    clear hA; intro a hA
    refine L1 (e_store (g := g37) (off := 0) (cur := (List.flatten [pHash.enc (Vector.replicate 32 0 : Vector Int 32), [(.slice none 0 0)], [(.slice none 0 0)]])) (cs' := (List.flatten [pHash.enc (Vector.replicate 32 0 : Vector Int 32), [(.slice none 0 0)], [(.slice none 0 0)]])) hM .z Try.sizeOf41 hA rfl (by simp [add_mk]) rfl (by first | rfl | (simp [Value.cells, Pl.len]; done) | (simp [Value.cells, Pl.len]; rfl)) (one_flat (one_cons (Pl.one _ _) (one_cons (by simp [Value.oneCell']) (one_cons (by simp [Value.oneCell']) one_nil)))) (by first | exact Nat.le_of_ble_eq_true rfl | (simp [Pl.len]; done) | (simp [Pl.len]; decide)) (spl_all (by first | rfl | (simp [Value.cells, Pl.len]; done) | (simp [Value.cells, Pl.len]; rfl))) ?_)
    clear hM hA; intro w44  hM hE  a hA
    refine L1 (stv hA (by decide) (run_assign (hA.ev rfl)) ?_)
    clear hA; intro a hA
    refine L1 (stv hA (by decide) (run_assign (hA.ev rfl)) ?_)
    clear hA; intro a hA
    refine LQ ?_
    refine TN ?_
    refine wp_ret ?_
    have hM := hM.addnil 70 (pPlace).sz
    have hM := hM.addnil 70 (pPlace).sz
    obtain rfl := Option.some.inj H
    refine TR ?_
    exact ret_mix3 (fn := Try.f48) hA rfl (RV.cell rfl (run_loadW Try.isAgg41 Try.sizeOf41 (by simp [Pl.len]; try rfl) (hM.box (.s (.s .z))))) (RV.tmp rfl) (RV.tmp rfl) ⟨_, rfl, (.slice none 0 0), (.slice none 0 0), rfl, (hM.sel [1, 0] rfl (by decide))⟩
  · replace H := ite_f hb43 H
    refine wp_skip ?_
    refine TN ?_
    refine wp_seq ?_
    refine wp_region_lit ?_
    refine L1 (stv hA (by decide) (run_ld (hA.ev rfl) (run_loadW Try.isAgg41 Try.sizeOf41 (by simp [Pl.len]; try rfl) (hM.box (.s (.s .z))))) ?_)
    clear hA; intro a hA
    refine L1 (stv hA (by decide) (run_ld (hA.ev rfl) (run_loadP Try.isAgg46 Try.sizeOf46 (hM.box (.s .z)))) ?_)
    clear hA; intro a hA
    refine L1 (stv hA (by decide) (run_move (hA.ev rfl)) ?_)
    clear hA; intro a hA
    obtain ⟨r47, H48, H⟩ := Option.bind_eq_some_iff.1 H
    refine L1 (st_call Try.call78 hA [(.agg (List.flatten [pHash.enc b_0.Salt, [(.slice A0_1 b_0.Heard.length c0_1)], [(.slice A0_2 b_0.Tried.length c0_2)]]).toArray), (.agg (pNAddr.enc a_1).toArray), (.int .u32 source_2)] rfl (by decide) (ref38_hear.calls _ (Book.mk b_0.Salt b_0.Heard b_0.Tried) _ _ _ _ _ _ _ ((RoV.mk (hM.roC (Ms := []) hr0_1) (Eq.refl b_0.Heard.length) hc0_1)) ((RoV.mk (hM.roC (Ms := []) hr0_2) (Eq.refl b_0.Tried.length) hc0_2)) (hM.front (Ms := [])) H48) ?_)
    clear hA; rintro _ w49 ⟨v50, v51, rfl, hMc⟩ a hA
    have hE := hMc.below; have hM := hM.call (Ms := []) hMc
    clear hMc; simp only [List.cons_append, List.nil_append] at hM
    obtain ⟨A53, c54, rfl⟩ := RowOk.form (hM.row (p := pPlace) .z)
    obtain ⟨A56, c57, rfl⟩ := RowOk.form (hM.row (p := pPlace) (.s .z))
    refine L1 (stv hA (by decide) (run_move (hA.ev rfl)) ?_)
    clear hA; intro a hA
    refine L1 (stv hA (by decide) (run_ext (hA.ev rfl) rfl) ?_)
    clear hA; intro a hA
    refine L1 (stv hA (by decide) (run_ext (hA.ev rfl) rfl) ?_)
    clear hA; intro a hA
    refine L1 (e_alloc (cs := (List.flatten [pHash.enc (Vector.replicate 32 0 : Vector Int 32), [(.slice none 0 0)], [(.slice none 0 0)]])) hM zero41 rfl hA (by decide) ?_)
    clear hM hA; intro w59 g58 hM hE  a hA
    refine L1 (e_store (g := g58) (off := 0) (cur := (List.flatten [pHash.enc (Vector.replicate 32 0 : Vector Int 32), [(.slice none 0 0)], [(.slice none 0 0)]])) (cs' := (List.flatten [pHash.enc r47.1.Salt, [(.slice A53 r47.1.Heard.length c54)], [(.slice A56 r47.1.Tried.length c57)]])) hM .z Try.sizeOf41 hA rfl (by simp [add_mk]) rfl (by first | rfl | (simp [Value.cells, Pl.len]; done) | (simp [Value.cells, Pl.len]; rfl)) (one_flat (one_cons (Pl.one _ _) (one_cons (by simp [Value.oneCell']) (one_cons (by simp [Value.oneCell']) one_nil)))) (by first | exact Nat.le_of_ble_eq_true rfl | (simp [Pl.len]; done) | (simp [Pl.len]; decide)) (spl_all (by first | rfl | (simp [Value.cells, Pl.len]; done) | (simp [Value.cells, Pl.len]; rfl))) ?_)
    clear hM hA; intro w61  hM hE  a hA
    refine L1 (stv hA (by decide) (run_assign (hA.ev rfl)) ?_)
    clear hA; intro a hA
    refine LQ ?_
    refine TN ?_
    refine wp_seq ?_
    refine wp_region_lit ?_
    refine L1 (stv hA (by decide) (run_ld (hA.ev rfl) (run_loadW Try.isAgg41 Try.sizeOf41 (by simp [Pl.len]; try rfl) (hM.box .z))) ?_)
    clear hA; intro a hA
    refine L1 (stv hA (by decide) (run_move (hA.ev rfl)) ?_)
    clear hA; intro a hA
    refine L1 (e_store (g := g37) (off := 0) (cur := (List.flatten [pHash.enc (Vector.replicate 32 0 : Vector Int 32), [(.slice none 0 0)], [(.slice none 0 0)]])) (cs' := (List.flatten [pHash.enc r47.1.Salt, [(.slice A53 r47.1.Heard.length c54)], [(.slice A56 r47.1.Tried.length c57)]])) hM (.s (.s (.s .z))) Try.sizeOf41 hA rfl (by simp [add_mk]) rfl (by first | rfl | (simp [Value.cells, Pl.len]; done) | (simp [Value.cells, Pl.len]; rfl)) (one_flat (one_cons (Pl.one _ _) (one_cons (by simp [Value.oneCell']) (one_cons (by simp [Value.oneCell']) one_nil)))) (by first | exact Nat.le_of_ble_eq_true rfl | (simp [Pl.len]; done) | (simp [Pl.len]; decide)) (spl_all (by first | rfl | (simp [Value.cells, Pl.len]; done) | (simp [Value.cells, Pl.len]; rfl))) ?_)
    clear hM hA; intro w62  hM hE  a hA
    refine L1 (stv hA (by decide) (run_assign (hA.ev rfl)) ?_)
    clear hA; intro a hA
    refine L1 (stv hA (by decide) (run_assign (hA.ev rfl)) ?_)
    clear hA; intro a hA
    refine LQ ?_
    refine TN ?_
    refine wp_ret ?_
    obtain rfl := Option.some.inj H
    exact ret_mix3 (fn := Try.f48) hA rfl (RV.cell rfl (run_loadW Try.isAgg41 Try.sizeOf41 (by simp [Pl.len]; try rfl) (hM.box (.s (.s (.s .z)))))) (RV.tmp rfl) (RV.tmp rfl) ⟨_, rfl, (.slice A53 r47.1.Heard.length c54), (.slice A56 r47.1.Tried.length c57), rfl, (hM.sel [1, 2] rfl (by decide))⟩

def mill_Book.l0 (d_0 : lightclientmill_Deck) : Nat → Int → (Vector Int 32) → (List Place) → (List Place) → Int → Option ((Vector Int 32) × (List Place) × (List Place) × Int)
  | 0, _, _, _, _, _ => none
  | k + 1, x5944, x5947, xs5952, xs5957, t5959 => (if (decide (t5959 > 0)) = true then ((mill_Deck_Next.f k (lightclientmill_Deck.mk d_0.L x5944) 4).bind fun r5981 => (Option.bind (α := Int × (Vector Int 32) × (List Place) × (List Place)) (if (r5981.1 == 0) = true then (if (decide (((xs5952.length : Nat) : Int) > 0)) = true then (Option.bind (α := Int × (Vector Int 32) × (List Place) × (List Place)) ((mill_Deck_Next.f k (lightclientmill_Deck.mk d_0.L r5981.2.At_) ((xs5952.length : Nat) : Int)).bind fun r6728 => (if 0 ≤ r6728.1 ∧ r6728.1 < ((xs5952.length : Nat) : Int) then ((ref38_Good.f k (Book.mk x5947 xs5952 xs5957) ((xs5952.getD r6728.1.toNat Place.z).Addr_)).bind fun r6736 => (some (r6728.2.At_, r6736.1.Salt, r6736.1.Heard, r6736.1.Tried))) else none)) (fun st => match st with | (x6710, x6713, xs6718, xs6723) => (some (x6710, x6713, xs6718, xs6723)))) else (some (r5981.2.At_, x5947, xs5952, xs5957))) else (Option.bind (α := Int × (Vector Int 32) × (List Place) × (List Place)) ((mill_Addr.f k (lightclientmill_Deck.mk d_0.L r5981.2.At_)).bind fun r6985 => ((mill_Deck_Next.f k (lightclientmill_Deck.mk d_0.L r6985.2.At_) 4).bind fun r6988 => ((ref38_Heard.f k (Book.mk x5947 xs5952 xs5957) r6985.1 (IntKind.u32.wrap r6988.1)).bind fun r6991 => (some (r6988.2.At_, r6991.1.Salt, r6991.1.Heard, r6991.1.Tried))))) (fun st => match st with | (x6967, x6970, xs6975, xs6980) => (some (x6967, x6970, xs6975, xs6980))))) (fun st => match st with | (x6501, x6504, xs6509, xs6514) => (mill_Book.l0 d_0 k x6501 x6504 xs6509 xs6514 (IntKind.i64.wrap (t5959 - 1)))))) else (some (x5947, xs5952, xs5957, x5944)))
def mill_Book.f (k : Nat) (d_0 : lightclientmill_Deck) : Option (Book × lightclientmill_Deck) := ((mill_Hash.f k (lightclientmill_Deck.mk d_0.L d_0.At_)).bind fun r3522 => ((mill_Deck_Next.f k (lightclientmill_Deck.mk d_0.L r3522.2.At_) 40).bind fun r3529 => (Option.bind (α := (Vector Int 32) × (List Place) × (List Place) × Int) (mill_Book.l0 d_0 k r3529.2.At_ r3522.1 ([] : List Place) ([] : List Place) r3529.1) (fun st => match st with | (x5962, xs5967, xs5972, x5973) => (some ((Book.mk x5962 xs5967 xs5972), (lightclientmill_Deck.mk d_0.L x5973)))))))
set_option maxHeartbeats 2000000 in
set_option maxRecDepth 100000 in
theorem mill_Book.calls (k : Nat) (d_0 : lightclientmill_Deck) (F : List (Option Nat)) (g0 : Nat) (v0_0 : Value) (r : (Book × lightclientmill_Deck)) (w0 : World) (h0_0 : RoV F (Pl.int .i64) w0 v0_0 d_0.L) (hM : Mem F w0 w0 [.box g0 91 [v0_0, (.int .i64 d_0.At_)]]) (H : mill_Book.f k d_0 = some r) :
    Calls Try.prog 21 #[(.pointer (some (⟨g0, 0, none⟩)))] w0 fun e w' => ∃ v, e = .returned v ∧ ∃ (ur_0_1 : Value) (ur_0_2 : Value), v = (.agg (List.flatten [pHash.enc r.1.Salt, [ur_0_1], [ur_0_2]]).toArray) ∧ Mem F w0 w' [.box g0 91 [v0_0, (.int .i64 r.2.At_)], .row 70 pPlace.sz ur_0_1 (pPlace.flat r.1.Heard), .row 70 pPlace.sz ur_0_2 (pPlace.flat r.1.Tried)] := by
  unfold mill_Book.f at H
  obtain ⟨A0_0, c0_0, rfl, hr0_0, hc0_0⟩ := h0_0
  refine enterL (n := 49) [(.pointer (some (⟨g0, 0, none⟩)))] Try.func21 rfl rfl rfl ?_
  intro a hA
  refine wp_seq ?_
  refine wp_region_lit ?_
  refine L1 (e_alloc (cs := (List.flatten [pHash.enc (Vector.replicate 32 0 : Vector Int 32), [(.slice none 0 0)], [(.slice none 0 0)]])) hM zero41 rfl hA (by decide) ?_)
  clear hM hA; intro w3520 g3519 hM hE  a hA
  refine LQ ?_
  refine TN ?_
  refine wp_seq ?_
  refine wp_region_lit ?_
  refine L1 (stv hA (by decide) (run_move (hA.ev rfl)) ?_)
  clear hA; intro a hA
  have hM := hM.sel [1, 0] rfl (by decide)
  obtain ⟨r3522, H3523, H⟩ := Option.bind_eq_some_iff.1 H
  refine L1 (st_call Try.call46 hA [(.pointer (some (⟨g0, 0, none⟩)))] rfl (by decide) (mill_Hash.calls _ (lightclientmill_Deck.mk d_0.L d_0.At_) _ _ _ _ _ ((RoV.mk (hM.roC (Ms := [_]) hr0_0) (Eq.refl d_0.L.length) hc0_0)) (hM.front (Ms := [_])) H3523) ?_)
  clear hA; rintro _ w3524 ⟨rfl, hMc⟩ a hA
  have hM := hM.call (Ms := [_]) hMc
  clear hMc; simp only [List.cons_append, List.nil_append] at hM
  refine L1 (stv hA (by decide) (run_build (cells := (List.flatten [pHash.enc r3522.1, [(.slice none 0 0)], [(.slice none 0 0)]]).toArray) [(0, (.agg (pHash.enc r3522.1).toArray))] zero41 Try.underlying41 (ss := [32, 1, 1]) ⟨Try.sizeOf33, Try.sizeOf39, Try.sizeOf39, trivial⟩ hA rfl (fill_seg (segs := [pHash.enc (Vector.replicate 32 0 : Vector Int 32), [(.slice none 0 0)], [(.slice none 0 0)]]) 0 rfl (by first | rfl | (simp [Value.cells, Pl.len]; done) | (simp [Value.cells, Pl.len]; rfl)) rfl (by simp [Pl.len]; try rfl) (by first | rfl | (simp [Value.cells, Pl.len]; done) | (simp [Value.cells, Pl.len]; rfl)) (fill_nilS))) ?_)
  clear hA; intro a hA
  refine L1 (e_alloc (cs := (List.flatten [pHash.enc (Vector.replicate 32 0 : Vector Int 32), [(.slice none 0 0)], [(.slice none 0 0)]])) hM zero41 rfl hA (by decide) ?_)
  clear hM hA; intro w3526 g3525 hM hE  a hA
  refine L1 (e_store (g := g3525) (off := 0) (cur := (List.flatten [pHash.enc (Vector.replicate 32 0 : Vector Int 32), [(.slice none 0 0)], [(.slice none 0 0)]])) (cs' := (List.flatten [pHash.enc r3522.1, [(.slice none 0 0)], [(.slice none 0 0)]])) hM .z Try.sizeOf41 hA rfl (by simp [add_mk]) rfl (by first | rfl | (simp [Value.cells, Pl.len]; done) | (simp [Value.cells, Pl.len]; rfl)) (one_flat (one_cons (Pl.one _ _) (one_cons (by simp [Value.oneCell']) (one_cons (by simp [Value.oneCell']) one_nil)))) (by first | exact Nat.le_of_ble_eq_true rfl | (simp [Pl.len]; done) | (simp [Pl.len]; decide)) (spl_all (by first | rfl | (simp [Value.cells, Pl.len]; done) | (simp [Value.cells, Pl.len]; rfl))) ?_)
  clear hM hA; intro w3528  hM hE  a hA
  refine LQ ?_
  refine TN ?_
  refine wp_seq ?_
  refine wp_seq ?_
  refine wp_region_lit ?_
  refine L1 (stv hA (by decide) (run_move (hA.ev rfl)) ?_)
  clear hA; intro a hA
  have hM := hM.sel [1, 0, 2] rfl (by decide)
  obtain ⟨r3529, H3530, H⟩ := Option.bind_eq_some_iff.1 H
  refine L1 (st_call Try.call35 hA [(.pointer (some (⟨g0, 0, none⟩))), (.int .i64 40)] rfl (by decide) (mill_Deck_Next.calls _ (lightclientmill_Deck.mk d_0.L r3522.2.At_) _ _ _ _ _ _ ((RoV.mk (hM.roC (Ms := [_]) hr0_0) (Eq.refl d_0.L.length) hc0_0)) (hM.front (Ms := [_])) H3530) ?_)
  clear hA; rintro _ w3531 ⟨rfl, hMc⟩ a hA
  have hM := hM.call (Ms := [_]) hMc
  clear hMc; simp only [List.cons_append, List.nil_append] at hM
  refine L1 (stv hA (by decide) (run_assign (hA.ev rfl)) ?_)
  clear hA; intro a hA
  refine LQ ?_
  refine TN ?_
  obtain ⟨o5975, H5974, H⟩ := Option.bind_eq_some_iff.1 H
  refine cutC (fun a w => ∃ (x5962 : (Vector Int 32)) (xs5967 : (List Place)) (xs5972 : (List Place)) (x5973 : Int) (v5964 : Value) (v5969 : Value), (x5962, xs5967, xs5972, x5973) = o5975 ∧ Mem F w0 w [.box g3519 41 (List.flatten [pHash.enc (Vector.replicate 32 0 : Vector Int 32), [(.slice none 0 0)], [(.slice none 0 0)]]), .box g3525 41 (List.flatten [pHash.enc x5962, [v5964], [v5969]]), .row 70 pPlace.sz v5964 (pPlace.flat xs5967), .row 70 pPlace.sz v5969 (pPlace.flat xs5972), .box g0 91 [(.slice A0_0 d_0.L.length c0_0), (.int .i64 x5973)]] ∧ Has 49 [(2, (.pointer (some (⟨g3519, 0, none⟩)))), (3, (.pointer (some (⟨g3525, 0, none⟩))))] a) ?_ ?_
  · refine wp_block ?_
    have hM := hM.addnil 70 (pPlace).sz
    have hM := hM.addnil 70 (pPlace).sz
    refine wp_loop_ghost (fun m a w => ∃ (x5944 : Int) (x5947 : (Vector Int 32)) (xs5952 : (List Place)) (xs5957 : (List Place)) (t5959 : Int) (v5949 : Value) (v5954 : Value), mill_Book.l0 d_0 m x5944 x5947 xs5952 xs5957 t5959 = some o5975 ∧ Mem F w0 w [.box g0 91 [(.slice A0_0 d_0.L.length c0_0), (.int .i64 x5944)], .box g3519 41 (List.flatten [pHash.enc (Vector.replicate 32 0 : Vector Int 32), [(.slice none 0 0)], [(.slice none 0 0)]]), .box g3525 41 (List.flatten [pHash.enc x5947, [v5949], [v5954]]), .row 70 pPlace.sz v5949 (pPlace.flat xs5952), .row 70 pPlace.sz v5954 (pPlace.flat xs5957)] ∧ Has 49 [(0, (.pointer (some (⟨g0, 0, none⟩)))), (2, (.pointer (some (⟨g3519, 0, none⟩)))), (3, (.pointer (some (⟨g3525, 0, none⟩)))), (4, (.int .i64 t5959))] a) k ⟨r3529.2.At_, r3522.1, ([] : List Place), ([] : List Place), r3529.1, (.slice none 0 0), (.slice none 0 0), H5974, (hM.sel [2, 4, 3, 1, 0] rfl (by decide)), ((((hA.nil.cons (hA.get 4 _ rfl)).cons (hA.get 3 _ rfl)).cons (hA.get 2 _ rfl)).cons (hA.get 0 _ rfl))⟩ ?_
    clear hM hA; rintro m5978 a w5979 ⟨x5944, x5947, xs5952, xs5957, t5959, v5949, v5954, H5974, hM, hA⟩
    cases m5978 with
    | zero => exact absurd H5974 (by simp [mill_Book.l0])
    | succ m5978 =>
    rw [mill_Book.l0] at H5974
    obtain ⟨A5950, c5951, rfl⟩ := RowOk.form (hM.row (p := pPlace) (.s (.s (.s .z))))
    obtain ⟨A5955, c5956, rfl⟩ := RowOk.form (hM.row (p := pPlace) (.s (.s (.s (.s .z)))))
    refine wp_seq ?_
    refine wp_seq ?_
    refine wp_region_lit ?_
    refine L1 (stv hA (by decide) (run_move (hA.ev rfl)) ?_)
    clear hA; intro a hA
    refine L1 (stv hA (by decide) (run_bin (hA.ev rfl) (hA.ev rfl) (bin_gtr _ _ _ _)) ?_)
    clear hA; intro a hA
    refine LQ ?_
    refine TN ?_
    refine tcond (b := (decide (t5959 > 0))) hA rfl (fun hb5980 => ?_) (fun hb5980 => ?_)
    · replace H5974 := ite_t hb5980 H5974
      refine wp_skip ?_
      refine TN ?_
      refine wp_seq ?_
      refine wp_block ?_
      refine wp_seq ?_
      refine wp_region_lit ?_
      refine L1 (stv hA (by decide) (run_move (hA.ev rfl)) ?_)
      clear hA; intro a hA
      obtain ⟨r5981, H5982, H5974⟩ := Option.bind_eq_some_iff.1 H5974
      refine L1 (st_call Try.call35 hA [(.pointer (some (⟨g0, 0, none⟩))), (.int .i64 4)] rfl (by decide) (mill_Deck_Next.calls _ (lightclientmill_Deck.mk d_0.L x5944) _ _ _ _ _ _ ((RoV.mk (hM.roC (Ms := [_]) hr0_0) (Eq.refl d_0.L.length) hc0_0)) (hM.front (Ms := [_])) H5982) ?_)
      clear hA; rintro _ w5983 ⟨rfl, hMc⟩ a hA
      have hM := hM.call (Ms := [_]) hMc
      clear hMc; simp only [List.cons_append, List.nil_append] at hM
      refine LQ ?_
      refine TN ?_
      refine wp_block ?_
      refine wp_seq ?_
      refine wp_region_lit ?_
      refine L1 (stv hA (by decide) (run_bin (hA.ev rfl) (hA.ev rfl) (bin_eql _ _ _ _)) ?_)
      clear hA; intro a hA
      refine L1 (stv hA (by decide) (run_assign (hA.ev rfl)) ?_)
      clear hA; intro a hA
      refine LQ ?_
      refine TN ?_
      obtain ⟨o6517, H6516, H5974⟩ := Option.bind_eq_some_iff.1 H5974
      refine cutC (fun a w => ∃ (x6501 : Int) (x6504 : (Vector Int 32)) (xs6509 : (List Place)) (xs6514 : (List Place)) (v6506 : Value) (v6511 : Value), (x6501, x6504, xs6509, xs6514) = o6517 ∧ Mem F w0 w [.box g0 91 [(.slice A0_0 d_0.L.length c0_0), (.int .i64 x6501)], .box g3519 41 (List.flatten [pHash.enc (Vector.replicate 32 0 : Vector Int 32), [(.slice none 0 0)], [(.slice none 0 0)]]), .box g3525 41 (List.flatten [pHash.enc x6504, [v6506], [v6511]]), .row 70 pPlace.sz v6506 (pPlace.flat xs6509), .row 70 pPlace.sz v6511 (pPlace.flat xs6514)] ∧ Has 49 [(0, (.pointer (some (⟨g0, 0, none⟩)))), (2, (.pointer (some (⟨g3519, 0, none⟩)))), (3, (.pointer (some (⟨g3525, 0, none⟩)))), (4, (.int .i64 t5959))] a) ?_ ?_
      · refine tcond (b := (r5981.1 == 0)) hA rfl (fun hb6518 => ?_) (fun hb6518 => ?_)
        · replace H6516 := ite_t hb6518 H6516
          refine wp_seq ?_
          refine wp_region_lit ?_
          refine L1 (stv hA (by decide) (run_field' Try.underlying41 rfl rfl Try.sizeOf39 (by decide) (hA.ev rfl)) ?_)
          clear hA; intro a hA
          refine L1 (stv hA (by decide) (run_ld (hA.ev rfl) (run_loadS Try.isAgg39 (At.seg (segs := [pHash.enc x5947, [(.slice A5950 xs5952.length c5951)], [(.slice A5955 xs5957.length c5956)]]) (hM.box (.s (.s .z))) 1 rfl (by simp [Pl.len]; try rfl)))) ?_)
          clear hA; intro a hA
          refine L1 (stv hA (by decide) (run_len_slice Try.underlying39 (hA.ev rfl)) ?_)
          clear hA; intro a hA
          refine L1 (stv hA (by decide) (run_bin (hA.ev rfl) (hA.ev rfl) (bin_gtr _ _ _ _)) ?_)
          clear hA; intro a hA
          refine LQ ?_
          refine TN ?_
          refine tcond (b := (decide (((xs5952.length : Nat) : Int) > 0))) hA rfl (fun hb6519 => ?_) (fun hb6519 => ?_)
          · replace H6516 := ite_t hb6519 H6516
            obtain ⟨o6726, H6725, H6516⟩ := Option.bind_eq_some_iff.1 H6516
            refine cutC (fun a w => ∃ (x6710 : Int) (x6713 : (Vector Int 32)) (xs6718 : (List Place)) (xs6723 : (List Place)) (v6715 : Value) (v6720 : Value), (x6710, x6713, xs6718, xs6723) = o6726 ∧ Mem F w0 w [.box g0 91 [(.slice A0_0 d_0.L.length c0_0), (.int .i64 x6710)], .box g3519 41 (List.flatten [pHash.enc (Vector.replicate 32 0 : Vector Int 32), [(.slice none 0 0)], [(.slice none 0 0)]]), .box g3525 41 (List.flatten [pHash.enc x6713, [v6715], [v6720]]), .row 70 pPlace.sz v6715 (pPlace.flat xs6718), .row 70 pPlace.sz v6720 (pPlace.flat xs6723)] ∧ Has 49 [(0, (.pointer (some (⟨g0, 0, none⟩)))), (2, (.pointer (some (⟨g3519, 0, none⟩)))), (3, (.pointer (some (⟨g3525, 0, none⟩)))), (4, (.int .i64 t5959))] a) ?_ ?_
            · obtain ⟨r6728, H6729, H6725⟩ := Option.bind_eq_some_iff.1 H6725
              obtain ⟨⟨hi6731, hj6732⟩, H6725⟩ := ite_some H6725
              obtain ⟨r6736, H6737, H6725⟩ := Option.bind_eq_some_iff.1 H6725
              refine draw (fun w' => Below w5983.heap.size w5983 w') [7, 15] rfl ?_
              intro w6748 hw hS; replace hM := hM.ext hS; clear hw
              refine d_takef (i := 1) (L' := #[fF,tT,fF,fF,fF,fF,fF,fF,fF,fF,fF,fF,fF,fF,fF,fF]) rfl (by kernel_rfl) rfl (fun _ _ _ h => h) hA (by decide) (fun _ => hS) (fun a w' hA => run_field' Try.underlying41 rfl rfl Try.sizeOf39 (by decide) (hA.ev rfl)) ?_; clear hA; intro a hA
              refine d_takef (i := 3) (L' := #[fF,tT,fF,tT,fF,fF,fF,fF,fF,fF,fF,fF,fF,fF,fF,fF]) rfl (by kernel_rfl) rfl (fun _ _ _ h => h) hA (by decide) (fun _ => hS) (fun a w' hA => run_move (hA.ev rfl)) ?_; clear hA; intro a hA
              refine d_takef (i := 4) (L' := #[fF,tT,fF,tT,tT,fF,fF,fF,fF,fF,fF,fF,fF,fF,fF,fF]) rfl (by kernel_rfl) rfl (fun _ _ _ h => h) hA (by decide) (fun _ => hS) (fun a w' hA => run_field' Try.underlying41 rfl rfl Try.sizeOf39 (by decide) (hA.ev rfl)) ?_; clear hA; intro a hA
              refine d_many (is := [0, 2, 5]) (by kernel_rfl) (by decide) ⟨?_, ?_, ?_, trivial⟩
              · refine d_op (i := 0) (L' := #[tT,tT,fF,tT,tT,fF,fF,fF,fF,fF,fF,fF,fF,fF,fF,fF]) rfl rfl (stv hA (by decide) (run_ld (hA.ev rfl) (run_loadW Try.isAgg41 Try.sizeOf41 (by simp [Pl.len]; try rfl) (hM.box (.s (.s .z))))) ?_)
                clear hA; intro a hA
                refine ⟨fun _ => hS, ?_⟩
                refine d_many (is := [2, 5]) (by kernel_rfl) (by decide) ⟨?_, ?_, trivial⟩
                · refine d_op (i := 2) (L' := #[tT,tT,tT,tT,tT,fF,fF,fF,fF,fF,fF,fF,fF,fF,fF,fF]) rfl rfl (stv hA (by decide) (run_ld (hA.ev rfl) (run_loadS Try.isAgg39 (At.seg (segs := [pHash.enc x5947, [(.slice A5950 xs5952.length c5951)], [(.slice A5955 xs5957.length c5956)]]) (hM.box (.s (.s .z))) 1 rfl (by simp [Pl.len]; try rfl)))) ?_)
                  clear hA; intro a hA
                  refine ⟨fun _ => hS, ?_⟩
                  refine d_one (i := 5) (L' := #[tT,tT,tT,tT,tT,tT,fF,fF,fF,fF,fF,fF,fF,fF,fF,fF]) (by kernel_rfl) rfl rfl (stv hA (by decide) (run_ld (hA.ev rfl) (run_loadS Try.isAgg39 (At.seg (segs := [pHash.enc x5947, [(.slice A5950 xs5952.length c5951)], [(.slice A5955 xs5957.length c5956)]]) (hM.box (.s (.s .z))) 1 rfl (by simp [Pl.len]; try rfl)))) ?_)
                  clear hA; intro a hA
                  refine ⟨fun _ => hS, ?_⟩
                  refine d_takef (i := 6) (L' := #[tT,tT,tT,tT,tT,tT,tT,fF,fF,fF,fF,fF,fF,fF,fF,fF]) rfl (by kernel_rfl) rfl (fun _ _ _ h => h) hA (by decide) (fun _ => hS) (fun a w' hA => run_len_slice Try.underlying39 (hA.ev rfl)) ?_; clear hA; intro a hA
                  refine d_one (i := 7) (L' := #[tT,tT,tT,tT,tT,tT,tT,tT,fF,fF,fF,fF,fF,fF,fF,fF]) (by kernel_rfl) rfl rfl (st_call Try.call35 hA [(.pointer (some (⟨g0, 0, none⟩))), (.int .i64 ((xs5952.length : Nat) : Int))] rfl (by decide) (mill_Deck_Next.calls _ (lightclientmill_Deck.mk d_0.L r5981.2.At_) _ _ _ _ _ _ ((RoV.mk (hM.roC (Ms := [_]) hr0_0) (Eq.refl d_0.L.length) hc0_0)) (hM.front (Ms := [_])) H6729) ?_)
                  clear hA; rintro _ w6749 ⟨rfl, hMc⟩ a hA
                  have hM := hM.call (Ms := [_]) hMc
                  clear hMc; simp only [List.cons_append, List.nil_append] at hM
                  refine ⟨fun h => absurd h (by decide), ?_⟩
                  obtain ⟨ad6750, hq6751, hat6752⟩ := Row.elem' (p := pPlace) (RowOk.row (hM.row (p := pPlace) (.s (.s (.s .z))))) (RowOk.len (hM.row (p := pPlace) (.s (.s (.s .z))))) Place.z r6728.1 hi6731 hj6732
                  refine d_takef (i := 8) (L' := #[tT,tT,tT,tT,tT,tT,tT,tT,tT,fF,fF,fF,fF,fF,fF,fF]) rfl (by kernel_rfl) rfl (fun _ _ _ h => h) hA (by decide) (fun h => absurd h (by decide)) (fun a w' hA => run_idx Try.underlying39 Try.sizeOf70 (hA.ev rfl) hq6751 (hA.ev rfl) hi6731 hj6732) ?_; clear hA; intro a hA
                  refine d_takef (i := 9) (L' := #[tT,tT,tT,tT,tT,tT,tT,tT,tT,tT,fF,fF,fF,fF,fF,fF]) rfl (by kernel_rfl) rfl (fun _ _ _ h => h) hA (by decide) (fun h => absurd h (by decide)) (fun a w' hA => run_field' Try.underlying70 rfl rfl Try.sizeOf46 (by decide) (hA.ev rfl)) ?_; clear hA; intro a hA
                  refine d_one (i := 10) (L' := #[tT,tT,tT,tT,tT,tT,tT,tT,tT,tT,tT,fF,fF,fF,fF,fF]) (by kernel_rfl) rfl rfl (stv hA (by decide) (run_ld (hA.ev rfl) (run_loadP Try.isAgg46 Try.sizeOf46 (Place.at_Addr_ (hat6752)))) ?_)
                  clear hA; intro a hA
                  refine ⟨fun h => absurd h (by decide), ?_⟩
                  refine d_one (i := 11) (L' := #[tT,tT,tT,tT,tT,tT,tT,tT,tT,tT,tT,tT,fF,fF,fF,fF]) (by kernel_rfl) rfl rfl (st_call Try.call47 hA [(.agg (List.flatten [pHash.enc x5947, [(.slice A5950 xs5952.length c5951)], [(.slice A5955 xs5957.length c5956)]]).toArray), (.agg (pNAddr.enc ((xs5952.getD r6728.1.toNat Place.z).Addr_)).toArray)] rfl (by decide) (ref38_Good.calls _ (Book.mk x5947 xs5952 xs5957) _ _ _ _ _ _ ((hM.roV (p := pPlace) (Ms := []) (.s (.s (.s .z))))) ((hM.roV (p := pPlace) (Ms := []) (.s (.s (.s (.s .z)))))) (hM.front (Ms := [])) H6737) ?_)
                  clear hA; rintro _ w6753 ⟨v6754, v6755, rfl, hMc⟩ a hA
                  have hE := hMc.below; have hM := hM.call (Ms := []) hMc
                  clear hMc; simp only [List.cons_append, List.nil_append] at hM
                  obtain ⟨A6756, c6757, rfl⟩ := RowOk.form (hM.row (p := pPlace) .z)
                  obtain ⟨A6758, c6759, rfl⟩ := RowOk.form (hM.row (p := pPlace) (.s .z))
                  refine ⟨fun h => absurd h (by decide), ?_⟩
                  refine d_takef (i := 12) (L' := #[tT,tT,tT,tT,tT,tT,tT,tT,tT,tT,tT,tT,tT,fF,fF,fF]) rfl (by kernel_rfl) rfl (fun _ _ _ h => h) hA (by decide) (fun h => absurd h (by decide)) (fun a w' hA => run_move (hA.ev rfl)) ?_; clear hA; intro a hA
                  refine d_takef (i := 13) (L' := #[tT,tT,tT,tT,tT,tT,tT,tT,tT,tT,tT,tT,tT,tT,fF,fF]) rfl (by kernel_rfl) rfl (fun _ _ _ h => h) hA (by decide) (fun h => absurd h (by decide)) (fun a w' hA => run_ext (hA.ev rfl) rfl) ?_; clear hA; intro a hA
                  refine d_takef (i := 14) (L' := #[tT,tT,tT,tT,tT,tT,tT,tT,tT,tT,tT,tT,tT,tT,tT,fF]) rfl (by kernel_rfl) rfl (fun _ _ _ h => h) hA (by decide) (fun h => absurd h (by decide)) (fun a w' hA => run_ext (hA.ev rfl) rfl) ?_; clear hA; intro a hA
                  refine d_one (i := 15) (L' := #[tT,tT,tT,tT,tT,tT,tT,tT,tT,tT,tT,tT,tT,tT,tT,tT]) (by kernel_rfl) rfl rfl (e_store (g := g3525) (off := 0) (cur := (List.flatten [pHash.enc x5947, [(.slice A5950 xs5952.length c5951)], [(.slice A5955 xs5957.length c5956)]])) (cs' := (List.flatten [pHash.enc r6736.1.Salt, [(.slice A6756 r6736.1.Heard.length c6757)], [(.slice A6758 r6736.1.Tried.length c6759)]])) hM (.s (.s (.s (.s .z)))) Try.sizeOf41 hA rfl (by simp [add_mk]) rfl (by first | rfl | (simp [Value.cells, Pl.len]; done) | (simp [Value.cells, Pl.len]; rfl)) (one_flat (one_cons (Pl.one _ _) (one_cons (by simp [Value.oneCell']) (one_cons (by simp [Value.oneCell']) one_nil)))) (by first | exact Nat.le_of_ble_eq_true rfl | (simp [Pl.len]; done) | (simp [Pl.len]; decide)) (spl_all (by first | rfl | (simp [Value.cells, Pl.len]; done) | (simp [Value.cells, Pl.len]; rfl))) ?_)
                  clear hM hA; intro w6760  hM hE  a hA
                  refine ⟨fun h => absurd h (by decide), ?_⟩
                  refine d_done (by kernel_rfl) ?_
                  exact ⟨r6728.2.At_, r6736.1.Salt, r6736.1.Heard, r6736.1.Tried, (.slice A6756 r6736.1.Heard.length c6757), (.slice A6758 r6736.1.Tried.length c6759), Option.some.inj H6725, (hM.sel [2, 3, 4, 0, 1] rfl (by decide)), ((((hA.nil.cons (hA.get 4 _ rfl)).cons (hA.get 3 _ rfl)).cons (hA.get 2 _ rfl)).cons (hA.get 0 _ rfl))⟩
                · refine d_op (i := 5) (L' := #[tT,tT,fF,tT,tT,tT,fF,fF,fF,fF,fF,fF,fF,fF,fF,fF]) rfl rfl (stv hA (by decide) (run_ld (hA.ev rfl) (run_loadS Try.isAgg39 (At.seg (segs := [pHash.enc x5947, [(.slice A5950 xs5952.length c5951)], [(.slice A5955 xs5957.length c5956)]]) (hM.box (.s (.s .z))) 1 rfl (by simp [Pl.len]; try rfl)))) ?_)
                  clear hA; intro a hA
                  refine ⟨fun _ => hS, ?_⟩
                  refine d_takef (i := 6) (L' := #[tT,tT,fF,tT,tT,tT,tT,fF,fF,fF,fF,fF,fF,fF,fF,fF]) rfl (by kernel_rfl) rfl (fun _ _ _ h => h) hA (by decide) (fun _ => hS) (fun a w' hA => run_len_slice Try.underlying39 (hA.ev rfl)) ?_; clear hA; intro a hA
                  refine d_many (is := [2, 7]) (by kernel_rfl) (by decide) ⟨?_, ?_, trivial⟩
                  · refine d_op (i := 2) (L' := #[tT,tT,tT,tT,tT,tT,tT,fF,fF,fF,fF,fF,fF,fF,fF,fF]) rfl rfl (stv hA (by decide) (run_ld (hA.ev rfl) (run_loadS Try.isAgg39 (At.seg (segs := [pHash.enc x5947, [(.slice A5950 xs5952.length c5951)], [(.slice A5955 xs5957.length c5956)]]) (hM.box (.s (.s .z))) 1 rfl (by simp [Pl.len]; try rfl)))) ?_)
                    clear hA; intro a hA
                    refine ⟨fun _ => hS, ?_⟩
                    refine d_one (i := 7) (L' := #[tT,tT,tT,tT,tT,tT,tT,tT,fF,fF,fF,fF,fF,fF,fF,fF]) (by kernel_rfl) rfl rfl (st_call Try.call35 hA [(.pointer (some (⟨g0, 0, none⟩))), (.int .i64 ((xs5952.length : Nat) : Int))] rfl (by decide) (mill_Deck_Next.calls _ (lightclientmill_Deck.mk d_0.L r5981.2.At_) _ _ _ _ _ _ ((RoV.mk (hM.roC (Ms := [_]) hr0_0) (Eq.refl d_0.L.length) hc0_0)) (hM.front (Ms := [_])) H6729) ?_)
                    clear hA; rintro _ w6761 ⟨rfl, hMc⟩ a hA
                    have hM := hM.call (Ms := [_]) hMc
                    clear hMc; simp only [List.cons_append, List.nil_append] at hM
                    refine ⟨fun h => absurd h (by decide), ?_⟩
                    obtain ⟨ad6762, hq6763, hat6764⟩ := Row.elem' (p := pPlace) (RowOk.row (hM.row (p := pPlace) (.s (.s (.s .z))))) (RowOk.len (hM.row (p := pPlace) (.s (.s (.s .z))))) Place.z r6728.1 hi6731 hj6732
                    refine d_takef (i := 8) (L' := #[tT,tT,tT,tT,tT,tT,tT,tT,tT,fF,fF,fF,fF,fF,fF,fF]) rfl (by kernel_rfl) rfl (fun _ _ _ h => h) hA (by decide) (fun h => absurd h (by decide)) (fun a w' hA => run_idx Try.underlying39 Try.sizeOf70 (hA.ev rfl) hq6763 (hA.ev rfl) hi6731 hj6732) ?_; clear hA; intro a hA
                    refine d_takef (i := 9) (L' := #[tT,tT,tT,tT,tT,tT,tT,tT,tT,tT,fF,fF,fF,fF,fF,fF]) rfl (by kernel_rfl) rfl (fun _ _ _ h => h) hA (by decide) (fun h => absurd h (by decide)) (fun a w' hA => run_field' Try.underlying70 rfl rfl Try.sizeOf46 (by decide) (hA.ev rfl)) ?_; clear hA; intro a hA
                    refine d_one (i := 10) (L' := #[tT,tT,tT,tT,tT,tT,tT,tT,tT,tT,tT,fF,fF,fF,fF,fF]) (by kernel_rfl) rfl rfl (stv hA (by decide) (run_ld (hA.ev rfl) (run_loadP Try.isAgg46 Try.sizeOf46 (Place.at_Addr_ (hat6764)))) ?_)
                    clear hA; intro a hA
                    refine ⟨fun h => absurd h (by decide), ?_⟩
                    refine d_one (i := 11) (L' := #[tT,tT,tT,tT,tT,tT,tT,tT,tT,tT,tT,tT,fF,fF,fF,fF]) (by kernel_rfl) rfl rfl (st_call Try.call47 hA [(.agg (List.flatten [pHash.enc x5947, [(.slice A5950 xs5952.length c5951)], [(.slice A5955 xs5957.length c5956)]]).toArray), (.agg (pNAddr.enc ((xs5952.getD r6728.1.toNat Place.z).Addr_)).toArray)] rfl (by decide) (ref38_Good.calls _ (Book.mk x5947 xs5952 xs5957) _ _ _ _ _ _ ((hM.roV (p := pPlace) (Ms := []) (.s (.s (.s .z))))) ((hM.roV (p := pPlace) (Ms := []) (.s (.s (.s (.s .z)))))) (hM.front (Ms := [])) H6737) ?_)
                    clear hA; rintro _ w6765 ⟨v6766, v6767, rfl, hMc⟩ a hA
                    have hE := hMc.below; have hM := hM.call (Ms := []) hMc
                    clear hMc; simp only [List.cons_append, List.nil_append] at hM
                    obtain ⟨A6768, c6769, rfl⟩ := RowOk.form (hM.row (p := pPlace) .z)
                    obtain ⟨A6770, c6771, rfl⟩ := RowOk.form (hM.row (p := pPlace) (.s .z))
                    refine ⟨fun h => absurd h (by decide), ?_⟩
                    refine d_takef (i := 12) (L' := #[tT,tT,tT,tT,tT,tT,tT,tT,tT,tT,tT,tT,tT,fF,fF,fF]) rfl (by kernel_rfl) rfl (fun _ _ _ h => h) hA (by decide) (fun h => absurd h (by decide)) (fun a w' hA => run_move (hA.ev rfl)) ?_; clear hA; intro a hA
                    refine d_takef (i := 13) (L' := #[tT,tT,tT,tT,tT,tT,tT,tT,tT,tT,tT,tT,tT,tT,fF,fF]) rfl (by kernel_rfl) rfl (fun _ _ _ h => h) hA (by decide) (fun h => absurd h (by decide)) (fun a w' hA => run_ext (hA.ev rfl) rfl) ?_; clear hA; intro a hA
                    refine d_takef (i := 14) (L' := #[tT,tT,tT,tT,tT,tT,tT,tT,tT,tT,tT,tT,tT,tT,tT,fF]) rfl (by kernel_rfl) rfl (fun _ _ _ h => h) hA (by decide) (fun h => absurd h (by decide)) (fun a w' hA => run_ext (hA.ev rfl) rfl) ?_; clear hA; intro a hA
                    refine d_one (i := 15) (L' := #[tT,tT,tT,tT,tT,tT,tT,tT,tT,tT,tT,tT,tT,tT,tT,tT]) (by kernel_rfl) rfl rfl (e_store (g := g3525) (off := 0) (cur := (List.flatten [pHash.enc x5947, [(.slice A5950 xs5952.length c5951)], [(.slice A5955 xs5957.length c5956)]])) (cs' := (List.flatten [pHash.enc r6736.1.Salt, [(.slice A6768 r6736.1.Heard.length c6769)], [(.slice A6770 r6736.1.Tried.length c6771)]])) hM (.s (.s (.s (.s .z)))) Try.sizeOf41 hA rfl (by simp [add_mk]) rfl (by first | rfl | (simp [Value.cells, Pl.len]; done) | (simp [Value.cells, Pl.len]; rfl)) (one_flat (one_cons (Pl.one _ _) (one_cons (by simp [Value.oneCell']) (one_cons (by simp [Value.oneCell']) one_nil)))) (by first | exact Nat.le_of_ble_eq_true rfl | (simp [Pl.len]; done) | (simp [Pl.len]; decide)) (spl_all (by first | rfl | (simp [Value.cells, Pl.len]; done) | (simp [Value.cells, Pl.len]; rfl))) ?_)
                    clear hM hA; intro w6772  hM hE  a hA
                    refine ⟨fun h => absurd h (by decide), ?_⟩
                    refine d_done (by kernel_rfl) ?_
                    exact ⟨r6728.2.At_, r6736.1.Salt, r6736.1.Heard, r6736.1.Tried, (.slice A6768 r6736.1.Heard.length c6769), (.slice A6770 r6736.1.Tried.length c6771), Option.some.inj H6725, (hM.sel [2, 3, 4, 0, 1] rfl (by decide)), ((((hA.nil.cons (hA.get 4 _ rfl)).cons (hA.get 3 _ rfl)).cons (hA.get 2 _ rfl)).cons (hA.get 0 _ rfl))⟩
                  · refine d_op (i := 7) (L' := #[tT,tT,fF,tT,tT,tT,tT,tT,fF,fF,fF,fF,fF,fF,fF,fF]) rfl rfl (st_call Try.call35 hA [(.pointer (some (⟨g0, 0, none⟩))), (.int .i64 ((xs5952.length : Nat) : Int))] rfl (by decide) (mill_Deck_Next.calls _ (lightclientmill_Deck.mk d_0.L r5981.2.At_) _ _ _ _ _ _ ((RoV.mk (hM.roC (Ms := [_]) hr0_0) (Eq.refl d_0.L.length) hc0_0)) (hM.front (Ms := [_])) H6729) ?_)
                    clear hA; rintro _ w6773 ⟨rfl, hMc⟩ a hA
                    have hM := hM.call (Ms := [_]) hMc
                    clear hMc; simp only [List.cons_append, List.nil_append] at hM
                    refine ⟨fun h => absurd h (by decide), ?_⟩
                    refine d_one (i := 2) (L' := #[tT,tT,tT,tT,tT,tT,tT,tT,fF,fF,fF,fF,fF,fF,fF,fF]) (by kernel_rfl) rfl rfl (stv hA (by decide) (run_ld (hA.ev rfl) (run_loadS Try.isAgg39 (At.seg (segs := [pHash.enc x5947, [(.slice A5950 xs5952.length c5951)], [(.slice A5955 xs5957.length c5956)]]) (hM.box (.s (.s .z))) 1 rfl (by simp [Pl.len]; try rfl)))) ?_)
                    clear hA; intro a hA
                    refine ⟨fun h => absurd h (by decide), ?_⟩
                    obtain ⟨ad6774, hq6775, hat6776⟩ := Row.elem' (p := pPlace) (RowOk.row (hM.row (p := pPlace) (.s (.s (.s .z))))) (RowOk.len (hM.row (p := pPlace) (.s (.s (.s .z))))) Place.z r6728.1 hi6731 hj6732
                    refine d_takef (i := 8) (L' := #[tT,tT,tT,tT,tT,tT,tT,tT,tT,fF,fF,fF,fF,fF,fF,fF]) rfl (by kernel_rfl) rfl (fun _ _ _ h => h) hA (by decide) (fun h => absurd h (by decide)) (fun a w' hA => run_idx Try.underlying39 Try.sizeOf70 (hA.ev rfl) hq6775 (hA.ev rfl) hi6731 hj6732) ?_; clear hA; intro a hA
                    refine d_takef (i := 9) (L' := #[tT,tT,tT,tT,tT,tT,tT,tT,tT,tT,fF,fF,fF,fF,fF,fF]) rfl (by kernel_rfl) rfl (fun _ _ _ h => h) hA (by decide) (fun h => absurd h (by decide)) (fun a w' hA => run_field' Try.underlying70 rfl rfl Try.sizeOf46 (by decide) (hA.ev rfl)) ?_; clear hA; intro a hA
                    refine d_one (i := 10) (L' := #[tT,tT,tT,tT,tT,tT,tT,tT,tT,tT,tT,fF,fF,fF,fF,fF]) (by kernel_rfl) rfl rfl (stv hA (by decide) (run_ld (hA.ev rfl) (run_loadP Try.isAgg46 Try.sizeOf46 (Place.at_Addr_ (hat6776)))) ?_)
                    clear hA; intro a hA
                    refine ⟨fun h => absurd h (by decide), ?_⟩
                    refine d_one (i := 11) (L' := #[tT,tT,tT,tT,tT,tT,tT,tT,tT,tT,tT,tT,fF,fF,fF,fF]) (by kernel_rfl) rfl rfl (st_call Try.call47 hA [(.agg (List.flatten [pHash.enc x5947, [(.slice A5950 xs5952.length c5951)], [(.slice A5955 xs5957.length c5956)]]).toArray), (.agg (pNAddr.enc ((xs5952.getD r6728.1.toNat Place.z).Addr_)).toArray)] rfl (by decide) (ref38_Good.calls _ (Book.mk x5947 xs5952 xs5957) _ _ _ _ _ _ ((hM.roV (p := pPlace) (Ms := []) (.s (.s (.s .z))))) ((hM.roV (p := pPlace) (Ms := []) (.s (.s (.s (.s .z)))))) (hM.front (Ms := [])) H6737) ?_)
                    clear hA; rintro _ w6777 ⟨v6778, v6779, rfl, hMc⟩ a hA
                    have hE := hMc.below; have hM := hM.call (Ms := []) hMc
                    clear hMc; simp only [List.cons_append, List.nil_append] at hM
                    obtain ⟨A6780, c6781, rfl⟩ := RowOk.form (hM.row (p := pPlace) .z)
                    obtain ⟨A6782, c6783, rfl⟩ := RowOk.form (hM.row (p := pPlace) (.s .z))
                    refine ⟨fun h => absurd h (by decide), ?_⟩
                    refine d_takef (i := 12) (L' := #[tT,tT,tT,tT,tT,tT,tT,tT,tT,tT,tT,tT,tT,fF,fF,fF]) rfl (by kernel_rfl) rfl (fun _ _ _ h => h) hA (by decide) (fun h => absurd h (by decide)) (fun a w' hA => run_move (hA.ev rfl)) ?_; clear hA; intro a hA
                    refine d_takef (i := 13) (L' := #[tT,tT,tT,tT,tT,tT,tT,tT,tT,tT,tT,tT,tT,tT,fF,fF]) rfl (by kernel_rfl) rfl (fun _ _ _ h => h) hA (by decide) (fun h => absurd h (by decide)) (fun a w' hA => run_ext (hA.ev rfl) rfl) ?_; clear hA; intro a hA
                    refine d_takef (i := 14) (L' := #[tT,tT,tT,tT,tT,tT,tT,tT,tT,tT,tT,tT,tT,tT,tT,fF]) rfl (by kernel_rfl) rfl (fun _ _ _ h => h) hA (by decide) (fun h => absurd h (by decide)) (fun a w' hA => run_ext (hA.ev rfl) rfl) ?_; clear hA; intro a hA
                    refine d_one (i := 15) (L' := #[tT,tT,tT,tT,tT,tT,tT,tT,tT,tT,tT,tT,tT,tT,tT,tT]) (by kernel_rfl) rfl rfl (e_store (g := g3525) (off := 0) (cur := (List.flatten [pHash.enc x5947, [(.slice A5950 xs5952.length c5951)], [(.slice A5955 xs5957.length c5956)]])) (cs' := (List.flatten [pHash.enc r6736.1.Salt, [(.slice A6780 r6736.1.Heard.length c6781)], [(.slice A6782 r6736.1.Tried.length c6783)]])) hM (.s (.s (.s (.s .z)))) Try.sizeOf41 hA rfl (by simp [add_mk]) rfl (by first | rfl | (simp [Value.cells, Pl.len]; done) | (simp [Value.cells, Pl.len]; rfl)) (one_flat (one_cons (Pl.one _ _) (one_cons (by simp [Value.oneCell']) (one_cons (by simp [Value.oneCell']) one_nil)))) (by first | exact Nat.le_of_ble_eq_true rfl | (simp [Pl.len]; done) | (simp [Pl.len]; decide)) (spl_all (by first | rfl | (simp [Value.cells, Pl.len]; done) | (simp [Value.cells, Pl.len]; rfl))) ?_)
                    clear hM hA; intro w6784  hM hE  a hA
                    refine ⟨fun h => absurd h (by decide), ?_⟩
                    refine d_done (by kernel_rfl) ?_
                    exact ⟨r6728.2.At_, r6736.1.Salt, r6736.1.Heard, r6736.1.Tried, (.slice A6780 r6736.1.Heard.length c6781), (.slice A6782 r6736.1.Tried.length c6783), Option.some.inj H6725, (hM.sel [2, 3, 4, 0, 1] rfl (by decide)), ((((hA.nil.cons (hA.get 4 _ rfl)).cons (hA.get 3 _ rfl)).cons (hA.get 2 _ rfl)).cons (hA.get 0 _ rfl))⟩
              · refine d_op (i := 2) (L' := #[fF,tT,tT,tT,tT,fF,fF,fF,fF,fF,fF,fF,fF,fF,fF,fF]) rfl rfl (stv hA (by decide) (run_ld (hA.ev rfl) (run_loadS Try.isAgg39 (At.seg (segs := [pHash.enc x5947, [(.slice A5950 xs5952.length c5951)], [(.slice A5955 xs5957.length c5956)]]) (hM.box (.s (.s .z))) 1 rfl (by simp [Pl.len]; try rfl)))) ?_)
                clear hA; intro a hA
                refine ⟨fun _ => hS, ?_⟩
                refine d_many (is := [0, 5]) (by kernel_rfl) (by decide) ⟨?_, ?_, trivial⟩
                · refine d_op (i := 0) (L' := #[tT,tT,tT,tT,tT,fF,fF,fF,fF,fF,fF,fF,fF,fF,fF,fF]) rfl rfl (stv hA (by decide) (run_ld (hA.ev rfl) (run_loadW Try.isAgg41 Try.sizeOf41 (by simp [Pl.len]; try rfl) (hM.box (.s (.s .z))))) ?_)
                  clear hA; intro a hA
                  refine ⟨fun _ => hS, ?_⟩
                  refine d_one (i := 5) (L' := #[tT,tT,tT,tT,tT,tT,fF,fF,fF,fF,fF,fF,fF,fF,fF,fF]) (by kernel_rfl) rfl rfl (stv hA (by decide) (run_ld (hA.ev rfl) (run_loadS Try.isAgg39 (At.seg (segs := [pHash.enc x5947, [(.slice A5950 xs5952.length c5951)], [(.slice A5955 xs5957.length c5956)]]) (hM.box (.s (.s .z))) 1 rfl (by simp [Pl.len]; try rfl)))) ?_)
                  clear hA; intro a hA
                  refine ⟨fun _ => hS, ?_⟩
                  refine d_takef (i := 6) (L' := #[tT,tT,tT,tT,tT,tT,tT,fF,fF,fF,fF,fF,fF,fF,fF,fF]) rfl (by kernel_rfl) rfl (fun _ _ _ h => h) hA (by decide) (fun _ => hS) (fun a w' hA => run_len_slice Try.underlying39 (hA.ev rfl)) ?_; clear hA; intro a hA
                  refine d_one (i := 7) (L' := #[tT,tT,tT,tT,tT,tT,tT,tT,fF,fF,fF,fF,fF,fF,fF,fF]) (by kernel_rfl) rfl rfl (st_call Try.call35 hA [(.pointer (some (⟨g0, 0, none⟩))), (.int .i64 ((xs5952.length : Nat) : Int))] rfl (by decide) (mill_Deck_Next.calls _ (lightclientmill_Deck.mk d_0.L r5981.2.At_) _ _ _ _ _ _ ((RoV.mk (hM.roC (Ms := [_]) hr0_0) (Eq.refl d_0.L.length) hc0_0)) (hM.front (Ms := [_])) H6729) ?_)
                  clear hA; rintro _ w6785 ⟨rfl, hMc⟩ a hA
                  have hM := hM.call (Ms := [_]) hMc
                  clear hMc; simp only [List.cons_append, List.nil_append] at hM
                  refine ⟨fun h => absurd h (by decide), ?_⟩
                  obtain ⟨ad6786, hq6787, hat6788⟩ := Row.elem' (p := pPlace) (RowOk.row (hM.row (p := pPlace) (.s (.s (.s .z))))) (RowOk.len (hM.row (p := pPlace) (.s (.s (.s .z))))) Place.z r6728.1 hi6731 hj6732
                  refine d_takef (i := 8) (L' := #[tT,tT,tT,tT,tT,tT,tT,tT,tT,fF,fF,fF,fF,fF,fF,fF]) rfl (by kernel_rfl) rfl (fun _ _ _ h => h) hA (by decide) (fun h => absurd h (by decide)) (fun a w' hA => run_idx Try.underlying39 Try.sizeOf70 (hA.ev rfl) hq6787 (hA.ev rfl) hi6731 hj6732) ?_; clear hA; intro a hA
                  refine d_takef (i := 9) (L' := #[tT,tT,tT,tT,tT,tT,tT,tT,tT,tT,fF,fF,fF,fF,fF,fF]) rfl (by kernel_rfl) rfl (fun _ _ _ h => h) hA (by decide) (fun h => absurd h (by decide)) (fun a w' hA => run_field' Try.underlying70 rfl rfl Try.sizeOf46 (by decide) (hA.ev rfl)) ?_; clear hA; intro a hA
                  refine d_one (i := 10) (L' := #[tT,tT,tT,tT,tT,tT,tT,tT,tT,tT,tT,fF,fF,fF,fF,fF]) (by kernel_rfl) rfl rfl (stv hA (by decide) (run_ld (hA.ev rfl) (run_loadP Try.isAgg46 Try.sizeOf46 (Place.at_Addr_ (hat6788)))) ?_)
                  clear hA; intro a hA
                  refine ⟨fun h => absurd h (by decide), ?_⟩
                  refine d_one (i := 11) (L' := #[tT,tT,tT,tT,tT,tT,tT,tT,tT,tT,tT,tT,fF,fF,fF,fF]) (by kernel_rfl) rfl rfl (st_call Try.call47 hA [(.agg (List.flatten [pHash.enc x5947, [(.slice A5950 xs5952.length c5951)], [(.slice A5955 xs5957.length c5956)]]).toArray), (.agg (pNAddr.enc ((xs5952.getD r6728.1.toNat Place.z).Addr_)).toArray)] rfl (by decide) (ref38_Good.calls _ (Book.mk x5947 xs5952 xs5957) _ _ _ _ _ _ ((hM.roV (p := pPlace) (Ms := []) (.s (.s (.s .z))))) ((hM.roV (p := pPlace) (Ms := []) (.s (.s (.s (.s .z)))))) (hM.front (Ms := [])) H6737) ?_)
                  clear hA; rintro _ w6789 ⟨v6790, v6791, rfl, hMc⟩ a hA
                  have hE := hMc.below; have hM := hM.call (Ms := []) hMc
                  clear hMc; simp only [List.cons_append, List.nil_append] at hM
                  obtain ⟨A6792, c6793, rfl⟩ := RowOk.form (hM.row (p := pPlace) .z)
                  obtain ⟨A6794, c6795, rfl⟩ := RowOk.form (hM.row (p := pPlace) (.s .z))
                  refine ⟨fun h => absurd h (by decide), ?_⟩
                  refine d_takef (i := 12) (L' := #[tT,tT,tT,tT,tT,tT,tT,tT,tT,tT,tT,tT,tT,fF,fF,fF]) rfl (by kernel_rfl) rfl (fun _ _ _ h => h) hA (by decide) (fun h => absurd h (by decide)) (fun a w' hA => run_move (hA.ev rfl)) ?_; clear hA; intro a hA
                  refine d_takef (i := 13) (L' := #[tT,tT,tT,tT,tT,tT,tT,tT,tT,tT,tT,tT,tT,tT,fF,fF]) rfl (by kernel_rfl) rfl (fun _ _ _ h => h) hA (by decide) (fun h => absurd h (by decide)) (fun a w' hA => run_ext (hA.ev rfl) rfl) ?_; clear hA; intro a hA
                  refine d_takef (i := 14) (L' := #[tT,tT,tT,tT,tT,tT,tT,tT,tT,tT,tT,tT,tT,tT,tT,fF]) rfl (by kernel_rfl) rfl (fun _ _ _ h => h) hA (by decide) (fun h => absurd h (by decide)) (fun a w' hA => run_ext (hA.ev rfl) rfl) ?_; clear hA; intro a hA
                  refine d_one (i := 15) (L' := #[tT,tT,tT,tT,tT,tT,tT,tT,tT,tT,tT,tT,tT,tT,tT,tT]) (by kernel_rfl) rfl rfl (e_store (g := g3525) (off := 0) (cur := (List.flatten [pHash.enc x5947, [(.slice A5950 xs5952.length c5951)], [(.slice A5955 xs5957.length c5956)]])) (cs' := (List.flatten [pHash.enc r6736.1.Salt, [(.slice A6792 r6736.1.Heard.length c6793)], [(.slice A6794 r6736.1.Tried.length c6795)]])) hM (.s (.s (.s (.s .z)))) Try.sizeOf41 hA rfl (by simp [add_mk]) rfl (by first | rfl | (simp [Value.cells, Pl.len]; done) | (simp [Value.cells, Pl.len]; rfl)) (one_flat (one_cons (Pl.one _ _) (one_cons (by simp [Value.oneCell']) (one_cons (by simp [Value.oneCell']) one_nil)))) (by first | exact Nat.le_of_ble_eq_true rfl | (simp [Pl.len]; done) | (simp [Pl.len]; decide)) (spl_all (by first | rfl | (simp [Value.cells, Pl.len]; done) | (simp [Value.cells, Pl.len]; rfl))) ?_)
                  clear hM hA; intro w6796  hM hE  a hA
                  refine ⟨fun h => absurd h (by decide), ?_⟩
                  refine d_done (by kernel_rfl) ?_
                  exact ⟨r6728.2.At_, r6736.1.Salt, r6736.1.Heard, r6736.1.Tried, (.slice A6792 r6736.1.Heard.length c6793), (.slice A6794 r6736.1.Tried.length c6795), Option.some.inj H6725, (hM.sel [2, 3, 4, 0, 1] rfl (by decide)), ((((hA.nil.cons (hA.get 4 _ rfl)).cons (hA.get 3 _ rfl)).cons (hA.get 2 _ rfl)).cons (hA.get 0 _ rfl))⟩
                · refine d_op (i := 5) (L' := #[fF,tT,tT,tT,tT,tT,fF,fF,fF,fF,fF,fF,fF,fF,fF,fF]) rfl rfl (stv hA (by decide) (run_ld (hA.ev rfl) (run_loadS Try.isAgg39 (At.seg (segs := [pHash.enc x5947, [(.slice A5950 xs5952.length c5951)], [(.slice A5955 xs5957.length c5956)]]) (hM.box (.s (.s .z))) 1 rfl (by simp [Pl.len]; try rfl)))) ?_)
                  clear hA; intro a hA
                  refine ⟨fun _ => hS, ?_⟩
                  refine d_takef (i := 6) (L' := #[fF,tT,tT,tT,tT,tT,tT,fF,fF,fF,fF,fF,fF,fF,fF,fF]) rfl (by kernel_rfl) rfl (fun _ _ _ h => h) hA (by decide) (fun _ => hS) (fun a w' hA => run_len_slice Try.underlying39 (hA.ev rfl)) ?_; clear hA; intro a hA
                  refine d_many (is := [0, 7]) (by kernel_rfl) (by decide) ⟨?_, ?_, trivial⟩
                  · refine d_op (i := 0) (L' := #[tT,tT,tT,tT,tT,tT,tT,fF,fF,fF,fF,fF,fF,fF,fF,fF]) rfl rfl (stv hA (by decide) (run_ld (hA.ev rfl) (run_loadW Try.isAgg41 Try.sizeOf41 (by simp [Pl.len]; try rfl) (hM.box (.s (.s .z))))) ?_)
                    clear hA; intro a hA
                    refine ⟨fun _ => hS, ?_⟩
                    refine d_one (i := 7) (L' := #[tT,tT,tT,tT,tT,tT,tT,tT,fF,fF,fF,fF,fF,fF,fF,fF]) (by kernel_rfl) rfl rfl (st_call Try.call35 hA [(.pointer (some (⟨g0, 0, none⟩))), (.int .i64 ((xs5952.length : Nat) : Int))] rfl (by decide) (mill_Deck_Next.calls _ (lightclientmill_Deck.mk d_0.L r5981.2.At_) _ _ _ _ _ _ ((RoV.mk (hM.roC (Ms := [_]) hr0_0) (Eq.refl d_0.L.length) hc0_0)) (hM.front (Ms := [_])) H6729) ?_)
                    clear hA; rintro _ w6797 ⟨rfl, hMc⟩ a hA
                    have hM := hM.call (Ms := [_]) hMc
                    clear hMc; simp only [List.cons_append, List.nil_append] at hM
                    refine ⟨fun h => absurd h (by decide), ?_⟩
                    obtain ⟨ad6798, hq6799, hat6800⟩ := Row.elem' (p := pPlace) (RowOk.row (hM.row (p := pPlace) (.s (.s (.s .z))))) (RowOk.len (hM.row (p := pPlace) (.s (.s (.s .z))))) Place.z r6728.1 hi6731 hj6732
                    refine d_takef (i := 8) (L' := #[tT,tT,tT,tT,tT,tT,tT,tT,tT,fF,fF,fF,fF,fF,fF,fF]) rfl (by kernel_rfl) rfl (fun _ _ _ h => h) hA (by decide) (fun h => absurd h (by decide)) (fun a w' hA => run_idx Try.underlying39 Try.sizeOf70 (hA.ev rfl) hq6799 (hA.ev rfl) hi6731 hj6732) ?_; clear hA; intro a hA
                    refine d_takef (i := 9) (L' := #[tT,tT,tT,tT,tT,tT,tT,tT,tT,tT,fF,fF,fF,fF,fF,fF]) rfl (by kernel_rfl) rfl (fun _ _ _ h => h) hA (by decide) (fun h => absurd h (by decide)) (fun a w' hA => run_field' Try.underlying70 rfl rfl Try.sizeOf46 (by decide) (hA.ev rfl)) ?_; clear hA; intro a hA
                    refine d_one (i := 10) (L' := #[tT,tT,tT,tT,tT,tT,tT,tT,tT,tT,tT,fF,fF,fF,fF,fF]) (by kernel_rfl) rfl rfl (stv hA (by decide) (run_ld (hA.ev rfl) (run_loadP Try.isAgg46 Try.sizeOf46 (Place.at_Addr_ (hat6800)))) ?_)
                    clear hA; intro a hA
                    refine ⟨fun h => absurd h (by decide), ?_⟩
                    refine d_one (i := 11) (L' := #[tT,tT,tT,tT,tT,tT,tT,tT,tT,tT,tT,tT,fF,fF,fF,fF]) (by kernel_rfl) rfl rfl (st_call Try.call47 hA [(.agg (List.flatten [pHash.enc x5947, [(.slice A5950 xs5952.length c5951)], [(.slice A5955 xs5957.length c5956)]]).toArray), (.agg (pNAddr.enc ((xs5952.getD r6728.1.toNat Place.z).Addr_)).toArray)] rfl (by decide) (ref38_Good.calls _ (Book.mk x5947 xs5952 xs5957) _ _ _ _ _ _ ((hM.roV (p := pPlace) (Ms := []) (.s (.s (.s .z))))) ((hM.roV (p := pPlace) (Ms := []) (.s (.s (.s (.s .z)))))) (hM.front (Ms := [])) H6737) ?_)
                    clear hA; rintro _ w6801 ⟨v6802, v6803, rfl, hMc⟩ a hA
                    have hE := hMc.below; have hM := hM.call (Ms := []) hMc
                    clear hMc; simp only [List.cons_append, List.nil_append] at hM
                    obtain ⟨A6804, c6805, rfl⟩ := RowOk.form (hM.row (p := pPlace) .z)
                    obtain ⟨A6806, c6807, rfl⟩ := RowOk.form (hM.row (p := pPlace) (.s .z))
                    refine ⟨fun h => absurd h (by decide), ?_⟩
                    refine d_takef (i := 12) (L' := #[tT,tT,tT,tT,tT,tT,tT,tT,tT,tT,tT,tT,tT,fF,fF,fF]) rfl (by kernel_rfl) rfl (fun _ _ _ h => h) hA (by decide) (fun h => absurd h (by decide)) (fun a w' hA => run_move (hA.ev rfl)) ?_; clear hA; intro a hA
                    refine d_takef (i := 13) (L' := #[tT,tT,tT,tT,tT,tT,tT,tT,tT,tT,tT,tT,tT,tT,fF,fF]) rfl (by kernel_rfl) rfl (fun _ _ _ h => h) hA (by decide) (fun h => absurd h (by decide)) (fun a w' hA => run_ext (hA.ev rfl) rfl) ?_; clear hA; intro a hA
                    refine d_takef (i := 14) (L' := #[tT,tT,tT,tT,tT,tT,tT,tT,tT,tT,tT,tT,tT,tT,tT,fF]) rfl (by kernel_rfl) rfl (fun _ _ _ h => h) hA (by decide) (fun h => absurd h (by decide)) (fun a w' hA => run_ext (hA.ev rfl) rfl) ?_; clear hA; intro a hA
                    refine d_one (i := 15) (L' := #[tT,tT,tT,tT,tT,tT,tT,tT,tT,tT,tT,tT,tT,tT,tT,tT]) (by kernel_rfl) rfl rfl (e_store (g := g3525) (off := 0) (cur := (List.flatten [pHash.enc x5947, [(.slice A5950 xs5952.length c5951)], [(.slice A5955 xs5957.length c5956)]])) (cs' := (List.flatten [pHash.enc r6736.1.Salt, [(.slice A6804 r6736.1.Heard.length c6805)], [(.slice A6806 r6736.1.Tried.length c6807)]])) hM (.s (.s (.s (.s .z)))) Try.sizeOf41 hA rfl (by simp [add_mk]) rfl (by first | rfl | (simp [Value.cells, Pl.len]; done) | (simp [Value.cells, Pl.len]; rfl)) (one_flat (one_cons (Pl.one _ _) (one_cons (by simp [Value.oneCell']) (one_cons (by simp [Value.oneCell']) one_nil)))) (by first | exact Nat.le_of_ble_eq_true rfl | (simp [Pl.len]; done) | (simp [Pl.len]; decide)) (spl_all (by first | rfl | (simp [Value.cells, Pl.len]; done) | (simp [Value.cells, Pl.len]; rfl))) ?_)
                    clear hM hA; intro w6808  hM hE  a hA
                    refine ⟨fun h => absurd h (by decide), ?_⟩
                    refine d_done (by kernel_rfl) ?_
                    exact ⟨r6728.2.At_, r6736.1.Salt, r6736.1.Heard, r6736.1.Tried, (.slice A6804 r6736.1.Heard.length c6805), (.slice A6806 r6736.1.Tried.length c6807), Option.some.inj H6725, (hM.sel [2, 3, 4, 0, 1] rfl (by decide)), ((((hA.nil.cons (hA.get 4 _ rfl)).cons (hA.get 3 _ rfl)).cons (hA.get 2 _ rfl)).cons (hA.get 0 _ rfl))⟩
                  · refine d_op (i := 7) (L' := #[fF,tT,tT,tT,tT,tT,tT,tT,fF,fF,fF,fF,fF,fF,fF,fF]) rfl rfl (st_call Try.call35 hA [(.pointer (some (⟨g0, 0, none⟩))), (.int .i64 ((xs5952.length : Nat) : Int))] rfl (by decide) (mill_Deck_Next.calls _ (lightclientmill_Deck.mk d_0.L r5981.2.At_) _ _ _ _ _ _ ((RoV.mk (hM.roC (Ms := [_]) hr0_0) (Eq.refl d_0.L.length) hc0_0)) (hM.front (Ms := [_])) H6729) ?_)
                    clear hA; rintro _ w6809 ⟨rfl, hMc⟩ a hA
                    have hM := hM.call (Ms := [_]) hMc
                    clear hMc; simp only [List.cons_append, List.nil_append] at hM
                    refine ⟨fun h => absurd h (by decide), ?_⟩
                    obtain ⟨ad6810, hq6811, hat6812⟩ := Row.elem' (p := pPlace) (RowOk.row (hM.row (p := pPlace) (.s (.s (.s .z))))) (RowOk.len (hM.row (p := pPlace) (.s (.s (.s .z))))) Place.z r6728.1 hi6731 hj6732
                    refine d_takef (i := 8) (L' := #[fF,tT,tT,tT,tT,tT,tT,tT,tT,fF,fF,fF,fF,fF,fF,fF]) rfl (by kernel_rfl) rfl (fun _ _ _ h => h) hA (by decide) (fun h => absurd h (by decide)) (fun a w' hA => run_idx Try.underlying39 Try.sizeOf70 (hA.ev rfl) hq6811 (hA.ev rfl) hi6731 hj6732) ?_; clear hA; intro a hA
                    refine d_takef (i := 9) (L' := #[fF,tT,tT,tT,tT,tT,tT,tT,tT,tT,fF,fF,fF,fF,fF,fF]) rfl (by kernel_rfl) rfl (fun _ _ _ h => h) hA (by decide) (fun h => absurd h (by decide)) (fun a w' hA => run_field' Try.underlying70 rfl rfl Try.sizeOf46 (by decide) (hA.ev rfl)) ?_; clear hA; intro a hA
                    refine d_many (is := [0, 10]) (by kernel_rfl) (by decide) ⟨?_, ?_, trivial⟩
                    · refine d_op (i := 0) (L' := #[tT,tT,tT,tT,tT,tT,tT,tT,tT,tT,fF,fF,fF,fF,fF,fF]) rfl rfl (stv hA (by decide) (run_ld (hA.ev rfl) (run_loadW Try.isAgg41 Try.sizeOf41 (by simp [Pl.len]; try rfl) (hM.box (.s (.s .z))))) ?_)
                      clear hA; intro a hA
                      refine ⟨fun h => absurd h (by decide), ?_⟩
                      refine d_one (i := 10) (L' := #[tT,tT,tT,tT,tT,tT,tT,tT,tT,tT,tT,fF,fF,fF,fF,fF]) (by kernel_rfl) rfl rfl (stv hA (by decide) (run_ld (hA.ev rfl) (run_loadP Try.isAgg46 Try.sizeOf46 (Place.at_Addr_ (hat6812)))) ?_)
                      clear hA; intro a hA
                      refine ⟨fun h => absurd h (by decide), ?_⟩
                      refine d_one (i := 11) (L' := #[tT,tT,tT,tT,tT,tT,tT,tT,tT,tT,tT,tT,fF,fF,fF,fF]) (by kernel_rfl) rfl rfl (st_call Try.call47 hA [(.agg (List.flatten [pHash.enc x5947, [(.slice A5950 xs5952.length c5951)], [(.slice A5955 xs5957.length c5956)]]).toArray), (.agg (pNAddr.enc ((xs5952.getD r6728.1.toNat Place.z).Addr_)).toArray)] rfl (by decide) (ref38_Good.calls _ (Book.mk x5947 xs5952 xs5957) _ _ _ _ _ _ ((hM.roV (p := pPlace) (Ms := []) (.s (.s (.s .z))))) ((hM.roV (p := pPlace) (Ms := []) (.s (.s (.s (.s .z)))))) (hM.front (Ms := [])) H6737) ?_)
                      clear hA; rintro _ w6813 ⟨v6814, v6815, rfl, hMc⟩ a hA
                      have hE := hMc.below; have hM := hM.call (Ms := []) hMc
                      clear hMc; simp only [List.cons_append, List.nil_append] at hM
                      obtain ⟨A6816, c6817, rfl⟩ := RowOk.form (hM.row (p := pPlace) .z)
                      obtain ⟨A6818, c6819, rfl⟩ := RowOk.form (hM.row (p := pPlace) (.s .z))
                      refine ⟨fun h => absurd h (by decide), ?_⟩
                      refine d_takef (i := 12) (L' := #[tT,tT,tT,tT,tT,tT,tT,tT,tT,tT,tT,tT,tT,fF,fF,fF]) rfl (by kernel_rfl) rfl (fun _ _ _ h => h) hA (by decide) (fun h => absurd h (by decide)) (fun a w' hA => run_move (hA.ev rfl)) ?_; clear hA; intro a hA
                      refine d_takef (i := 13) (L' := #[tT,tT,tT,tT,tT,tT,tT,tT,tT,tT,tT,tT,tT,tT,fF,fF]) rfl (by kernel_rfl) rfl (fun _ _ _ h => h) hA (by decide) (fun h => absurd h (by decide)) (fun a w' hA => run_ext (hA.ev rfl) rfl) ?_; clear hA; intro a hA
                      refine d_takef (i := 14) (L' := #[tT,tT,tT,tT,tT,tT,tT,tT,tT,tT,tT,tT,tT,tT,tT,fF]) rfl (by kernel_rfl) rfl (fun _ _ _ h => h) hA (by decide) (fun h => absurd h (by decide)) (fun a w' hA => run_ext (hA.ev rfl) rfl) ?_; clear hA; intro a hA
                      refine d_one (i := 15) (L' := #[tT,tT,tT,tT,tT,tT,tT,tT,tT,tT,tT,tT,tT,tT,tT,tT]) (by kernel_rfl) rfl rfl (e_store (g := g3525) (off := 0) (cur := (List.flatten [pHash.enc x5947, [(.slice A5950 xs5952.length c5951)], [(.slice A5955 xs5957.length c5956)]])) (cs' := (List.flatten [pHash.enc r6736.1.Salt, [(.slice A6816 r6736.1.Heard.length c6817)], [(.slice A6818 r6736.1.Tried.length c6819)]])) hM (.s (.s (.s (.s .z)))) Try.sizeOf41 hA rfl (by simp [add_mk]) rfl (by first | rfl | (simp [Value.cells, Pl.len]; done) | (simp [Value.cells, Pl.len]; rfl)) (one_flat (one_cons (Pl.one _ _) (one_cons (by simp [Value.oneCell']) (one_cons (by simp [Value.oneCell']) one_nil)))) (by first | exact Nat.le_of_ble_eq_true rfl | (simp [Pl.len]; done) | (simp [Pl.len]; decide)) (spl_all (by first | rfl | (simp [Value.cells, Pl.len]; done) | (simp [Value.cells, Pl.len]; rfl))) ?_)
                      clear hM hA; intro w6820  hM hE  a hA
                      refine ⟨fun h => absurd h (by decide), ?_⟩
                      refine d_done (by kernel_rfl) ?_
                      exact ⟨r6728.2.At_, r6736.1.Salt, r6736.1.Heard, r6736.1.Tried, (.slice A6816 r6736.1.Heard.length c6817), (.slice A6818 r6736.1.Tried.length c6819), Option.some.inj H6725, (hM.sel [2, 3, 4, 0, 1] rfl (by decide)), ((((hA.nil.cons (hA.get 4 _ rfl)).cons (hA.get 3 _ rfl)).cons (hA.get 2 _ rfl)).cons (hA.get 0 _ rfl))⟩
                    · refine d_op (i := 10) (L' := #[fF,tT,tT,tT,tT,tT,tT,tT,tT,tT,tT,fF,fF,fF,fF,fF]) rfl rfl (stv hA (by decide) (run_ld (hA.ev rfl) (run_loadP Try.isAgg46 Try.sizeOf46 (Place.at_Addr_ (hat6812)))) ?_)
                      clear hA; intro a hA
                      refine ⟨fun h => absurd h (by decide), ?_⟩
                      refine d_one (i := 0) (L' := #[tT,tT,tT,tT,tT,tT,tT,tT,tT,tT,tT,fF,fF,fF,fF,fF]) (by kernel_rfl) rfl rfl (stv hA (by decide) (run_ld (hA.ev rfl) (run_loadW Try.isAgg41 Try.sizeOf41 (by simp [Pl.len]; try rfl) (hM.box (.s (.s .z))))) ?_)
                      clear hA; intro a hA
                      refine ⟨fun h => absurd h (by decide), ?_⟩
                      refine d_one (i := 11) (L' := #[tT,tT,tT,tT,tT,tT,tT,tT,tT,tT,tT,tT,fF,fF,fF,fF]) (by kernel_rfl) rfl rfl (st_call Try.call47 hA [(.agg (List.flatten [pHash.enc x5947, [(.slice A5950 xs5952.length c5951)], [(.slice A5955 xs5957.length c5956)]]).toArray), (.agg (pNAddr.enc ((xs5952.getD r6728.1.toNat Place.z).Addr_)).toArray)] rfl (by decide) (ref38_Good.calls _ (Book.mk x5947 xs5952 xs5957) _ _ _ _ _ _ ((hM.roV (p := pPlace) (Ms := []) (.s (.s (.s .z))))) ((hM.roV (p := pPlace) (Ms := []) (.s (.s (.s (.s .z)))))) (hM.front (Ms := [])) H6737) ?_)
                      clear hA; rintro _ w6821 ⟨v6822, v6823, rfl, hMc⟩ a hA
                      have hE := hMc.below; have hM := hM.call (Ms := []) hMc
                      clear hMc; simp only [List.cons_append, List.nil_append] at hM
                      obtain ⟨A6824, c6825, rfl⟩ := RowOk.form (hM.row (p := pPlace) .z)
                      obtain ⟨A6826, c6827, rfl⟩ := RowOk.form (hM.row (p := pPlace) (.s .z))
                      refine ⟨fun h => absurd h (by decide), ?_⟩
                      refine d_takef (i := 12) (L' := #[tT,tT,tT,tT,tT,tT,tT,tT,tT,tT,tT,tT,tT,fF,fF,fF]) rfl (by kernel_rfl) rfl (fun _ _ _ h => h) hA (by decide) (fun h => absurd h (by decide)) (fun a w' hA => run_move (hA.ev rfl)) ?_; clear hA; intro a hA
                      refine d_takef (i := 13) (L' := #[tT,tT,tT,tT,tT,tT,tT,tT,tT,tT,tT,tT,tT,tT,fF,fF]) rfl (by kernel_rfl) rfl (fun _ _ _ h => h) hA (by decide) (fun h => absurd h (by decide)) (fun a w' hA => run_ext (hA.ev rfl) rfl) ?_; clear hA; intro a hA
                      refine d_takef (i := 14) (L' := #[tT,tT,tT,tT,tT,tT,tT,tT,tT,tT,tT,tT,tT,tT,tT,fF]) rfl (by kernel_rfl) rfl (fun _ _ _ h => h) hA (by decide) (fun h => absurd h (by decide)) (fun a w' hA => run_ext (hA.ev rfl) rfl) ?_; clear hA; intro a hA
                      refine d_one (i := 15) (L' := #[tT,tT,tT,tT,tT,tT,tT,tT,tT,tT,tT,tT,tT,tT,tT,tT]) (by kernel_rfl) rfl rfl (e_store (g := g3525) (off := 0) (cur := (List.flatten [pHash.enc x5947, [(.slice A5950 xs5952.length c5951)], [(.slice A5955 xs5957.length c5956)]])) (cs' := (List.flatten [pHash.enc r6736.1.Salt, [(.slice A6824 r6736.1.Heard.length c6825)], [(.slice A6826 r6736.1.Tried.length c6827)]])) hM (.s (.s (.s (.s .z)))) Try.sizeOf41 hA rfl (by simp [add_mk]) rfl (by first | rfl | (simp [Value.cells, Pl.len]; done) | (simp [Value.cells, Pl.len]; rfl)) (one_flat (one_cons (Pl.one _ _) (one_cons (by simp [Value.oneCell']) (one_cons (by simp [Value.oneCell']) one_nil)))) (by first | exact Nat.le_of_ble_eq_true rfl | (simp [Pl.len]; done) | (simp [Pl.len]; decide)) (spl_all (by first | rfl | (simp [Value.cells, Pl.len]; done) | (simp [Value.cells, Pl.len]; rfl))) ?_)
                      clear hM hA; intro w6828  hM hE  a hA
                      refine ⟨fun h => absurd h (by decide), ?_⟩
                      refine d_done (by kernel_rfl) ?_
                      exact ⟨r6728.2.At_, r6736.1.Salt, r6736.1.Heard, r6736.1.Tried, (.slice A6824 r6736.1.Heard.length c6825), (.slice A6826 r6736.1.Tried.length c6827), Option.some.inj H6725, (hM.sel [2, 3, 4, 0, 1] rfl (by decide)), ((((hA.nil.cons (hA.get 4 _ rfl)).cons (hA.get 3 _ rfl)).cons (hA.get 2 _ rfl)).cons (hA.get 0 _ rfl))⟩
              · refine d_op (i := 5) (L' := #[fF,tT,fF,tT,tT,tT,fF,fF,fF,fF,fF,fF,fF,fF,fF,fF]) rfl rfl (stv hA (by decide) (run_ld (hA.ev rfl) (run_loadS Try.isAgg39 (At.seg (segs := [pHash.enc x5947, [(.slice A5950 xs5952.length c5951)], [(.slice A5955 xs5957.length c5956)]]) (hM.box (.s (.s .z))) 1 rfl (by simp [Pl.len]; try rfl)))) ?_)
                clear hA; intro a hA
                refine ⟨fun _ => hS, ?_⟩
                refine d_takef (i := 6) (L' := #[fF,tT,fF,tT,tT,tT,tT,fF,fF,fF,fF,fF,fF,fF,fF,fF]) rfl (by kernel_rfl) rfl (fun _ _ _ h => h) hA (by decide) (fun _ => hS) (fun a w' hA => run_len_slice Try.underlying39 (hA.ev rfl)) ?_; clear hA; intro a hA
                refine d_many (is := [0, 2, 7]) (by kernel_rfl) (by decide) ⟨?_, ?_, ?_, trivial⟩
                · refine d_op (i := 0) (L' := #[tT,tT,fF,tT,tT,tT,tT,fF,fF,fF,fF,fF,fF,fF,fF,fF]) rfl rfl (stv hA (by decide) (run_ld (hA.ev rfl) (run_loadW Try.isAgg41 Try.sizeOf41 (by simp [Pl.len]; try rfl) (hM.box (.s (.s .z))))) ?_)
                  clear hA; intro a hA
                  refine ⟨fun _ => hS, ?_⟩
                  refine d_many (is := [2, 7]) (by kernel_rfl) (by decide) ⟨?_, ?_, trivial⟩
                  · refine d_op (i := 2) (L' := #[tT,tT,tT,tT,tT,tT,tT,fF,fF,fF,fF,fF,fF,fF,fF,fF]) rfl rfl (stv hA (by decide) (run_ld (hA.ev rfl) (run_loadS Try.isAgg39 (At.seg (segs := [pHash.enc x5947, [(.slice A5950 xs5952.length c5951)], [(.slice A5955 xs5957.length c5956)]]) (hM.box (.s (.s .z))) 1 rfl (by simp [Pl.len]; try rfl)))) ?_)
                    clear hA; intro a hA
                    refine ⟨fun _ => hS, ?_⟩
                    refine d_one (i := 7) (L' := #[tT,tT,tT,tT,tT,tT,tT,tT,fF,fF,fF,fF,fF,fF,fF,fF]) (by kernel_rfl) rfl rfl (st_call Try.call35 hA [(.pointer (some (⟨g0, 0, none⟩))), (.int .i64 ((xs5952.length : Nat) : Int))] rfl (by decide) (mill_Deck_Next.calls _ (lightclientmill_Deck.mk d_0.L r5981.2.At_) _ _ _ _ _ _ ((RoV.mk (hM.roC (Ms := [_]) hr0_0) (Eq.refl d_0.L.length) hc0_0)) (hM.front (Ms := [_])) H6729) ?_)
                    clear hA; rintro _ w6829 ⟨rfl, hMc⟩ a hA
                    have hM := hM.call (Ms := [_]) hMc
                    clear hMc; simp only [List.cons_append, List.nil_append] at hM
                    refine ⟨fun h => absurd h (by decide), ?_⟩
                    obtain ⟨ad6830, hq6831, hat6832⟩ := Row.elem' (p := pPlace) (RowOk.row (hM.row (p := pPlace) (.s (.s (.s .z))))) (RowOk.len (hM.row (p := pPlace) (.s (.s (.s .z))))) Place.z r6728.1 hi6731 hj6732
                    refine d_takef (i := 8) (L' := #[tT,tT,tT,tT,tT,tT,tT,tT,tT,fF,fF,fF,fF,fF,fF,fF]) rfl (by kernel_rfl) rfl (fun _ _ _ h => h) hA (by decide) (fun h => absurd h (by decide)) (fun a w' hA => run_idx Try.underlying39 Try.sizeOf70 (hA.ev rfl) hq6831 (hA.ev rfl) hi6731 hj6732) ?_; clear hA; intro a hA
                    refine d_takef (i := 9) (L' := #[tT,tT,tT,tT,tT,tT,tT,tT,tT,tT,fF,fF,fF,fF,fF,fF]) rfl (by kernel_rfl) rfl (fun _ _ _ h => h) hA (by decide) (fun h => absurd h (by decide)) (fun a w' hA => run_field' Try.underlying70 rfl rfl Try.sizeOf46 (by decide) (hA.ev rfl)) ?_; clear hA; intro a hA
                    refine d_one (i := 10) (L' := #[tT,tT,tT,tT,tT,tT,tT,tT,tT,tT,tT,fF,fF,fF,fF,fF]) (by kernel_rfl) rfl rfl (stv hA (by decide) (run_ld (hA.ev rfl) (run_loadP Try.isAgg46 Try.sizeOf46 (Place.at_Addr_ (hat6832)))) ?_)
                    clear hA; intro a hA
                    refine ⟨fun h => absurd h (by decide), ?_⟩
                    refine d_one (i := 11) (L' := #[tT,tT,tT,tT,tT,tT,tT,tT,tT,tT,tT,tT,fF,fF,fF,fF]) (by kernel_rfl) rfl rfl (st_call Try.call47 hA [(.agg (List.flatten [pHash.enc x5947, [(.slice A5950 xs5952.length c5951)], [(.slice A5955 xs5957.length c5956)]]).toArray), (.agg (pNAddr.enc ((xs5952.getD r6728.1.toNat Place.z).Addr_)).toArray)] rfl (by decide) (ref38_Good.calls _ (Book.mk x5947 xs5952 xs5957) _ _ _ _ _ _ ((hM.roV (p := pPlace) (Ms := []) (.s (.s (.s .z))))) ((hM.roV (p := pPlace) (Ms := []) (.s (.s (.s (.s .z)))))) (hM.front (Ms := [])) H6737) ?_)
                    clear hA; rintro _ w6833 ⟨v6834, v6835, rfl, hMc⟩ a hA
                    have hE := hMc.below; have hM := hM.call (Ms := []) hMc
                    clear hMc; simp only [List.cons_append, List.nil_append] at hM
                    obtain ⟨A6836, c6837, rfl⟩ := RowOk.form (hM.row (p := pPlace) .z)
                    obtain ⟨A6838, c6839, rfl⟩ := RowOk.form (hM.row (p := pPlace) (.s .z))
                    refine ⟨fun h => absurd h (by decide), ?_⟩
                    refine d_takef (i := 12) (L' := #[tT,tT,tT,tT,tT,tT,tT,tT,tT,tT,tT,tT,tT,fF,fF,fF]) rfl (by kernel_rfl) rfl (fun _ _ _ h => h) hA (by decide) (fun h => absurd h (by decide)) (fun a w' hA => run_move (hA.ev rfl)) ?_; clear hA; intro a hA
                    refine d_takef (i := 13) (L' := #[tT,tT,tT,tT,tT,tT,tT,tT,tT,tT,tT,tT,tT,tT,fF,fF]) rfl (by kernel_rfl) rfl (fun _ _ _ h => h) hA (by decide) (fun h => absurd h (by decide)) (fun a w' hA => run_ext (hA.ev rfl) rfl) ?_; clear hA; intro a hA
                    refine d_takef (i := 14) (L' := #[tT,tT,tT,tT,tT,tT,tT,tT,tT,tT,tT,tT,tT,tT,tT,fF]) rfl (by kernel_rfl) rfl (fun _ _ _ h => h) hA (by decide) (fun h => absurd h (by decide)) (fun a w' hA => run_ext (hA.ev rfl) rfl) ?_; clear hA; intro a hA
                    refine d_one (i := 15) (L' := #[tT,tT,tT,tT,tT,tT,tT,tT,tT,tT,tT,tT,tT,tT,tT,tT]) (by kernel_rfl) rfl rfl (e_store (g := g3525) (off := 0) (cur := (List.flatten [pHash.enc x5947, [(.slice A5950 xs5952.length c5951)], [(.slice A5955 xs5957.length c5956)]])) (cs' := (List.flatten [pHash.enc r6736.1.Salt, [(.slice A6836 r6736.1.Heard.length c6837)], [(.slice A6838 r6736.1.Tried.length c6839)]])) hM (.s (.s (.s (.s .z)))) Try.sizeOf41 hA rfl (by simp [add_mk]) rfl (by first | rfl | (simp [Value.cells, Pl.len]; done) | (simp [Value.cells, Pl.len]; rfl)) (one_flat (one_cons (Pl.one _ _) (one_cons (by simp [Value.oneCell']) (one_cons (by simp [Value.oneCell']) one_nil)))) (by first | exact Nat.le_of_ble_eq_true rfl | (simp [Pl.len]; done) | (simp [Pl.len]; decide)) (spl_all (by first | rfl | (simp [Value.cells, Pl.len]; done) | (simp [Value.cells, Pl.len]; rfl))) ?_)
                    clear hM hA; intro w6840  hM hE  a hA
                    refine ⟨fun h => absurd h (by decide), ?_⟩
                    refine d_done (by kernel_rfl) ?_
                    exact ⟨r6728.2.At_, r6736.1.Salt, r6736.1.Heard, r6736.1.Tried, (.slice A6836 r6736.1.Heard.length c6837), (.slice A6838 r6736.1.Tried.length c6839), Option.some.inj H6725, (hM.sel [2, 3, 4, 0, 1] rfl (by decide)), ((((hA.nil.cons (hA.get 4 _ rfl)).cons (hA.get 3 _ rfl)).cons (hA.get 2 _ rfl)).cons (hA.get 0 _ rfl))⟩
                  · refine d_op (i := 7) (L' := #[tT,tT,fF,tT,tT,tT,tT,tT,fF,fF,fF,fF,fF,fF,fF,fF]) rfl rfl (st_call Try.call35 hA [(.pointer (some (⟨g0, 0, none⟩))), (.int .i64 ((xs5952.length : Nat) : Int))] rfl (by decide) (mill_Deck_Next.calls _ (lightclientmill_Deck.mk d_0.L r5981.2.At_) _ _ _ _ _ _ ((RoV.mk (hM.roC (Ms := [_]) hr0_0) (Eq.refl d_0.L.length) hc0_0)) (hM.front (Ms := [_])) H6729) ?_)
                    clear hA; rintro _ w6841 ⟨rfl, hMc⟩ a hA
                    have hM := hM.call (Ms := [_]) hMc
                    clear hMc; simp only [List.cons_append, List.nil_append] at hM
                    refine ⟨fun h => absurd h (by decide), ?_⟩
                    refine d_one (i := 2) (L' := #[tT,tT,tT,tT,tT,tT,tT,tT,fF,fF,fF,fF,fF,fF,fF,fF]) (by kernel_rfl) rfl rfl (stv hA (by decide) (run_ld (hA.ev rfl) (run_loadS Try.isAgg39 (At.seg (segs := [pHash.enc x5947, [(.slice A5950 xs5952.length c5951)], [(.slice A5955 xs5957.length c5956)]]) (hM.box (.s (.s .z))) 1 rfl (by simp [Pl.len]; try rfl)))) ?_)
                    clear hA; intro a hA
                    refine ⟨fun h => absurd h (by decide), ?_⟩
                    obtain ⟨ad6842, hq6843, hat6844⟩ := Row.elem' (p := pPlace) (RowOk.row (hM.row (p := pPlace) (.s (.s (.s .z))))) (RowOk.len (hM.row (p := pPlace) (.s (.s (.s .z))))) Place.z r6728.1 hi6731 hj6732
                    refine d_takef (i := 8) (L' := #[tT,tT,tT,tT,tT,tT,tT,tT,tT,fF,fF,fF,fF,fF,fF,fF]) rfl (by kernel_rfl) rfl (fun _ _ _ h => h) hA (by decide) (fun h => absurd h (by decide)) (fun a w' hA => run_idx Try.underlying39 Try.sizeOf70 (hA.ev rfl) hq6843 (hA.ev rfl) hi6731 hj6732) ?_; clear hA; intro a hA
                    refine d_takef (i := 9) (L' := #[tT,tT,tT,tT,tT,tT,tT,tT,tT,tT,fF,fF,fF,fF,fF,fF]) rfl (by kernel_rfl) rfl (fun _ _ _ h => h) hA (by decide) (fun h => absurd h (by decide)) (fun a w' hA => run_field' Try.underlying70 rfl rfl Try.sizeOf46 (by decide) (hA.ev rfl)) ?_; clear hA; intro a hA
                    refine d_one (i := 10) (L' := #[tT,tT,tT,tT,tT,tT,tT,tT,tT,tT,tT,fF,fF,fF,fF,fF]) (by kernel_rfl) rfl rfl (stv hA (by decide) (run_ld (hA.ev rfl) (run_loadP Try.isAgg46 Try.sizeOf46 (Place.at_Addr_ (hat6844)))) ?_)
                    clear hA; intro a hA
                    refine ⟨fun h => absurd h (by decide), ?_⟩
                    refine d_one (i := 11) (L' := #[tT,tT,tT,tT,tT,tT,tT,tT,tT,tT,tT,tT,fF,fF,fF,fF]) (by kernel_rfl) rfl rfl (st_call Try.call47 hA [(.agg (List.flatten [pHash.enc x5947, [(.slice A5950 xs5952.length c5951)], [(.slice A5955 xs5957.length c5956)]]).toArray), (.agg (pNAddr.enc ((xs5952.getD r6728.1.toNat Place.z).Addr_)).toArray)] rfl (by decide) (ref38_Good.calls _ (Book.mk x5947 xs5952 xs5957) _ _ _ _ _ _ ((hM.roV (p := pPlace) (Ms := []) (.s (.s (.s .z))))) ((hM.roV (p := pPlace) (Ms := []) (.s (.s (.s (.s .z)))))) (hM.front (Ms := [])) H6737) ?_)
                    clear hA; rintro _ w6845 ⟨v6846, v6847, rfl, hMc⟩ a hA
                    have hE := hMc.below; have hM := hM.call (Ms := []) hMc
                    clear hMc; simp only [List.cons_append, List.nil_append] at hM
                    obtain ⟨A6848, c6849, rfl⟩ := RowOk.form (hM.row (p := pPlace) .z)
                    obtain ⟨A6850, c6851, rfl⟩ := RowOk.form (hM.row (p := pPlace) (.s .z))
                    refine ⟨fun h => absurd h (by decide), ?_⟩
                    refine d_takef (i := 12) (L' := #[tT,tT,tT,tT,tT,tT,tT,tT,tT,tT,tT,tT,tT,fF,fF,fF]) rfl (by kernel_rfl) rfl (fun _ _ _ h => h) hA (by decide) (fun h => absurd h (by decide)) (fun a w' hA => run_move (hA.ev rfl)) ?_; clear hA; intro a hA
                    refine d_takef (i := 13) (L' := #[tT,tT,tT,tT,tT,tT,tT,tT,tT,tT,tT,tT,tT,tT,fF,fF]) rfl (by kernel_rfl) rfl (fun _ _ _ h => h) hA (by decide) (fun h => absurd h (by decide)) (fun a w' hA => run_ext (hA.ev rfl) rfl) ?_; clear hA; intro a hA
                    refine d_takef (i := 14) (L' := #[tT,tT,tT,tT,tT,tT,tT,tT,tT,tT,tT,tT,tT,tT,tT,fF]) rfl (by kernel_rfl) rfl (fun _ _ _ h => h) hA (by decide) (fun h => absurd h (by decide)) (fun a w' hA => run_ext (hA.ev rfl) rfl) ?_; clear hA; intro a hA
                    refine d_one (i := 15) (L' := #[tT,tT,tT,tT,tT,tT,tT,tT,tT,tT,tT,tT,tT,tT,tT,tT]) (by kernel_rfl) rfl rfl (e_store (g := g3525) (off := 0) (cur := (List.flatten [pHash.enc x5947, [(.slice A5950 xs5952.length c5951)], [(.slice A5955 xs5957.length c5956)]])) (cs' := (List.flatten [pHash.enc r6736.1.Salt, [(.slice A6848 r6736.1.Heard.length c6849)], [(.slice A6850 r6736.1.Tried.length c6851)]])) hM (.s (.s (.s (.s .z)))) Try.sizeOf41 hA rfl (by simp [add_mk]) rfl (by first | rfl | (simp [Value.cells, Pl.len]; done) | (simp [Value.cells, Pl.len]; rfl)) (one_flat (one_cons (Pl.one _ _) (one_cons (by simp [Value.oneCell']) (one_cons (by simp [Value.oneCell']) one_nil)))) (by first | exact Nat.le_of_ble_eq_true rfl | (simp [Pl.len]; done) | (simp [Pl.len]; decide)) (spl_all (by first | rfl | (simp [Value.cells, Pl.len]; done) | (simp [Value.cells, Pl.len]; rfl))) ?_)
                    clear hM hA; intro w6852  hM hE  a hA
                    refine ⟨fun h => absurd h (by decide), ?_⟩
                    refine d_done (by kernel_rfl) ?_
                    exact ⟨r6728.2.At_, r6736.1.Salt, r6736.1.Heard, r6736.1.Tried, (.slice A6848 r6736.1.Heard.length c6849), (.slice A6850 r6736.1.Tried.length c6851), Option.some.inj H6725, (hM.sel [2, 3, 4, 0, 1] rfl (by decide)), ((((hA.nil.cons (hA.get 4 _ rfl)).cons (hA.get 3 _ rfl)).cons (hA.get 2 _ rfl)).cons (hA.get 0 _ rfl))⟩
                · refine d_op (i := 2) (L' := #[fF,tT,tT,tT,tT,tT,tT,fF,fF,fF,fF,fF,fF,fF,fF,fF]) rfl rfl (stv hA (by decide) (run_ld (hA.ev rfl) (run_loadS Try.isAgg39 (At.seg (segs := [pHash.enc x5947, [(.slice A5950 xs5952.length c5951)], [(.slice A5955 xs5957.length c5956)]]) (hM.box (.s (.s .z))) 1 rfl (by simp [Pl.len]; try rfl)))) ?_)
                  clear hA; intro a hA
                  refine ⟨fun _ => hS, ?_⟩
                  refine d_many (is := [0, 7]) (by kernel_rfl) (by decide) ⟨?_, ?_, trivial⟩
                  · refine d_op (i := 0) (L' := #[tT,tT,tT,tT,tT,tT,tT,fF,fF,fF,fF,fF,fF,fF,fF,fF]) rfl rfl (stv hA (by decide) (run_ld (hA.ev rfl) (run_loadW Try.isAgg41 Try.sizeOf41 (by simp [Pl.len]; try rfl) (hM.box (.s (.s .z))))) ?_)
                    clear hA; intro a hA
                    refine ⟨fun _ => hS, ?_⟩
                    refine d_one (i := 7) (L' := #[tT,tT,tT,tT,tT,tT,tT,tT,fF,fF,fF,fF,fF,fF,fF,fF]) (by kernel_rfl) rfl rfl (st_call Try.call35 hA [(.pointer (some (⟨g0, 0, none⟩))), (.int .i64 ((xs5952.length : Nat) : Int))] rfl (by decide) (mill_Deck_Next.calls _ (lightclientmill_Deck.mk d_0.L r5981.2.At_) _ _ _ _ _ _ ((RoV.mk (hM.roC (Ms := [_]) hr0_0) (Eq.refl d_0.L.length) hc0_0)) (hM.front (Ms := [_])) H6729) ?_)
                    clear hA; rintro _ w6853 ⟨rfl, hMc⟩ a hA
                    have hM := hM.call (Ms := [_]) hMc
                    clear hMc; simp only [List.cons_append, List.nil_append] at hM
                    refine ⟨fun h => absurd h (by decide), ?_⟩
                    obtain ⟨ad6854, hq6855, hat6856⟩ := Row.elem' (p := pPlace) (RowOk.row (hM.row (p := pPlace) (.s (.s (.s .z))))) (RowOk.len (hM.row (p := pPlace) (.s (.s (.s .z))))) Place.z r6728.1 hi6731 hj6732
                    refine d_takef (i := 8) (L' := #[tT,tT,tT,tT,tT,tT,tT,tT,tT,fF,fF,fF,fF,fF,fF,fF]) rfl (by kernel_rfl) rfl (fun _ _ _ h => h) hA (by decide) (fun h => absurd h (by decide)) (fun a w' hA => run_idx Try.underlying39 Try.sizeOf70 (hA.ev rfl) hq6855 (hA.ev rfl) hi6731 hj6732) ?_; clear hA; intro a hA
                    refine d_takef (i := 9) (L' := #[tT,tT,tT,tT,tT,tT,tT,tT,tT,tT,fF,fF,fF,fF,fF,fF]) rfl (by kernel_rfl) rfl (fun _ _ _ h => h) hA (by decide) (fun h => absurd h (by decide)) (fun a w' hA => run_field' Try.underlying70 rfl rfl Try.sizeOf46 (by decide) (hA.ev rfl)) ?_; clear hA; intro a hA
                    refine d_one (i := 10) (L' := #[tT,tT,tT,tT,tT,tT,tT,tT,tT,tT,tT,fF,fF,fF,fF,fF]) (by kernel_rfl) rfl rfl (stv hA (by decide) (run_ld (hA.ev rfl) (run_loadP Try.isAgg46 Try.sizeOf46 (Place.at_Addr_ (hat6856)))) ?_)
                    clear hA; intro a hA
                    refine ⟨fun h => absurd h (by decide), ?_⟩
                    refine d_one (i := 11) (L' := #[tT,tT,tT,tT,tT,tT,tT,tT,tT,tT,tT,tT,fF,fF,fF,fF]) (by kernel_rfl) rfl rfl (st_call Try.call47 hA [(.agg (List.flatten [pHash.enc x5947, [(.slice A5950 xs5952.length c5951)], [(.slice A5955 xs5957.length c5956)]]).toArray), (.agg (pNAddr.enc ((xs5952.getD r6728.1.toNat Place.z).Addr_)).toArray)] rfl (by decide) (ref38_Good.calls _ (Book.mk x5947 xs5952 xs5957) _ _ _ _ _ _ ((hM.roV (p := pPlace) (Ms := []) (.s (.s (.s .z))))) ((hM.roV (p := pPlace) (Ms := []) (.s (.s (.s (.s .z)))))) (hM.front (Ms := [])) H6737) ?_)
                    clear hA; rintro _ w6857 ⟨v6858, v6859, rfl, hMc⟩ a hA
                    have hE := hMc.below; have hM := hM.call (Ms := []) hMc
                    clear hMc; simp only [List.cons_append, List.nil_append] at hM
                    obtain ⟨A6860, c6861, rfl⟩ := RowOk.form (hM.row (p := pPlace) .z)
                    obtain ⟨A6862, c6863, rfl⟩ := RowOk.form (hM.row (p := pPlace) (.s .z))
                    refine ⟨fun h => absurd h (by decide), ?_⟩
                    refine d_takef (i := 12) (L' := #[tT,tT,tT,tT,tT,tT,tT,tT,tT,tT,tT,tT,tT,fF,fF,fF]) rfl (by kernel_rfl) rfl (fun _ _ _ h => h) hA (by decide) (fun h => absurd h (by decide)) (fun a w' hA => run_move (hA.ev rfl)) ?_; clear hA; intro a hA
                    refine d_takef (i := 13) (L' := #[tT,tT,tT,tT,tT,tT,tT,tT,tT,tT,tT,tT,tT,tT,fF,fF]) rfl (by kernel_rfl) rfl (fun _ _ _ h => h) hA (by decide) (fun h => absurd h (by decide)) (fun a w' hA => run_ext (hA.ev rfl) rfl) ?_; clear hA; intro a hA
                    refine d_takef (i := 14) (L' := #[tT,tT,tT,tT,tT,tT,tT,tT,tT,tT,tT,tT,tT,tT,tT,fF]) rfl (by kernel_rfl) rfl (fun _ _ _ h => h) hA (by decide) (fun h => absurd h (by decide)) (fun a w' hA => run_ext (hA.ev rfl) rfl) ?_; clear hA; intro a hA
                    refine d_one (i := 15) (L' := #[tT,tT,tT,tT,tT,tT,tT,tT,tT,tT,tT,tT,tT,tT,tT,tT]) (by kernel_rfl) rfl rfl (e_store (g := g3525) (off := 0) (cur := (List.flatten [pHash.enc x5947, [(.slice A5950 xs5952.length c5951)], [(.slice A5955 xs5957.length c5956)]])) (cs' := (List.flatten [pHash.enc r6736.1.Salt, [(.slice A6860 r6736.1.Heard.length c6861)], [(.slice A6862 r6736.1.Tried.length c6863)]])) hM (.s (.s (.s (.s .z)))) Try.sizeOf41 hA rfl (by simp [add_mk]) rfl (by first | rfl | (simp [Value.cells, Pl.len]; done) | (simp [Value.cells, Pl.len]; rfl)) (one_flat (one_cons (Pl.one _ _) (one_cons (by simp [Value.oneCell']) (one_cons (by simp [Value.oneCell']) one_nil)))) (by first | exact Nat.le_of_ble_eq_true rfl | (simp [Pl.len]; done) | (simp [Pl.len]; decide)) (spl_all (by first | rfl | (simp [Value.cells, Pl.len]; done) | (simp [Value.cells, Pl.len]; rfl))) ?_)
                    clear hM hA; intro w6864  hM hE  a hA
                    refine ⟨fun h => absurd h (by decide), ?_⟩
                    refine d_done (by kernel_rfl) ?_
                    exact ⟨r6728.2.At_, r6736.1.Salt, r6736.1.Heard, r6736.1.Tried, (.slice A6860 r6736.1.Heard.length c6861), (.slice A6862 r6736.1.Tried.length c6863), Option.some.inj H6725, (hM.sel [2, 3, 4, 0, 1] rfl (by decide)), ((((hA.nil.cons (hA.get 4 _ rfl)).cons (hA.get 3 _ rfl)).cons (hA.get 2 _ rfl)).cons (hA.get 0 _ rfl))⟩
                  · refine d_op (i := 7) (L' := #[fF,tT,tT,tT,tT,tT,tT,tT,fF,fF,fF,fF,fF,fF,fF,fF]) rfl rfl (st_call Try.call35 hA [(.pointer (some (⟨g0, 0, none⟩))), (.int .i64 ((xs5952.length : Nat) : Int))] rfl (by decide) (mill_Deck_Next.calls _ (lightclientmill_Deck.mk d_0.L r5981.2.At_) _ _ _ _ _ _ ((RoV.mk (hM.roC (Ms := [_]) hr0_0) (Eq.refl d_0.L.length) hc0_0)) (hM.front (Ms := [_])) H6729) ?_)
                    clear hA; rintro _ w6865 ⟨rfl, hMc⟩ a hA
                    have hM := hM.call (Ms := [_]) hMc
                    clear hMc; simp only [List.cons_append, List.nil_append] at hM
                    refine ⟨fun h => absurd h (by decide), ?_⟩
                    obtain ⟨ad6866, hq6867, hat6868⟩ := Row.elem' (p := pPlace) (RowOk.row (hM.row (p := pPlace) (.s (.s (.s .z))))) (RowOk.len (hM.row (p := pPlace) (.s (.s (.s .z))))) Place.z r6728.1 hi6731 hj6732
                    refine d_takef (i := 8) (L' := #[fF,tT,tT,tT,tT,tT,tT,tT,tT,fF,fF,fF,fF,fF,fF,fF]) rfl (by kernel_rfl) rfl (fun _ _ _ h => h) hA (by decide) (fun h => absurd h (by decide)) (fun a w' hA => run_idx Try.underlying39 Try.sizeOf70 (hA.ev rfl) hq6867 (hA.ev rfl) hi6731 hj6732) ?_; clear hA; intro a hA
                    refine d_takef (i := 9) (L' := #[fF,tT,tT,tT,tT,tT,tT,tT,tT,tT,fF,fF,fF,fF,fF,fF]) rfl (by kernel_rfl) rfl (fun _ _ _ h => h) hA (by decide) (fun h => absurd h (by decide)) (fun a w' hA => run_field' Try.underlying70 rfl rfl Try.sizeOf46 (by decide) (hA.ev rfl)) ?_; clear hA; intro a hA
                    refine d_many (is := [0, 10]) (by kernel_rfl) (by decide) ⟨?_, ?_, trivial⟩
                    · refine d_op (i := 0) (L' := #[tT,tT,tT,tT,tT,tT,tT,tT,tT,tT,fF,fF,fF,fF,fF,fF]) rfl rfl (stv hA (by decide) (run_ld (hA.ev rfl) (run_loadW Try.isAgg41 Try.sizeOf41 (by simp [Pl.len]; try rfl) (hM.box (.s (.s .z))))) ?_)
                      clear hA; intro a hA
                      refine ⟨fun h => absurd h (by decide), ?_⟩
                      refine d_one (i := 10) (L' := #[tT,tT,tT,tT,tT,tT,tT,tT,tT,tT,tT,fF,fF,fF,fF,fF]) (by kernel_rfl) rfl rfl (stv hA (by decide) (run_ld (hA.ev rfl) (run_loadP Try.isAgg46 Try.sizeOf46 (Place.at_Addr_ (hat6868)))) ?_)
                      clear hA; intro a hA
                      refine ⟨fun h => absurd h (by decide), ?_⟩
                      refine d_one (i := 11) (L' := #[tT,tT,tT,tT,tT,tT,tT,tT,tT,tT,tT,tT,fF,fF,fF,fF]) (by kernel_rfl) rfl rfl (st_call Try.call47 hA [(.agg (List.flatten [pHash.enc x5947, [(.slice A5950 xs5952.length c5951)], [(.slice A5955 xs5957.length c5956)]]).toArray), (.agg (pNAddr.enc ((xs5952.getD r6728.1.toNat Place.z).Addr_)).toArray)] rfl (by decide) (ref38_Good.calls _ (Book.mk x5947 xs5952 xs5957) _ _ _ _ _ _ ((hM.roV (p := pPlace) (Ms := []) (.s (.s (.s .z))))) ((hM.roV (p := pPlace) (Ms := []) (.s (.s (.s (.s .z)))))) (hM.front (Ms := [])) H6737) ?_)
                      clear hA; rintro _ w6869 ⟨v6870, v6871, rfl, hMc⟩ a hA
                      have hE := hMc.below; have hM := hM.call (Ms := []) hMc
                      clear hMc; simp only [List.cons_append, List.nil_append] at hM
                      obtain ⟨A6872, c6873, rfl⟩ := RowOk.form (hM.row (p := pPlace) .z)
                      obtain ⟨A6874, c6875, rfl⟩ := RowOk.form (hM.row (p := pPlace) (.s .z))
                      refine ⟨fun h => absurd h (by decide), ?_⟩
                      refine d_takef (i := 12) (L' := #[tT,tT,tT,tT,tT,tT,tT,tT,tT,tT,tT,tT,tT,fF,fF,fF]) rfl (by kernel_rfl) rfl (fun _ _ _ h => h) hA (by decide) (fun h => absurd h (by decide)) (fun a w' hA => run_move (hA.ev rfl)) ?_; clear hA; intro a hA
                      refine d_takef (i := 13) (L' := #[tT,tT,tT,tT,tT,tT,tT,tT,tT,tT,tT,tT,tT,tT,fF,fF]) rfl (by kernel_rfl) rfl (fun _ _ _ h => h) hA (by decide) (fun h => absurd h (by decide)) (fun a w' hA => run_ext (hA.ev rfl) rfl) ?_; clear hA; intro a hA
                      refine d_takef (i := 14) (L' := #[tT,tT,tT,tT,tT,tT,tT,tT,tT,tT,tT,tT,tT,tT,tT,fF]) rfl (by kernel_rfl) rfl (fun _ _ _ h => h) hA (by decide) (fun h => absurd h (by decide)) (fun a w' hA => run_ext (hA.ev rfl) rfl) ?_; clear hA; intro a hA
                      refine d_one (i := 15) (L' := #[tT,tT,tT,tT,tT,tT,tT,tT,tT,tT,tT,tT,tT,tT,tT,tT]) (by kernel_rfl) rfl rfl (e_store (g := g3525) (off := 0) (cur := (List.flatten [pHash.enc x5947, [(.slice A5950 xs5952.length c5951)], [(.slice A5955 xs5957.length c5956)]])) (cs' := (List.flatten [pHash.enc r6736.1.Salt, [(.slice A6872 r6736.1.Heard.length c6873)], [(.slice A6874 r6736.1.Tried.length c6875)]])) hM (.s (.s (.s (.s .z)))) Try.sizeOf41 hA rfl (by simp [add_mk]) rfl (by first | rfl | (simp [Value.cells, Pl.len]; done) | (simp [Value.cells, Pl.len]; rfl)) (one_flat (one_cons (Pl.one _ _) (one_cons (by simp [Value.oneCell']) (one_cons (by simp [Value.oneCell']) one_nil)))) (by first | exact Nat.le_of_ble_eq_true rfl | (simp [Pl.len]; done) | (simp [Pl.len]; decide)) (spl_all (by first | rfl | (simp [Value.cells, Pl.len]; done) | (simp [Value.cells, Pl.len]; rfl))) ?_)
                      clear hM hA; intro w6876  hM hE  a hA
                      refine ⟨fun h => absurd h (by decide), ?_⟩
                      refine d_done (by kernel_rfl) ?_
                      exact ⟨r6728.2.At_, r6736.1.Salt, r6736.1.Heard, r6736.1.Tried, (.slice A6872 r6736.1.Heard.length c6873), (.slice A6874 r6736.1.Tried.length c6875), Option.some.inj H6725, (hM.sel [2, 3, 4, 0, 1] rfl (by decide)), ((((hA.nil.cons (hA.get 4 _ rfl)).cons (hA.get 3 _ rfl)).cons (hA.get 2 _ rfl)).cons (hA.get 0 _ rfl))⟩
                    · refine d_op (i := 10) (L' := #[fF,tT,tT,tT,tT,tT,tT,tT,tT,tT,tT,fF,fF,fF,fF,fF]) rfl rfl (stv hA (by decide) (run_ld (hA.ev rfl) (run_loadP Try.isAgg46 Try.sizeOf46 (Place.at_Addr_ (hat6868)))) ?_)
                      clear hA; intro a hA
                      refine ⟨fun h => absurd h (by decide), ?_⟩
                      refine d_one (i := 0) (L' := #[tT,tT,tT,tT,tT,tT,tT,tT,tT,tT,tT,fF,fF,fF,fF,fF]) (by kernel_rfl) rfl rfl (stv hA (by decide) (run_ld (hA.ev rfl) (run_loadW Try.isAgg41 Try.sizeOf41 (by simp [Pl.len]; try rfl) (hM.box (.s (.s .z))))) ?_)
                      clear hA; intro a hA
                      refine ⟨fun h => absurd h (by decide), ?_⟩
                      refine d_one (i := 11) (L' := #[tT,tT,tT,tT,tT,tT,tT,tT,tT,tT,tT,tT,fF,fF,fF,fF]) (by kernel_rfl) rfl rfl (st_call Try.call47 hA [(.agg (List.flatten [pHash.enc x5947, [(.slice A5950 xs5952.length c5951)], [(.slice A5955 xs5957.length c5956)]]).toArray), (.agg (pNAddr.enc ((xs5952.getD r6728.1.toNat Place.z).Addr_)).toArray)] rfl (by decide) (ref38_Good.calls _ (Book.mk x5947 xs5952 xs5957) _ _ _ _ _ _ ((hM.roV (p := pPlace) (Ms := []) (.s (.s (.s .z))))) ((hM.roV (p := pPlace) (Ms := []) (.s (.s (.s (.s .z)))))) (hM.front (Ms := [])) H6737) ?_)
                      clear hA; rintro _ w6877 ⟨v6878, v6879, rfl, hMc⟩ a hA
                      have hE := hMc.below; have hM := hM.call (Ms := []) hMc
                      clear hMc; simp only [List.cons_append, List.nil_append] at hM
                      obtain ⟨A6880, c6881, rfl⟩ := RowOk.form (hM.row (p := pPlace) .z)
                      obtain ⟨A6882, c6883, rfl⟩ := RowOk.form (hM.row (p := pPlace) (.s .z))
                      refine ⟨fun h => absurd h (by decide), ?_⟩
                      refine d_takef (i := 12) (L' := #[tT,tT,tT,tT,tT,tT,tT,tT,tT,tT,tT,tT,tT,fF,fF,fF]) rfl (by kernel_rfl) rfl (fun _ _ _ h => h) hA (by decide) (fun h => absurd h (by decide)) (fun a w' hA => run_move (hA.ev rfl)) ?_; clear hA; intro a hA
                      refine d_takef (i := 13) (L' := #[tT,tT,tT,tT,tT,tT,tT,tT,tT,tT,tT,tT,tT,tT,fF,fF]) rfl (by kernel_rfl) rfl (fun _ _ _ h => h) hA (by decide) (fun h => absurd h (by decide)) (fun a w' hA => run_ext (hA.ev rfl) rfl) ?_; clear hA; intro a hA
                      refine d_takef (i := 14) (L' := #[tT,tT,tT,tT,tT,tT,tT,tT,tT,tT,tT,tT,tT,tT,tT,fF]) rfl (by kernel_rfl) rfl (fun _ _ _ h => h) hA (by decide) (fun h => absurd h (by decide)) (fun a w' hA => run_ext (hA.ev rfl) rfl) ?_; clear hA; intro a hA
                      refine d_one (i := 15) (L' := #[tT,tT,tT,tT,tT,tT,tT,tT,tT,tT,tT,tT,tT,tT,tT,tT]) (by kernel_rfl) rfl rfl (e_store (g := g3525) (off := 0) (cur := (List.flatten [pHash.enc x5947, [(.slice A5950 xs5952.length c5951)], [(.slice A5955 xs5957.length c5956)]])) (cs' := (List.flatten [pHash.enc r6736.1.Salt, [(.slice A6880 r6736.1.Heard.length c6881)], [(.slice A6882 r6736.1.Tried.length c6883)]])) hM (.s (.s (.s (.s .z)))) Try.sizeOf41 hA rfl (by simp [add_mk]) rfl (by first | rfl | (simp [Value.cells, Pl.len]; done) | (simp [Value.cells, Pl.len]; rfl)) (one_flat (one_cons (Pl.one _ _) (one_cons (by simp [Value.oneCell']) (one_cons (by simp [Value.oneCell']) one_nil)))) (by first | exact Nat.le_of_ble_eq_true rfl | (simp [Pl.len]; done) | (simp [Pl.len]; decide)) (spl_all (by first | rfl | (simp [Value.cells, Pl.len]; done) | (simp [Value.cells, Pl.len]; rfl))) ?_)
                      clear hM hA; intro w6884  hM hE  a hA
                      refine ⟨fun h => absurd h (by decide), ?_⟩
                      refine d_done (by kernel_rfl) ?_
                      exact ⟨r6728.2.At_, r6736.1.Salt, r6736.1.Heard, r6736.1.Tried, (.slice A6880 r6736.1.Heard.length c6881), (.slice A6882 r6736.1.Tried.length c6883), Option.some.inj H6725, (hM.sel [2, 3, 4, 0, 1] rfl (by decide)), ((((hA.nil.cons (hA.get 4 _ rfl)).cons (hA.get 3 _ rfl)).cons (hA.get 2 _ rfl)).cons (hA.get 0 _ rfl))⟩
                · refine d_op (i := 7) (L' := #[fF,tT,fF,tT,tT,tT,tT,tT,fF,fF,fF,fF,fF,fF,fF,fF]) rfl rfl (st_call Try.call35 hA [(.pointer (some (⟨g0, 0, none⟩))), (.int .i64 ((xs5952.length : Nat) : Int))] rfl (by decide) (mill_Deck_Next.calls _ (lightclientmill_Deck.mk d_0.L r5981.2.At_) _ _ _ _ _ _ ((RoV.mk (hM.roC (Ms := [_]) hr0_0) (Eq.refl d_0.L.length) hc0_0)) (hM.front (Ms := [_])) H6729) ?_)
                  clear hA; rintro _ w6885 ⟨rfl, hMc⟩ a hA
                  have hM := hM.call (Ms := [_]) hMc
                  clear hMc; simp only [List.cons_append, List.nil_append] at hM
                  refine ⟨fun h => absurd h (by decide), ?_⟩
                  refine d_many (is := [0, 2]) (by kernel_rfl) (by decide) ⟨?_, ?_, trivial⟩
                  · refine d_op (i := 0) (L' := #[tT,tT,fF,tT,tT,tT,tT,tT,fF,fF,fF,fF,fF,fF,fF,fF]) rfl rfl (stv hA (by decide) (run_ld (hA.ev rfl) (run_loadW Try.isAgg41 Try.sizeOf41 (by simp [Pl.len]; try rfl) (hM.box (.s (.s .z))))) ?_)
                    clear hA; intro a hA
                    refine ⟨fun h => absurd h (by decide), ?_⟩
                    refine d_one (i := 2) (L' := #[tT,tT,tT,tT,tT,tT,tT,tT,fF,fF,fF,fF,fF,fF,fF,fF]) (by kernel_rfl) rfl rfl (stv hA (by decide) (run_ld (hA.ev rfl) (run_loadS Try.isAgg39 (At.seg (segs := [pHash.enc x5947, [(.slice A5950 xs5952.length c5951)], [(.slice A5955 xs5957.length c5956)]]) (hM.box (.s (.s .z))) 1 rfl (by simp [Pl.len]; try rfl)))) ?_)
                    clear hA; intro a hA
                    refine ⟨fun h => absurd h (by decide), ?_⟩
                    obtain ⟨ad6886, hq6887, hat6888⟩ := Row.elem' (p := pPlace) (RowOk.row (hM.row (p := pPlace) (.s (.s (.s .z))))) (RowOk.len (hM.row (p := pPlace) (.s (.s (.s .z))))) Place.z r6728.1 hi6731 hj6732
                    refine d_takef (i := 8) (L' := #[tT,tT,tT,tT,tT,tT,tT,tT,tT,fF,fF,fF,fF,fF,fF,fF]) rfl (by kernel_rfl) rfl (fun _ _ _ h => h) hA (by decide) (fun h => absurd h (by decide)) (fun a w' hA => run_idx Try.underlying39 Try.sizeOf70 (hA.ev rfl) hq6887 (hA.ev rfl) hi6731 hj6732) ?_; clear hA; intro a hA
                    refine d_takef (i := 9) (L' := #[tT,tT,tT,tT,tT,tT,tT,tT,tT,tT,fF,fF,fF,fF,fF,fF]) rfl (by kernel_rfl) rfl (fun _ _ _ h => h) hA (by decide) (fun h => absurd h (by decide)) (fun a w' hA => run_field' Try.underlying70 rfl rfl Try.sizeOf46 (by decide) (hA.ev rfl)) ?_; clear hA; intro a hA
                    refine d_one (i := 10) (L' := #[tT,tT,tT,tT,tT,tT,tT,tT,tT,tT,tT,fF,fF,fF,fF,fF]) (by kernel_rfl) rfl rfl (stv hA (by decide) (run_ld (hA.ev rfl) (run_loadP Try.isAgg46 Try.sizeOf46 (Place.at_Addr_ (hat6888)))) ?_)
                    clear hA; intro a hA
                    refine ⟨fun h => absurd h (by decide), ?_⟩
                    refine d_one (i := 11) (L' := #[tT,tT,tT,tT,tT,tT,tT,tT,tT,tT,tT,tT,fF,fF,fF,fF]) (by kernel_rfl) rfl rfl (st_call Try.call47 hA [(.agg (List.flatten [pHash.enc x5947, [(.slice A5950 xs5952.length c5951)], [(.slice A5955 xs5957.length c5956)]]).toArray), (.agg (pNAddr.enc ((xs5952.getD r6728.1.toNat Place.z).Addr_)).toArray)] rfl (by decide) (ref38_Good.calls _ (Book.mk x5947 xs5952 xs5957) _ _ _ _ _ _ ((hM.roV (p := pPlace) (Ms := []) (.s (.s (.s .z))))) ((hM.roV (p := pPlace) (Ms := []) (.s (.s (.s (.s .z)))))) (hM.front (Ms := [])) H6737) ?_)
                    clear hA; rintro _ w6889 ⟨v6890, v6891, rfl, hMc⟩ a hA
                    have hE := hMc.below; have hM := hM.call (Ms := []) hMc
                    clear hMc; simp only [List.cons_append, List.nil_append] at hM
                    obtain ⟨A6892, c6893, rfl⟩ := RowOk.form (hM.row (p := pPlace) .z)
                    obtain ⟨A6894, c6895, rfl⟩ := RowOk.form (hM.row (p := pPlace) (.s .z))
                    refine ⟨fun h => absurd h (by decide), ?_⟩
                    refine d_takef (i := 12) (L' := #[tT,tT,tT,tT,tT,tT,tT,tT,tT,tT,tT,tT,tT,fF,fF,fF]) rfl (by kernel_rfl) rfl (fun _ _ _ h => h) hA (by decide) (fun h => absurd h (by decide)) (fun a w' hA => run_move (hA.ev rfl)) ?_; clear hA; intro a hA
                    refine d_takef (i := 13) (L' := #[tT,tT,tT,tT,tT,tT,tT,tT,tT,tT,tT,tT,tT,tT,fF,fF]) rfl (by kernel_rfl) rfl (fun _ _ _ h => h) hA (by decide) (fun h => absurd h (by decide)) (fun a w' hA => run_ext (hA.ev rfl) rfl) ?_; clear hA; intro a hA
                    refine d_takef (i := 14) (L' := #[tT,tT,tT,tT,tT,tT,tT,tT,tT,tT,tT,tT,tT,tT,tT,fF]) rfl (by kernel_rfl) rfl (fun _ _ _ h => h) hA (by decide) (fun h => absurd h (by decide)) (fun a w' hA => run_ext (hA.ev rfl) rfl) ?_; clear hA; intro a hA
                    refine d_one (i := 15) (L' := #[tT,tT,tT,tT,tT,tT,tT,tT,tT,tT,tT,tT,tT,tT,tT,tT]) (by kernel_rfl) rfl rfl (e_store (g := g3525) (off := 0) (cur := (List.flatten [pHash.enc x5947, [(.slice A5950 xs5952.length c5951)], [(.slice A5955 xs5957.length c5956)]])) (cs' := (List.flatten [pHash.enc r6736.1.Salt, [(.slice A6892 r6736.1.Heard.length c6893)], [(.slice A6894 r6736.1.Tried.length c6895)]])) hM (.s (.s (.s (.s .z)))) Try.sizeOf41 hA rfl (by simp [add_mk]) rfl (by first | rfl | (simp [Value.cells, Pl.len]; done) | (simp [Value.cells, Pl.len]; rfl)) (one_flat (one_cons (Pl.one _ _) (one_cons (by simp [Value.oneCell']) (one_cons (by simp [Value.oneCell']) one_nil)))) (by first | exact Nat.le_of_ble_eq_true rfl | (simp [Pl.len]; done) | (simp [Pl.len]; decide)) (spl_all (by first | rfl | (simp [Value.cells, Pl.len]; done) | (simp [Value.cells, Pl.len]; rfl))) ?_)
                    clear hM hA; intro w6896  hM hE  a hA
                    refine ⟨fun h => absurd h (by decide), ?_⟩
                    refine d_done (by kernel_rfl) ?_
                    exact ⟨r6728.2.At_, r6736.1.Salt, r6736.1.Heard, r6736.1.Tried, (.slice A6892 r6736.1.Heard.length c6893), (.slice A6894 r6736.1.Tried.length c6895), Option.some.inj H6725, (hM.sel [2, 3, 4, 0, 1] rfl (by decide)), ((((hA.nil.cons (hA.get 4 _ rfl)).cons (hA.get 3 _ rfl)).cons (hA.get 2 _ rfl)).cons (hA.get 0 _ rfl))⟩
                  · refine d_op (i := 2) (L' := #[fF,tT,tT,tT,tT,tT,tT,tT,fF,fF,fF,fF,fF,fF,fF,fF]) rfl rfl (stv hA (by decide) (run_ld (hA.ev rfl) (run_loadS Try.isAgg39 (At.seg (segs := [pHash.enc x5947, [(.slice A5950 xs5952.length c5951)], [(.slice A5955 xs5957.length c5956)]]) (hM.box (.s (.s .z))) 1 rfl (by simp [Pl.len]; try rfl)))) ?_)
                    clear hA; intro a hA
                    refine ⟨fun h => absurd h (by decide), ?_⟩
                    obtain ⟨ad6897, hq6898, hat6899⟩ := Row.elem' (p := pPlace) (RowOk.row (hM.row (p := pPlace) (.s (.s (.s .z))))) (RowOk.len (hM.row (p := pPlace) (.s (.s (.s .z))))) Place.z r6728.1 hi6731 hj6732
                    refine d_takef (i := 8) (L' := #[fF,tT,tT,tT,tT,tT,tT,tT,tT,fF,fF,fF,fF,fF,fF,fF]) rfl (by kernel_rfl) rfl (fun _ _ _ h => h) hA (by decide) (fun h => absurd h (by decide)) (fun a w' hA => run_idx Try.underlying39 Try.sizeOf70 (hA.ev rfl) hq6898 (hA.ev rfl) hi6731 hj6732) ?_; clear hA; intro a hA
                    refine d_takef (i := 9) (L' := #[fF,tT,tT,tT,tT,tT,tT,tT,tT,tT,fF,fF,fF,fF,fF,fF]) rfl (by kernel_rfl) rfl (fun _ _ _ h => h) hA (by decide) (fun h => absurd h (by decide)) (fun a w' hA => run_field' Try.underlying70 rfl rfl Try.sizeOf46 (by decide) (hA.ev rfl)) ?_; clear hA; intro a hA
                    refine d_many (is := [0, 10]) (by kernel_rfl) (by decide) ⟨?_, ?_, trivial⟩
                    · refine d_op (i := 0) (L' := #[tT,tT,tT,tT,tT,tT,tT,tT,tT,tT,fF,fF,fF,fF,fF,fF]) rfl rfl (stv hA (by decide) (run_ld (hA.ev rfl) (run_loadW Try.isAgg41 Try.sizeOf41 (by simp [Pl.len]; try rfl) (hM.box (.s (.s .z))))) ?_)
                      clear hA; intro a hA
                      refine ⟨fun h => absurd h (by decide), ?_⟩
                      refine d_one (i := 10) (L' := #[tT,tT,tT,tT,tT,tT,tT,tT,tT,tT,tT,fF,fF,fF,fF,fF]) (by kernel_rfl) rfl rfl (stv hA (by decide) (run_ld (hA.ev rfl) (run_loadP Try.isAgg46 Try.sizeOf46 (Place.at_Addr_ (hat6899)))) ?_)
                      clear hA; intro a hA
                      refine ⟨fun h => absurd h (by decide), ?_⟩
                      refine d_one (i := 11) (L' := #[tT,tT,tT,tT,tT,tT,tT,tT,tT,tT,tT,tT,fF,fF,fF,fF]) (by kernel_rfl) rfl rfl (st_call Try.call47 hA [(.agg (List.flatten [pHash.enc x5947, [(.slice A5950 xs5952.length c5951)], [(.slice A5955 xs5957.length c5956)]]).toArray), (.agg (pNAddr.enc ((xs5952.getD r6728.1.toNat Place.z).Addr_)).toArray)] rfl (by decide) (ref38_Good.calls _ (Book.mk x5947 xs5952 xs5957) _ _ _ _ _ _ ((hM.roV (p := pPlace) (Ms := []) (.s (.s (.s .z))))) ((hM.roV (p := pPlace) (Ms := []) (.s (.s (.s (.s .z)))))) (hM.front (Ms := [])) H6737) ?_)
                      clear hA; rintro _ w6900 ⟨v6901, v6902, rfl, hMc⟩ a hA
                      have hE := hMc.below; have hM := hM.call (Ms := []) hMc
                      clear hMc; simp only [List.cons_append, List.nil_append] at hM
                      obtain ⟨A6903, c6904, rfl⟩ := RowOk.form (hM.row (p := pPlace) .z)
                      obtain ⟨A6905, c6906, rfl⟩ := RowOk.form (hM.row (p := pPlace) (.s .z))
                      refine ⟨fun h => absurd h (by decide), ?_⟩
                      refine d_takef (i := 12) (L' := #[tT,tT,tT,tT,tT,tT,tT,tT,tT,tT,tT,tT,tT,fF,fF,fF]) rfl (by kernel_rfl) rfl (fun _ _ _ h => h) hA (by decide) (fun h => absurd h (by decide)) (fun a w' hA => run_move (hA.ev rfl)) ?_; clear hA; intro a hA
                      refine d_takef (i := 13) (L' := #[tT,tT,tT,tT,tT,tT,tT,tT,tT,tT,tT,tT,tT,tT,fF,fF]) rfl (by kernel_rfl) rfl (fun _ _ _ h => h) hA (by decide) (fun h => absurd h (by decide)) (fun a w' hA => run_ext (hA.ev rfl) rfl) ?_; clear hA; intro a hA
                      refine d_takef (i := 14) (L' := #[tT,tT,tT,tT,tT,tT,tT,tT,tT,tT,tT,tT,tT,tT,tT,fF]) rfl (by kernel_rfl) rfl (fun _ _ _ h => h) hA (by decide) (fun h => absurd h (by decide)) (fun a w' hA => run_ext (hA.ev rfl) rfl) ?_; clear hA; intro a hA
                      refine d_one (i := 15) (L' := #[tT,tT,tT,tT,tT,tT,tT,tT,tT,tT,tT,tT,tT,tT,tT,tT]) (by kernel_rfl) rfl rfl (e_store (g := g3525) (off := 0) (cur := (List.flatten [pHash.enc x5947, [(.slice A5950 xs5952.length c5951)], [(.slice A5955 xs5957.length c5956)]])) (cs' := (List.flatten [pHash.enc r6736.1.Salt, [(.slice A6903 r6736.1.Heard.length c6904)], [(.slice A6905 r6736.1.Tried.length c6906)]])) hM (.s (.s (.s (.s .z)))) Try.sizeOf41 hA rfl (by simp [add_mk]) rfl (by first | rfl | (simp [Value.cells, Pl.len]; done) | (simp [Value.cells, Pl.len]; rfl)) (one_flat (one_cons (Pl.one _ _) (one_cons (by simp [Value.oneCell']) (one_cons (by simp [Value.oneCell']) one_nil)))) (by first | exact Nat.le_of_ble_eq_true rfl | (simp [Pl.len]; done) | (simp [Pl.len]; decide)) (spl_all (by first | rfl | (simp [Value.cells, Pl.len]; done) | (simp [Value.cells, Pl.len]; rfl))) ?_)
                      clear hM hA; intro w6907  hM hE  a hA
                      refine ⟨fun h => absurd h (by decide), ?_⟩
                      refine d_done (by kernel_rfl) ?_
                      exact ⟨r6728.2.At_, r6736.1.Salt, r6736.1.Heard, r6736.1.Tried, (.slice A6903 r6736.1.Heard.length c6904), (.slice A6905 r6736.1.Tried.length c6906), Option.some.inj H6725, (hM.sel [2, 3, 4, 0, 1] rfl (by decide)), ((((hA.nil.cons (hA.get 4 _ rfl)).cons (hA.get 3 _ rfl)).cons (hA.get 2 _ rfl)).cons (hA.get 0 _ rfl))⟩
                    · refine d_op (i := 10) (L' := #[fF,tT,tT,tT,tT,tT,tT,tT,tT,tT,tT,fF,fF,fF,fF,fF]) rfl rfl (stv hA (by decide) (run_ld (hA.ev rfl) (run_loadP Try.isAgg46 Try.sizeOf46 (Place.at_Addr_ (hat6899)))) ?_)
                      clear hA; intro a hA
                      refine ⟨fun h => absurd h (by decide), ?_⟩
                      refine d_one (i := 0) (L' := #[tT,tT,tT,tT,tT,tT,tT,tT,tT,tT,tT,fF,fF,fF,fF,fF]) (by kernel_rfl) rfl rfl (stv hA (by decide) (run_ld (hA.ev rfl) (run_loadW Try.isAgg41 Try.sizeOf41 (by simp [Pl.len]; try rfl) (hM.box (.s (.s .z))))) ?_)
                      clear hA; intro a hA
                      refine ⟨fun h => absurd h (by decide), ?_⟩
                      refine d_one (i := 11) (L' := #[tT,tT,tT,tT,tT,tT,tT,tT,tT,tT,tT,tT,fF,fF,fF,fF]) (by kernel_rfl) rfl rfl (st_call Try.call47 hA [(.agg (List.flatten [pHash.enc x5947, [(.slice A5950 xs5952.length c5951)], [(.slice A5955 xs5957.length c5956)]]).toArray), (.agg (pNAddr.enc ((xs5952.getD r6728.1.toNat Place.z).Addr_)).toArray)] rfl (by decide) (ref38_Good.calls _ (Book.mk x5947 xs5952 xs5957) _ _ _ _ _ _ ((hM.roV (p := pPlace) (Ms := []) (.s (.s (.s .z))))) ((hM.roV (p := pPlace) (Ms := []) (.s (.s (.s (.s .z)))))) (hM.front (Ms := [])) H6737) ?_)
                      clear hA; rintro _ w6908 ⟨v6909, v6910, rfl, hMc⟩ a hA
                      have hE := hMc.below; have hM := hM.call (Ms := []) hMc
                      clear hMc; simp only [List.cons_append, List.nil_append] at hM
                      obtain ⟨A6911, c6912, rfl⟩ := RowOk.form (hM.row (p := pPlace) .z)
                      obtain ⟨A6913, c6914, rfl⟩ := RowOk.form (hM.row (p := pPlace) (.s .z))
                      refine ⟨fun h => absurd h (by decide), ?_⟩
                      refine d_takef (i := 12) (L' := #[tT,tT,tT,tT,tT,tT,tT,tT,tT,tT,tT,tT,tT,fF,fF,fF]) rfl (by kernel_rfl) rfl (fun _ _ _ h => h) hA (by decide) (fun h => absurd h (by decide)) (fun a w' hA => run_move (hA.ev rfl)) ?_; clear hA; intro a hA
                      refine d_takef (i := 13) (L' := #[tT,tT,tT,tT,tT,tT,tT,tT,tT,tT,tT,tT,tT,tT,fF,fF]) rfl (by kernel_rfl) rfl (fun _ _ _ h => h) hA (by decide) (fun h => absurd h (by decide)) (fun a w' hA => run_ext (hA.ev rfl) rfl) ?_; clear hA; intro a hA
                      refine d_takef (i := 14) (L' := #[tT,tT,tT,tT,tT,tT,tT,tT,tT,tT,tT,tT,tT,tT,tT,fF]) rfl (by kernel_rfl) rfl (fun _ _ _ h => h) hA (by decide) (fun h => absurd h (by decide)) (fun a w' hA => run_ext (hA.ev rfl) rfl) ?_; clear hA; intro a hA
                      refine d_one (i := 15) (L' := #[tT,tT,tT,tT,tT,tT,tT,tT,tT,tT,tT,tT,tT,tT,tT,tT]) (by kernel_rfl) rfl rfl (e_store (g := g3525) (off := 0) (cur := (List.flatten [pHash.enc x5947, [(.slice A5950 xs5952.length c5951)], [(.slice A5955 xs5957.length c5956)]])) (cs' := (List.flatten [pHash.enc r6736.1.Salt, [(.slice A6911 r6736.1.Heard.length c6912)], [(.slice A6913 r6736.1.Tried.length c6914)]])) hM (.s (.s (.s (.s .z)))) Try.sizeOf41 hA rfl (by simp [add_mk]) rfl (by first | rfl | (simp [Value.cells, Pl.len]; done) | (simp [Value.cells, Pl.len]; rfl)) (one_flat (one_cons (Pl.one _ _) (one_cons (by simp [Value.oneCell']) (one_cons (by simp [Value.oneCell']) one_nil)))) (by first | exact Nat.le_of_ble_eq_true rfl | (simp [Pl.len]; done) | (simp [Pl.len]; decide)) (spl_all (by first | rfl | (simp [Value.cells, Pl.len]; done) | (simp [Value.cells, Pl.len]; rfl))) ?_)
                      clear hM hA; intro w6915  hM hE  a hA
                      refine ⟨fun h => absurd h (by decide), ?_⟩
                      refine d_done (by kernel_rfl) ?_
                      exact ⟨r6728.2.At_, r6736.1.Salt, r6736.1.Heard, r6736.1.Tried, (.slice A6911 r6736.1.Heard.length c6912), (.slice A6913 r6736.1.Tried.length c6914), Option.some.inj H6725, (hM.sel [2, 3, 4, 0, 1] rfl (by decide)), ((((hA.nil.cons (hA.get 4 _ rfl)).cons (hA.get 3 _ rfl)).cons (hA.get 2 _ rfl)).cons (hA.get 0 _ rfl))⟩
            clear hM hA
            rintro a w6916 ⟨x6710, x6713, xs6718, xs6723, v6715, v6720, rfl, hM, hA⟩
            try dsimp only at H6516
            obtain ⟨A6716, c6717, rfl⟩ := RowOk.form (hM.row (p := pPlace) (.s (.s (.s .z))))
            obtain ⟨A6721, c6722, rfl⟩ := RowOk.form (hM.row (p := pPlace) (.s (.s (.s (.s .z)))))
            exact ⟨x6710, x6713, xs6718, xs6723, (.slice A6716 xs6718.length c6717), (.slice A6721 xs6723.length c6722), Option.some.inj H6516, hM, ((((hA.nil.cons (hA.get 4 _ rfl)).cons (hA.get 3 _ rfl)).cons (hA.get 2 _ rfl)).cons (hA.get 0 _ rfl))⟩
          · replace H6516 := ite_f hb6519 H6516
            refine wp_skip ?_
            exact ⟨r5981.2.At_, x5947, xs5952, xs5957, (.slice A5950 xs5952.length c5951), (.slice A5955 xs5957.length c5956), Option.some.inj H6516, hM, ((((hA.nil.cons (hA.get 4 _ rfl)).cons (hA.get 3 _ rfl)).cons (hA.get 2 _ rfl)).cons (hA.get 0 _ rfl))⟩
        · replace H6516 := ite_f hb6518 H6516
          obtain ⟨o6983, H6982, H6516⟩ := Option.bind_eq_some_iff.1 H6516
          refine cutC (fun a w => ∃ (x6967 : Int) (x6970 : (Vector Int 32)) (xs6975 : (List Place)) (xs6980 : (List Place)) (v6972 : Value) (v6977 : Value), (x6967, x6970, xs6975, xs6980) = o6983 ∧ Mem F w0 w [.box g0 91 [(.slice A0_0 d_0.L.length c0_0), (.int .i64 x6967)], .box g3519 41 (List.flatten [pHash.enc (Vector.replicate 32 0 : Vector Int 32), [(.slice none 0 0)], [(.slice none 0 0)]]), .box g3525 41 (List.flatten [pHash.enc x6970, [v6972], [v6977]]), .row 70 pPlace.sz v6972 (pPlace.flat xs6975), .row 70 pPlace.sz v6977 (pPlace.flat xs6980)] ∧ Has 49 [(0, (.pointer (some (⟨g0, 0, none⟩)))), (2, (.pointer (some (⟨g3519, 0, none⟩)))), (3, (.pointer (some (⟨g3525, 0, none⟩)))), (4, (.int .i64 t5959))] a) ?_ ?_
          · obtain ⟨r6985, H6986, H6982⟩ := Option.bind_eq_some_iff.1 H6982
            obtain ⟨r6988, H6989, H6982⟩ := Option.bind_eq_some_iff.1 H6982
            obtain ⟨r6991, H6992, H6982⟩ := Option.bind_eq_some_iff.1 H6982
            refine draw (fun w' => Below w5983.heap.size w5983 w') [2, 4, 11] rfl ?_
            intro w7003 hw hS; replace hM := hM.ext hS; clear hw
            refine d_takef (i := 1) (L' := #[fF,tT,fF,fF,fF,fF,fF,fF,fF,fF,fF,fF]) rfl (by kernel_rfl) rfl (fun _ _ _ h => h) hA (by decide) (fun _ => hS) (fun a w' hA => run_move (hA.ev rfl)) ?_; clear hA; intro a hA
            refine d_takef (i := 3) (L' := #[fF,tT,fF,tT,fF,fF,fF,fF,fF,fF,fF,fF]) rfl (by kernel_rfl) rfl (fun _ _ _ h => h) hA (by decide) (fun _ => hS) (fun a w' hA => run_move (hA.ev rfl)) ?_; clear hA; intro a hA
            refine d_many (is := [0, 2]) (by kernel_rfl) (by decide) ⟨?_, ?_, trivial⟩
            · refine d_op (i := 0) (L' := #[tT,tT,fF,tT,fF,fF,fF,fF,fF,fF,fF,fF]) rfl rfl (stv hA (by decide) (run_ld (hA.ev rfl) (run_loadW Try.isAgg41 Try.sizeOf41 (by simp [Pl.len]; try rfl) (hM.box (.s (.s .z))))) ?_)
              clear hA; intro a hA
              refine ⟨fun _ => hS, ?_⟩
              refine d_one (i := 2) (L' := #[tT,tT,tT,tT,fF,fF,fF,fF,fF,fF,fF,fF]) (by kernel_rfl) rfl rfl (st_call Try.call22 hA [(.pointer (some (⟨g0, 0, none⟩)))] rfl (by decide) (mill_Addr.calls _ (lightclientmill_Deck.mk d_0.L r5981.2.At_) _ _ _ _ _ ((RoV.mk (hM.roC (Ms := [_]) hr0_0) (Eq.refl d_0.L.length) hc0_0)) (hM.front (Ms := [_])) H6986) ?_)
              clear hA; rintro _ w7004 ⟨rfl, hMc⟩ a hA
              have hM := hM.call (Ms := [_]) hMc
              clear hMc; simp only [List.cons_append, List.nil_append] at hM
              refine ⟨fun h => absurd h (by decide), ?_⟩
              refine d_one (i := 4) (L' := #[tT,tT,tT,tT,tT,fF,fF,fF,fF,fF,fF,fF]) (by kernel_rfl) rfl rfl (st_call Try.call35 hA [(.pointer (some (⟨g0, 0, none⟩))), (.int .i64 4)] rfl (by decide) (mill_Deck_Next.calls _ (lightclientmill_Deck.mk d_0.L r6985.2.At_) _ _ _ _ _ _ ((RoV.mk (hM.roC (Ms := [_]) hr0_0) (Eq.refl d_0.L.length) hc0_0)) (hM.front (Ms := [_])) H6989) ?_)
              clear hA; rintro _ w7005 ⟨rfl, hMc⟩ a hA
              have hM := hM.call (Ms := [_]) hMc
              clear hMc; simp only [List.cons_append, List.nil_append] at hM
              refine ⟨fun h => absurd h (by decide), ?_⟩
              refine d_takef (i := 5) (L' := #[tT,tT,tT,tT,tT,tT,fF,fF,fF,fF,fF,fF]) rfl (by kernel_rfl) rfl (fun _ _ _ h => h) hA (by decide) (fun h => absurd h (by decide)) (fun a w' hA => run_conv Try.underlying3 Try.underlying43 (hA.ev rfl)) ?_; clear hA; intro a hA
              refine d_one (i := 6) (L' := #[tT,tT,tT,tT,tT,tT,tT,fF,fF,fF,fF,fF]) (by kernel_rfl) rfl rfl (st_call Try.call48 hA [(.agg (List.flatten [pHash.enc x5947, [(.slice A5950 xs5952.length c5951)], [(.slice A5955 xs5957.length c5956)]]).toArray), (.agg (pNAddr.enc r6985.1).toArray), (.int .u32 (IntKind.u32.wrap r6988.1))] rfl (by decide) (ref38_Heard.calls _ (Book.mk x5947 xs5952 xs5957) _ _ _ _ _ _ _ ((hM.roV (p := pPlace) (Ms := []) (.s (.s (.s .z))))) ((hM.roV (p := pPlace) (Ms := []) (.s (.s (.s (.s .z)))))) (hM.front (Ms := [])) H6992) ?_)
              clear hA; rintro _ w7006 ⟨v7007, v7008, rfl, hMc⟩ a hA
              have hE := hMc.below; have hM := hM.call (Ms := []) hMc
              clear hMc; simp only [List.cons_append, List.nil_append] at hM
              obtain ⟨A7009, c7010, rfl⟩ := RowOk.form (hM.row (p := pPlace) .z)
              obtain ⟨A7011, c7012, rfl⟩ := RowOk.form (hM.row (p := pPlace) (.s .z))
              refine ⟨fun h => absurd h (by decide), ?_⟩
              refine d_takef (i := 7) (L' := #[tT,tT,tT,tT,tT,tT,tT,tT,fF,fF,fF,fF]) rfl (by kernel_rfl) rfl (fun _ _ _ h => h) hA (by decide) (fun h => absurd h (by decide)) (fun a w' hA => run_move (hA.ev rfl)) ?_; clear hA; intro a hA
              refine d_takef (i := 8) (L' := #[tT,tT,tT,tT,tT,tT,tT,tT,tT,fF,fF,fF]) rfl (by kernel_rfl) rfl (fun _ _ _ h => h) hA (by decide) (fun h => absurd h (by decide)) (fun a w' hA => run_ext (hA.ev rfl) rfl) ?_; clear hA; intro a hA
              refine d_takef (i := 9) (L' := #[tT,tT,tT,tT,tT,tT,tT,tT,tT,tT,fF,fF]) rfl (by kernel_rfl) rfl (fun _ _ _ h => h) hA (by decide) (fun h => absurd h (by decide)) (fun a w' hA => run_ext (hA.ev rfl) rfl) ?_; clear hA; intro a hA
              refine d_takef (i := 10) (L' := #[tT,tT,tT,tT,tT,tT,tT,tT,tT,tT,tT,fF]) rfl (by kernel_rfl) rfl (fun _ _ _ h => h) hA (by decide) (fun h => absurd h (by decide)) (fun a w' hA => run_ext (hA.ev rfl) rfl) ?_; clear hA; intro a hA
              refine d_one (i := 11) (L' := #[tT,tT,tT,tT,tT,tT,tT,tT,tT,tT,tT,tT]) (by kernel_rfl) rfl rfl (e_store (g := g3525) (off := 0) (cur := (List.flatten [pHash.enc x5947, [(.slice A5950 xs5952.length c5951)], [(.slice A5955 xs5957.length c5956)]])) (cs' := (List.flatten [pHash.enc r6991.1.Salt, [(.slice A7009 r6991.1.Heard.length c7010)], [(.slice A7011 r6991.1.Tried.length c7012)]])) hM (.s (.s (.s (.s .z)))) Try.sizeOf41 hA rfl (by simp [add_mk]) rfl (by first | rfl | (simp [Value.cells, Pl.len]; done) | (simp [Value.cells, Pl.len]; rfl)) (one_flat (one_cons (Pl.one _ _) (one_cons (by simp [Value.oneCell']) (one_cons (by simp [Value.oneCell']) one_nil)))) (by first | exact Nat.le_of_ble_eq_true rfl | (simp [Pl.len]; done) | (simp [Pl.len]; decide)) (spl_all (by first | rfl | (simp [Value.cells, Pl.len]; done) | (simp [Value.cells, Pl.len]; rfl))) ?_)
              clear hM hA; intro w7013  hM hE  a hA
              refine ⟨fun h => absurd h (by decide), ?_⟩
              refine d_done (by kernel_rfl) ?_
              exact ⟨r6988.2.At_, r6991.1.Salt, r6991.1.Heard, r6991.1.Tried, (.slice A7009 r6991.1.Heard.length c7010), (.slice A7011 r6991.1.Tried.length c7012), Option.some.inj H6982, (hM.sel [2, 3, 4, 0, 1] rfl (by decide)), ((((hA.nil.cons (hA.get 4 _ rfl)).cons (hA.get 3 _ rfl)).cons (hA.get 2 _ rfl)).cons (hA.get 0 _ rfl))⟩
            · refine d_op (i := 2) (L' := #[fF,tT,tT,tT,fF,fF,fF,fF,fF,fF,fF,fF]) rfl rfl (st_call Try.call22 hA [(.pointer (some (⟨g0, 0, none⟩)))] rfl (by decide) (mill_Addr.calls _ (lightclientmill_Deck.mk d_0.L r5981.2.At_) _ _ _ _ _ ((RoV.mk (hM.roC (Ms := [_]) hr0_0) (Eq.refl d_0.L.length) hc0_0)) (hM.front (Ms := [_])) H6986) ?_)
              clear hA; rintro _ w7014 ⟨rfl, hMc⟩ a hA
              have hM := hM.call (Ms := [_]) hMc
              clear hMc; simp only [List.cons_append, List.nil_append] at hM
              refine ⟨fun h => absurd h (by decide), ?_⟩
              refine d_many (is := [0, 4]) (by kernel_rfl) (by decide) ⟨?_, ?_, trivial⟩
              · refine d_op (i := 0) (L' := #[tT,tT,tT,tT,fF,fF,fF,fF,fF,fF,fF,fF]) rfl rfl (stv hA (by decide) (run_ld (hA.ev rfl) (run_loadW Try.isAgg41 Try.sizeOf41 (by simp [Pl.len]; try rfl) (hM.box (.s (.s .z))))) ?_)
                clear hA; intro a hA
                refine ⟨fun h => absurd h (by decide), ?_⟩
                refine d_one (i := 4) (L' := #[tT,tT,tT,tT,tT,fF,fF,fF,fF,fF,fF,fF]) (by kernel_rfl) rfl rfl (st_call Try.call35 hA [(.pointer (some (⟨g0, 0, none⟩))), (.int .i64 4)] rfl (by decide) (mill_Deck_Next.calls _ (lightclientmill_Deck.mk d_0.L r6985.2.At_) _ _ _ _ _ _ ((RoV.mk (hM.roC (Ms := [_]) hr0_0) (Eq.refl d_0.L.length) hc0_0)) (hM.front (Ms := [_])) H6989) ?_)
                clear hA; rintro _ w7015 ⟨rfl, hMc⟩ a hA
                have hM := hM.call (Ms := [_]) hMc
                clear hMc; simp only [List.cons_append, List.nil_append] at hM
                refine ⟨fun h => absurd h (by decide), ?_⟩
                refine d_takef (i := 5) (L' := #[tT,tT,tT,tT,tT,tT,fF,fF,fF,fF,fF,fF]) rfl (by kernel_rfl) rfl (fun _ _ _ h => h) hA (by decide) (fun h => absurd h (by decide)) (fun a w' hA => run_conv Try.underlying3 Try.underlying43 (hA.ev rfl)) ?_; clear hA; intro a hA
                refine d_one (i := 6) (L' := #[tT,tT,tT,tT,tT,tT,tT,fF,fF,fF,fF,fF]) (by kernel_rfl) rfl rfl (st_call Try.call48 hA [(.agg (List.flatten [pHash.enc x5947, [(.slice A5950 xs5952.length c5951)], [(.slice A5955 xs5957.length c5956)]]).toArray), (.agg (pNAddr.enc r6985.1).toArray), (.int .u32 (IntKind.u32.wrap r6988.1))] rfl (by decide) (ref38_Heard.calls _ (Book.mk x5947 xs5952 xs5957) _ _ _ _ _ _ _ ((hM.roV (p := pPlace) (Ms := []) (.s (.s (.s .z))))) ((hM.roV (p := pPlace) (Ms := []) (.s (.s (.s (.s .z)))))) (hM.front (Ms := [])) H6992) ?_)
                clear hA; rintro _ w7016 ⟨v7017, v7018, rfl, hMc⟩ a hA
                have hE := hMc.below; have hM := hM.call (Ms := []) hMc
                clear hMc; simp only [List.cons_append, List.nil_append] at hM
                obtain ⟨A7019, c7020, rfl⟩ := RowOk.form (hM.row (p := pPlace) .z)
                obtain ⟨A7021, c7022, rfl⟩ := RowOk.form (hM.row (p := pPlace) (.s .z))
                refine ⟨fun h => absurd h (by decide), ?_⟩
                refine d_takef (i := 7) (L' := #[tT,tT,tT,tT,tT,tT,tT,tT,fF,fF,fF,fF]) rfl (by kernel_rfl) rfl (fun _ _ _ h => h) hA (by decide) (fun h => absurd h (by decide)) (fun a w' hA => run_move (hA.ev rfl)) ?_; clear hA; intro a hA
                refine d_takef (i := 8) (L' := #[tT,tT,tT,tT,tT,tT,tT,tT,tT,fF,fF,fF]) rfl (by kernel_rfl) rfl (fun _ _ _ h => h) hA (by decide) (fun h => absurd h (by decide)) (fun a w' hA => run_ext (hA.ev rfl) rfl) ?_; clear hA; intro a hA
                refine d_takef (i := 9) (L' := #[tT,tT,tT,tT,tT,tT,tT,tT,tT,tT,fF,fF]) rfl (by kernel_rfl) rfl (fun _ _ _ h => h) hA (by decide) (fun h => absurd h (by decide)) (fun a w' hA => run_ext (hA.ev rfl) rfl) ?_; clear hA; intro a hA
                refine d_takef (i := 10) (L' := #[tT,tT,tT,tT,tT,tT,tT,tT,tT,tT,tT,fF]) rfl (by kernel_rfl) rfl (fun _ _ _ h => h) hA (by decide) (fun h => absurd h (by decide)) (fun a w' hA => run_ext (hA.ev rfl) rfl) ?_; clear hA; intro a hA
                refine d_one (i := 11) (L' := #[tT,tT,tT,tT,tT,tT,tT,tT,tT,tT,tT,tT]) (by kernel_rfl) rfl rfl (e_store (g := g3525) (off := 0) (cur := (List.flatten [pHash.enc x5947, [(.slice A5950 xs5952.length c5951)], [(.slice A5955 xs5957.length c5956)]])) (cs' := (List.flatten [pHash.enc r6991.1.Salt, [(.slice A7019 r6991.1.Heard.length c7020)], [(.slice A7021 r6991.1.Tried.length c7022)]])) hM (.s (.s (.s (.s .z)))) Try.sizeOf41 hA rfl (by simp [add_mk]) rfl (by first | rfl | (simp [Value.cells, Pl.len]; done) | (simp [Value.cells, Pl.len]; rfl)) (one_flat (one_cons (Pl.one _ _) (one_cons (by simp [Value.oneCell']) (one_cons (by simp [Value.oneCell']) one_nil)))) (by first | exact Nat.le_of_ble_eq_true rfl | (simp [Pl.len]; done) | (simp [Pl.len]; decide)) (spl_all (by first | rfl | (simp [Value.cells, Pl.len]; done) | (simp [Value.cells, Pl.len]; rfl))) ?_)
                clear hM hA; intro w7023  hM hE  a hA
                refine ⟨fun h => absurd h (by decide), ?_⟩
                refine d_done (by kernel_rfl) ?_
                exact ⟨r6988.2.At_, r6991.1.Salt, r6991.1.Heard, r6991.1.Tried, (.slice A7019 r6991.1.Heard.length c7020), (.slice A7021 r6991.1.Tried.length c7022), Option.some.inj H6982, (hM.sel [2, 3, 4, 0, 1] rfl (by decide)), ((((hA.nil.cons (hA.get 4 _ rfl)).cons (hA.get 3 _ rfl)).cons (hA.get 2 _ rfl)).cons (hA.get 0 _ rfl))⟩
              · refine d_op (i := 4) (L' := #[fF,tT,tT,tT,tT,fF,fF,fF,fF,fF,fF,fF]) rfl rfl (st_call Try.call35 hA [(.pointer (some (⟨g0, 0, none⟩))), (.int .i64 4)] rfl (by decide) (mill_Deck_Next.calls _ (lightclientmill_Deck.mk d_0.L r6985.2.At_) _ _ _ _ _ _ ((RoV.mk (hM.roC (Ms := [_]) hr0_0) (Eq.refl d_0.L.length) hc0_0)) (hM.front (Ms := [_])) H6989) ?_)
                clear hA; rintro _ w7024 ⟨rfl, hMc⟩ a hA
                have hM := hM.call (Ms := [_]) hMc
                clear hMc; simp only [List.cons_append, List.nil_append] at hM
                refine ⟨fun h => absurd h (by decide), ?_⟩
                refine d_takef (i := 5) (L' := #[fF,tT,tT,tT,tT,tT,fF,fF,fF,fF,fF,fF]) rfl (by kernel_rfl) rfl (fun _ _ _ h => h) hA (by decide) (fun h => absurd h (by decide)) (fun a w' hA => run_conv Try.underlying3 Try.underlying43 (hA.ev rfl)) ?_; clear hA; intro a hA
                refine d_one (i := 0) (L' := #[tT,tT,tT,tT,tT,tT,fF,fF,fF,fF,fF,fF]) (by kernel_rfl) rfl rfl (stv hA (by decide) (run_ld (hA.ev rfl) (run_loadW Try.isAgg41 Try.sizeOf41 (by simp [Pl.len]; try rfl) (hM.box (.s (.s .z))))) ?_)
                clear hA; intro a hA
                refine ⟨fun h => absurd h (by decide), ?_⟩
                refine d_one (i := 6) (L' := #[tT,tT,tT,tT,tT,tT,tT,fF,fF,fF,fF,fF]) (by kernel_rfl) rfl rfl (st_call Try.call48 hA [(.agg (List.flatten [pHash.enc x5947, [(.slice A5950 xs5952.length c5951)], [(.slice A5955 xs5957.length c5956)]]).toArray), (.agg (pNAddr.enc r6985.1).toArray), (.int .u32 (IntKind.u32.wrap r6988.1))] rfl (by decide) (ref38_Heard.calls _ (Book.mk x5947 xs5952 xs5957) _ _ _ _ _ _ _ ((hM.roV (p := pPlace) (Ms := []) (.s (.s (.s .z))))) ((hM.roV (p := pPlace) (Ms := []) (.s (.s (.s (.s .z)))))) (hM.front (Ms := [])) H6992) ?_)
                clear hA; rintro _ w7025 ⟨v7026, v7027, rfl, hMc⟩ a hA
                have hE := hMc.below; have hM := hM.call (Ms := []) hMc
                clear hMc; simp only [List.cons_append, List.nil_append] at hM
                obtain ⟨A7028, c7029, rfl⟩ := RowOk.form (hM.row (p := pPlace) .z)
                obtain ⟨A7030, c7031, rfl⟩ := RowOk.form (hM.row (p := pPlace) (.s .z))
                refine ⟨fun h => absurd h (by decide), ?_⟩
                refine d_takef (i := 7) (L' := #[tT,tT,tT,tT,tT,tT,tT,tT,fF,fF,fF,fF]) rfl (by kernel_rfl) rfl (fun _ _ _ h => h) hA (by decide) (fun h => absurd h (by decide)) (fun a w' hA => run_move (hA.ev rfl)) ?_; clear hA; intro a hA
                refine d_takef (i := 8) (L' := #[tT,tT,tT,tT,tT,tT,tT,tT,tT,fF,fF,fF]) rfl (by kernel_rfl) rfl (fun _ _ _ h => h) hA (by decide) (fun h => absurd h (by decide)) (fun a w' hA => run_ext (hA.ev rfl) rfl) ?_; clear hA; intro a hA
                refine d_takef (i := 9) (L' := #[tT,tT,tT,tT,tT,tT,tT,tT,tT,tT,fF,fF]) rfl (by kernel_rfl) rfl (fun _ _ _ h => h) hA (by decide) (fun h => absurd h (by decide)) (fun a w' hA => run_ext (hA.ev rfl) rfl) ?_; clear hA; intro a hA
                refine d_takef (i := 10) (L' := #[tT,tT,tT,tT,tT,tT,tT,tT,tT,tT,tT,fF]) rfl (by kernel_rfl) rfl (fun _ _ _ h => h) hA (by decide) (fun h => absurd h (by decide)) (fun a w' hA => run_ext (hA.ev rfl) rfl) ?_; clear hA; intro a hA
                refine d_one (i := 11) (L' := #[tT,tT,tT,tT,tT,tT,tT,tT,tT,tT,tT,tT]) (by kernel_rfl) rfl rfl (e_store (g := g3525) (off := 0) (cur := (List.flatten [pHash.enc x5947, [(.slice A5950 xs5952.length c5951)], [(.slice A5955 xs5957.length c5956)]])) (cs' := (List.flatten [pHash.enc r6991.1.Salt, [(.slice A7028 r6991.1.Heard.length c7029)], [(.slice A7030 r6991.1.Tried.length c7031)]])) hM (.s (.s (.s (.s .z)))) Try.sizeOf41 hA rfl (by simp [add_mk]) rfl (by first | rfl | (simp [Value.cells, Pl.len]; done) | (simp [Value.cells, Pl.len]; rfl)) (one_flat (one_cons (Pl.one _ _) (one_cons (by simp [Value.oneCell']) (one_cons (by simp [Value.oneCell']) one_nil)))) (by first | exact Nat.le_of_ble_eq_true rfl | (simp [Pl.len]; done) | (simp [Pl.len]; decide)) (spl_all (by first | rfl | (simp [Value.cells, Pl.len]; done) | (simp [Value.cells, Pl.len]; rfl))) ?_)
                clear hM hA; intro w7032  hM hE  a hA
                refine ⟨fun h => absurd h (by decide), ?_⟩
                refine d_done (by kernel_rfl) ?_
                exact ⟨r6988.2.At_, r6991.1.Salt, r6991.1.Heard, r6991.1.Tried, (.slice A7028 r6991.1.Heard.length c7029), (.slice A7030 r6991.1.Tried.length c7031), Option.some.inj H6982, (hM.sel [2, 3, 4, 0, 1] rfl (by decide)), ((((hA.nil.cons (hA.get 4 _ rfl)).cons (hA.get 3 _ rfl)).cons (hA.get 2 _ rfl)).cons (hA.get 0 _ rfl))⟩
          clear hM hA
          rintro a w7033 ⟨x6967, x6970, xs6975, xs6980, v6972, v6977, rfl, hM, hA⟩
          try dsimp only at H6516
          obtain ⟨A6973, c6974, rfl⟩ := RowOk.form (hM.row (p := pPlace) (.s (.s (.s .z))))
          obtain ⟨A6978, c6979, rfl⟩ := RowOk.form (hM.row (p := pPlace) (.s (.s (.s (.s .z)))))
          exact ⟨x6967, x6970, xs6975, xs6980, (.slice A6973 xs6975.length c6974), (.slice A6978 xs6980.length c6979), Option.some.inj H6516, hM, ((((hA.nil.cons (hA.get 4 _ rfl)).cons (hA.get 3 _ rfl)).cons (hA.get 2 _ rfl)).cons (hA.get 0 _ rfl))⟩
      clear hM hA
      rintro a w7034 ⟨x6501, x6504, xs6509, xs6514, v6506, v6511, rfl, hM, hA⟩
      try dsimp only at H5974
      obtain ⟨A6507, c6508, rfl⟩ := RowOk.form (hM.row (p := pPlace) (.s (.s (.s .z))))
      obtain ⟨A6512, c6513, rfl⟩ := RowOk.form (hM.row (p := pPlace) (.s (.s (.s (.s .z)))))
      refine BN ?_
      refine BN ?_
      refine TN ?_
      refine wp_region_lit ?_
      refine L1 (stv hA (by decide) (run_move (hA.ev rfl)) ?_)
      clear hA; intro a hA
      refine L1 (stv hA (by decide) (run_bin (hA.ev rfl) (hA.ev rfl) (bin_sub _ _ _ _)) ?_)
      clear hA; intro a hA
      refine L1 (stv hA (by decide) (run_assign (hA.ev rfl)) ?_)
      clear hA; intro a hA
      refine LQ ?_
      exact ⟨_, Nat.lt_succ_self m5978, x6501, x6504, xs6509, xs6514, IntKind.i64.wrap (t5959 - 1), (.slice A6507 xs6509.length c6508), (.slice A6512 xs6514.length c6513), H5974, hM, ((((hA.nil.cons (hA.get 4 _ rfl)).cons (hA.get 3 _ rfl)).cons (hA.get 2 _ rfl)).cons (hA.get 0 _ rfl))⟩
    · replace H5974 := ite_f hb5980 H5974
      refine wp_exit ?_
      refine TX ?_
      refine TX ?_
      refine BX ?_
      exact ⟨x5947, xs5952, xs5957, x5944, (.slice A5950 xs5952.length c5951), (.slice A5955 xs5957.length c5956), Option.some.inj H5974, (hM.sel [1, 2, 3, 4, 0] rfl (by decide)), ((hA.nil.cons (hA.get 3 _ rfl)).cons (hA.get 2 _ rfl))⟩
  clear hM hA
  rintro a w7035 ⟨x5962, xs5967, xs5972, x5973, v5964, v5969, rfl, hM, hA⟩
  try dsimp only at H
  obtain ⟨A5965, c5966, rfl⟩ := RowOk.form (hM.row (p := pPlace) (.s (.s .z)))
  obtain ⟨A5970, c5971, rfl⟩ := RowOk.form (hM.row (p := pPlace) (.s (.s (.s .z))))
  refine TN ?_
  refine wp_seq ?_
  refine wp_region_lit ?_
  refine L1 (stv hA (by decide) (run_ld (hA.ev rfl) (run_loadW Try.isAgg41 Try.sizeOf41 (by simp [Pl.len]; try rfl) (hM.box (.s .z)))) ?_)
  clear hA; intro a hA
  refine L1 (e_store (g := g3519) (off := 0) (cur := (List.flatten [pHash.enc (Vector.replicate 32 0 : Vector Int 32), [(.slice none 0 0)], [(.slice none 0 0)]])) (cs' := (List.flatten [pHash.enc x5962, [(.slice A5965 xs5967.length c5966)], [(.slice A5970 xs5972.length c5971)]])) hM .z Try.sizeOf41 hA rfl (by simp [add_mk]) rfl (by first | rfl | (simp [Value.cells, Pl.len]; done) | (simp [Value.cells, Pl.len]; rfl)) (one_flat (one_cons (Pl.one _ _) (one_cons (by simp [Value.oneCell']) (one_cons (by simp [Value.oneCell']) one_nil)))) (by first | exact Nat.le_of_ble_eq_true rfl | (simp [Pl.len]; done) | (simp [Pl.len]; decide)) (spl_all (by first | rfl | (simp [Value.cells, Pl.len]; done) | (simp [Value.cells, Pl.len]; rfl))) ?_)
  clear hM hA; intro w7036  hM hE  a hA
  refine LQ ?_
  refine TN ?_
  refine wp_ret ?_
  obtain rfl := Option.some.inj H
  exact ret_cell (fn := Try.f21) hA rfl rfl (run_loadW Try.isAgg41 Try.sizeOf41 (by simp [Pl.len]; try rfl) (hM.box .z)) ⟨_, rfl, (.slice A5965 xs5967.length c5966), (.slice A5970 xs5972.length c5971), rfl, (hM.sel [4, 2, 3] rfl (by decide))⟩

end Go.Proofs.Ytoogcdmdbogkeaa.G
