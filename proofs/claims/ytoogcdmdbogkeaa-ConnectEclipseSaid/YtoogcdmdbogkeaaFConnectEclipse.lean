/- The functions that a law of this seat reaches: what each comes to, as a plain function, and that its code comes to it. Conditions: the plain function gives a value (enough fuel, no panic). -/
import Derived.Test.YtoogcdmdbogkeaaFConnectEclipsex3
set_option linter.unusedVariables false
set_option linter.unusedSimpArgs false
namespace Go.Proofs.Ytoogcdmdbogkeaa.G
open Go Go.RowKit Go.Proofs
def law39_grow.l0 (b_0 : Book) (anchors_1 : (List NAddr)) (draws_2 : (List Int)) : Nat → (List Link) → Int → Int → Option (Out ((List Link) × Bool) ((List Link)))
  | 0, _, _, _ => none
  | k + 1, xs983, x985, t987 => (if (decide (t987 < 20)) = true then (Option.bind (α := Int × Link × Int) ((mill_Deck_Next.f k (lightclientmill_Deck.mk draws_2 x985) 1048576).bind fun r1061 => ((connect_Choose.f k (Book.mk b_0.Salt b_0.Heard b_0.Tried) anchors_1 xs983 (IntKind.u64.wrap r1061.1)).bind fun r1064 => (some (r1061.2.At_, r1064.1, r1064.2)))) (fun st => match st with | (x1050, x1055, e1057) => (if (e1057 != 0) = true then (Option.bind (α := Bool) (if (e1057 == 390) = true then (some true) else (some (e1057 == 380))) (fun t1111 => (some (.ret (xs983, t1111))))) else ((connect_Open.f k xs983 x1055).bind fun r1116 => (if (r1116.2 != 0) = true then (some (.ret (xs983, false))) else (law39_grow.l0 b_0 anchors_1 draws_2 k r1116.1 x1050 (IntKind.i64.wrap (t987 + 1)))))))) else (some (.go xs983)))
def law39_grow.f (k : Nat) (b_0 : Book) (anchors_1 : (List NAddr)) (draws_2 : (List Int)) : Option ((List Link) × Bool) := ((mill_New.f k draws_2).bind fun r565 => (Option.bind (α := Out ((List Link) × Bool) ((List Link))) (law39_grow.l0 b_0 anchors_1 draws_2 k ([] : List Link) r565.At_ 0) (fun o => match o with | .ret r => some r | .go xs993 => (some (xs993, false)))))
set_option maxHeartbeats 2000000 in
set_option maxRecDepth 100000 in
theorem law39_grow.calls (k : Nat) (b_0 : Book) (anchors_1 : (List NAddr)) (draws_2 : (List Int)) (F : List (Option Nat)) (v0_1 : Value) (v0_2 : Value) (v1 : Value) (v2 : Value) (r : ((List Link) × Bool)) (w0 : World) (h0_1 : RoV F pPlace w0 v0_1 b_0.Heard) (h0_2 : RoV F pPlace w0 v0_2 b_0.Tried) (h1 : RoV F pNAddr w0 v1 anchors_1) (h2 : RoV F (Pl.int .i64) w0 v2 draws_2) (hM : Mem F w0 w0 []) (H : law39_grow.f k b_0 anchors_1 draws_2 = some r) :
    Calls Try.prog 23 #[(.agg (List.flatten [pHash.enc b_0.Salt, [v0_1], [v0_2]]).toArray), v1, v2] w0 fun e w' => ∃ v, e = .returned v ∧ ∃ (ur_0 : Value), v = (.tuple #[ur_0, (.bool r.2)]) ∧ Mem F w0 w' [.row 53 pLink.sz ur_0 (pLink.flat r.1)] := by
  unfold law39_grow.f at H
  obtain ⟨A0_1, c0_1, rfl, hr0_1, hc0_1⟩ := h0_1
  obtain ⟨A0_2, c0_2, rfl, hr0_2, hc0_2⟩ := h0_2
  obtain ⟨A1, c1, rfl, hr1, hc1⟩ := h1
  obtain ⟨A2, c2, rfl, hr2, hc2⟩ := h2
  refine enterL (n := 51) [(.agg (List.flatten [pHash.enc b_0.Salt, [(.slice A0_1 b_0.Heard.length c0_1)], [(.slice A0_2 b_0.Tried.length c0_2)]]).toArray), (.slice A1 anchors_1.length c1), (.slice A2 draws_2.length c2)] Try.func23 rfl rfl rfl ?_
  intro a hA
  refine wp_seq ?_
  refine wp_region_lit ?_
  refine L1 (e_box (cs := (List.flatten [pHash.enc b_0.Salt, [(.slice A0_1 b_0.Heard.length c0_1)], [(.slice A0_2 b_0.Tried.length c0_2)]])) hM hA rfl rfl (by decide) ?_)
  clear hM hA; intro w563 g562 hM hE  a hA
  refine L1 (stv hA (by decide) (run_assign (hA.ev rfl)) ?_)
  clear hA; intro a hA
  refine L1 (stv hA (by decide) (run_assign (hA.ev rfl)) ?_)
  clear hA; intro a hA
  refine LQ ?_
  refine TN ?_
  refine wp_seq ?_
  refine wp_region_lit ?_
  refine L1 (stv hA (by decide) (run_assign (hA.ev rfl)) ?_)
  clear hA; intro a hA
  refine LQ ?_
  refine TN ?_
  refine wp_seq ?_
  refine wp_region_lit ?_
  refine L1 (stv hA (by decide) (run_move (hA.ev rfl)) ?_)
  clear hA; intro a hA
  obtain ⟨r565, H566, H⟩ := Option.bind_eq_some_iff.1 H
  refine L1 (st_call Try.call20 hA [(.slice A2 draws_2.length c2)] rfl (by decide) (mill_New.calls _ _ _ _ _ _ ((RoV.mk (hM.roC (Ms := []) hr2) (Eq.refl draws_2.length) hc2)) (hM.front (Ms := [])) H566) ?_)
  clear hA; rintro _ w567 ⟨g568, rfl, hMc⟩ a hA
  have hE := hMc.below; have hM := hM.call (Ms := []) hMc
  clear hMc; simp only [List.cons_append, List.nil_append] at hM
  refine L1 (stv hA (by decide) (run_assign (hA.ev rfl)) ?_)
  clear hA; intro a hA
  refine LQ ?_
  refine TN ?_
  refine wp_seq ?_
  refine wp_seq ?_
  refine wp_region_lit ?_
  refine L1 (stv hA (by decide) (run_assign (hA.ev rfl)) ?_)
  clear hA; intro a hA
  refine LQ ?_
  refine TN ?_
  obtain ⟨o995, H994, H⟩ := Option.bind_eq_some_iff.1 H
  refine cutC (fun a w => ∃ (xs993 : (List Link)) (v990 : Value), (.go xs993) = o995 ∧ Mem F w0 w [.row 53 pLink.sz v990 (pLink.flat xs993)] ∧ Has 51 [(8, v990)] a) ?_ ?_
  · refine wp_block ?_
    have hM := hM.addnil 53 (pLink).sz
    refine wp_loop_ghost (fun m a w => ∃ (xs983 : (List Link)) (x985 : Int) (t987 : Int) (v980 : Value), law39_grow.l0 b_0 anchors_1 draws_2 m xs983 x985 t987 = some o995 ∧ Mem F w0 w [.box g562 41 (List.flatten [pHash.enc b_0.Salt, [(.slice A0_1 b_0.Heard.length c0_1)], [(.slice A0_2 b_0.Tried.length c0_2)]]), .row 53 pLink.sz v980 (pLink.flat xs983), .box g568 91 [(.slice A2 draws_2.length c2), (.int .i64 x985)]] ∧ Has 51 [(1, (.slice A1 anchors_1.length c1)), (3, (.pointer (some (⟨g562, 0, none⟩)))), (8, v980), (9, (.pointer (some (⟨g568, 0, none⟩)))), (10, (.int .i64 t987))] a) k ⟨([] : List Link), r565.At_, 0, (.slice none 0 0), H994, (hM.sel [2, 0, 1] rfl (by decide)), (((((hA.nil.cons (hA.get 10 _ rfl)).cons (hA.get 9 _ rfl)).cons (hA.get 8 _ rfl)).cons (hA.get 3 _ rfl)).cons (hA.get 1 _ rfl))⟩ ?_
    clear hM hA; rintro m997 a w998 ⟨xs983, x985, t987, v980, H994, hM, hA⟩
    cases m997 with
    | zero => exact absurd H994 (by simp [law39_grow.l0])
    | succ m997 =>
    rw [law39_grow.l0] at H994
    obtain ⟨A981, c982, rfl⟩ := RowOk.form (hM.row (p := pLink) (.s .z))
    refine wp_seq ?_
    refine wp_seq ?_
    refine wp_region_lit ?_
    refine L1 (stv hA (by decide) (run_move (hA.ev rfl)) ?_)
    clear hA; intro a hA
    refine L1 (stv hA (by decide) (run_bin (hA.ev rfl) (hA.ev rfl) (bin_lss _ _ _ _)) ?_)
    clear hA; intro a hA
    refine LQ ?_
    refine TN ?_
    refine tcond (b := (decide (t987 < 20))) hA rfl (fun hb999 => ?_) (fun hb999 => ?_)
    · replace H994 := ite_t hb999 H994
      refine wp_skip ?_
      refine TN ?_
      refine wp_seq ?_
      refine wp_block ?_
      refine wp_seq ?_
      obtain ⟨o1059, H1058, H994⟩ := Option.bind_eq_some_iff.1 H994
      refine cutC (fun a w => ∃ (x1050 : Int) (x1055 : Link) (e1057 : Int) (g1054 : Nat), (x1050, x1055, e1057) = o1059 ∧ Mem F w0 w [.box g562 41 (List.flatten [pHash.enc b_0.Salt, [(.slice A0_1 b_0.Heard.length c0_1)], [(.slice A0_2 b_0.Tried.length c0_2)]]), .row 53 pLink.sz (.slice A981 xs983.length c982) (pLink.flat xs983), .box g568 91 [(.slice A2 draws_2.length c2), (.int .i64 x1050)], .box g1054 53 (pLink.enc x1055)] ∧ Has 51 [(1, (.slice A1 anchors_1.length c1)), (3, (.pointer (some (⟨g562, 0, none⟩)))), (8, (.slice A981 xs983.length c982)), (9, (.pointer (some (⟨g568, 0, none⟩)))), (10, (.int .i64 t987)), (11, (.pointer (some (⟨g1054, 0, none⟩)))), (12, (.int .i64 e1057))] a) ?_ ?_
      · obtain ⟨r1061, H1062, H1058⟩ := Option.bind_eq_some_iff.1 H1058
        obtain ⟨r1064, H1065, H1058⟩ := Option.bind_eq_some_iff.1 H1058
        refine draw (fun w' => Below w998.heap.size w998 w') [4, 11] rfl ?_
        intro w1070 hw hS; replace hM := hM.ext hS; clear hw
        refine d_takef (i := 1) (L' := #[fF,tT,fF,fF,fF,fF,fF,fF,fF,fF,fF,fF,fF]) rfl (by kernel_rfl) rfl (fun _ _ _ h => h) hA (by decide) (fun _ => hS) (fun a w' hA => run_move (hA.ev rfl)) ?_; clear hA; intro a hA
        refine d_takef (i := 2) (L' := #[fF,tT,tT,fF,fF,fF,fF,fF,fF,fF,fF,fF,fF]) rfl (by kernel_rfl) rfl (fun _ _ _ h => h) hA (by decide) (fun _ => hS) (fun a w' hA => run_move (hA.ev rfl)) ?_; clear hA; intro a hA
        refine d_takef (i := 3) (L' := #[fF,tT,tT,tT,fF,fF,fF,fF,fF,fF,fF,fF,fF]) rfl (by kernel_rfl) rfl (fun _ _ _ h => h) hA (by decide) (fun _ => hS) (fun a w' hA => run_move (hA.ev rfl)) ?_; clear hA; intro a hA
        refine d_many (is := [0, 4, 10]) (by kernel_rfl) (by decide) ⟨?_, ?_, ?_, trivial⟩
        · refine d_op (i := 0) (L' := #[tT,tT,tT,tT,fF,fF,fF,fF,fF,fF,fF,fF,fF]) rfl rfl (stv hA (by decide) (run_ld (hA.ev rfl) (run_loadW Try.isAgg41 Try.sizeOf41 (by simp [Pl.len]; try rfl) (hM.box .z))) ?_)
          clear hA; intro a hA
          refine ⟨fun _ => hS, ?_⟩
          refine d_many (is := [4, 10]) (by kernel_rfl) (by decide) ⟨?_, ?_, trivial⟩
          · have hM := hM.sel [2, 0, 1] rfl (by decide)
            refine d_op (i := 4) (L' := #[tT,tT,tT,tT,tT,fF,fF,fF,fF,fF,fF,fF,fF]) rfl rfl (st_call Try.call35 hA [(.pointer (some (⟨g568, 0, none⟩))), (.int .i64 1048576)] rfl (by decide) (mill_Deck_Next.calls _ (lightclientmill_Deck.mk draws_2 x985) _ _ _ _ _ _ ((RoV.mk (hM.roC (Ms := [_]) hr2) (Eq.refl draws_2.length) hc2)) (hM.front (Ms := [_])) H1062) ?_)
            clear hA; rintro _ w1071 ⟨rfl, hMc⟩ a hA
            have hM := hM.call (Ms := [_]) hMc
            clear hMc; simp only [List.cons_append, List.nil_append] at hM
            refine ⟨fun h => absurd h (by decide), ?_⟩
            refine d_takef (i := 5) (L' := #[tT,tT,tT,tT,tT,tT,fF,fF,fF,fF,fF,fF,fF]) rfl (by kernel_rfl) rfl (fun _ _ _ h => h) hA (by decide) (fun h => absurd h (by decide)) (fun a w' hA => run_conv Try.underlying3 Try.underlying22 (hA.ev rfl)) ?_; clear hA; intro a hA
            refine d_many (is := [6, 10]) (by kernel_rfl) (by decide) ⟨?_, ?_, trivial⟩
            · refine d_op (i := 6) (L' := #[tT,tT,tT,tT,tT,tT,tT,fF,fF,fF,fF,fF,fF]) rfl rfl (st_call Try.call27 hA [(.agg (List.flatten [pHash.enc b_0.Salt, [(.slice A0_1 b_0.Heard.length c0_1)], [(.slice A0_2 b_0.Tried.length c0_2)]]).toArray), (.slice A1 anchors_1.length c1), (.slice A981 xs983.length c982), (.int .u64 (IntKind.u64.wrap r1061.1))] rfl (by decide) (connect_Choose.calls _ (Book.mk b_0.Salt b_0.Heard b_0.Tried) _ _ _ _ _ _ _ _ _ _ ((RoV.mk (hM.roC (Ms := []) hr0_1) (Eq.refl b_0.Heard.length) hc0_1)) ((RoV.mk (hM.roC (Ms := []) hr0_2) (Eq.refl b_0.Tried.length) hc0_2)) ((RoV.mk (hM.roC (Ms := []) hr1) (Eq.refl anchors_1.length) hc1)) ((hM.roV (p := pLink) (Ms := []) (.s (.s .z)))) (hM.front (Ms := [])) H1065) ?_)
              clear hA; rintro _ w1072 ⟨rfl, hMc⟩ a hA
              have hE := hMc.below; have hM := hM.call (Ms := []) hMc
              clear hMc; simp only [List.cons_append, List.nil_append] at hM
              refine ⟨fun h => absurd h (by decide), ?_⟩
              refine d_takef (i := 7) (L' := #[tT,tT,tT,tT,tT,tT,tT,tT,fF,fF,fF,fF,fF]) rfl (by kernel_rfl) rfl (fun _ _ _ h => h) hA (by decide) (fun h => absurd h (by decide)) (fun a w' hA => run_move (hA.ev rfl)) ?_; clear hA; intro a hA
              refine d_takef (i := 8) (L' := #[tT,tT,tT,tT,tT,tT,tT,tT,tT,fF,fF,fF,fF]) rfl (by kernel_rfl) rfl (fun _ _ _ h => h) hA (by decide) (fun h => absurd h (by decide)) (fun a w' hA => run_ext (hA.ev rfl) rfl) ?_; clear hA; intro a hA
              refine d_takef (i := 9) (L' := #[tT,tT,tT,tT,tT,tT,tT,tT,tT,tT,fF,fF,fF]) rfl (by kernel_rfl) rfl (fun _ _ _ h => h) hA (by decide) (fun h => absurd h (by decide)) (fun a w' hA => run_ext (hA.ev rfl) rfl) ?_; clear hA; intro a hA
              refine d_one (i := 10) (L' := #[tT,tT,tT,tT,tT,tT,tT,tT,tT,tT,tT,fF,fF]) (by kernel_rfl) rfl rfl (e_alloc (cs := (pLink.enc Link.z)) hM zero53 rfl hA (by decide) ?_)
              clear hM hA; intro w1074 g1073 hM hE  a hA
              refine ⟨fun h => absurd h (by decide), ?_⟩
              refine d_one (i := 11) (L' := #[tT,tT,tT,tT,tT,tT,tT,tT,tT,tT,tT,tT,fF]) (by kernel_rfl) rfl rfl (e_store (g := g1073) (off := 0) (cur := (pLink.enc Link.z)) (cs' := (pLink.enc r1064.1)) hM .z Try.sizeOf53 hA rfl (by simp [add_mk]) rfl (agg_size _ _) (agg_one _ _) (Nat.le_of_ble_eq_true (enc_fitL _ _ rfl)) (spl_all (by first | rfl | (simp [Value.cells, Pl.len]; done) | (simp [Value.cells, Pl.len]; rfl))) ?_)
              clear hM hA; intro w1075  hM hE  a hA
              refine ⟨fun h => absurd h (by decide), ?_⟩
              refine d_takef (i := 12) (L' := #[tT,tT,tT,tT,tT,tT,tT,tT,tT,tT,tT,tT,tT]) rfl (by kernel_rfl) rfl (fun _ _ _ h => h) hA (by decide) (fun h => absurd h (by decide)) (fun a w' hA => run_assign (hA.ev rfl)) ?_; clear hA; intro a hA
              refine d_done (by kernel_rfl) ?_
              exact ⟨r1061.2.At_, r1064.1, r1064.2, g1073, Option.some.inj H1058, (hM.sel [2, 3, 1, 0] rfl (by decide)), (((((((hA.nil.cons (hA.get 12 _ rfl)).cons (hA.get 11 _ rfl)).cons (hA.get 10 _ rfl)).cons (hA.get 9 _ rfl)).cons (hA.get 8 _ rfl)).cons (hA.get 3 _ rfl)).cons (hA.get 1 _ rfl))⟩
            · refine d_op (i := 10) (L' := #[tT,tT,tT,tT,tT,tT,fF,fF,fF,fF,tT,fF,fF]) rfl rfl (e_alloc (cs := (pLink.enc Link.z)) hM zero53 rfl hA (by decide) ?_)
              clear hM hA; intro w1077 g1076 hM hE  a hA
              refine ⟨fun h => absurd h (by decide), ?_⟩
              refine d_one (i := 6) (L' := #[tT,tT,tT,tT,tT,tT,tT,fF,fF,fF,tT,fF,fF]) (by kernel_rfl) rfl rfl (st_call Try.call27 hA [(.agg (List.flatten [pHash.enc b_0.Salt, [(.slice A0_1 b_0.Heard.length c0_1)], [(.slice A0_2 b_0.Tried.length c0_2)]]).toArray), (.slice A1 anchors_1.length c1), (.slice A981 xs983.length c982), (.int .u64 (IntKind.u64.wrap r1061.1))] rfl (by decide) (connect_Choose.calls _ (Book.mk b_0.Salt b_0.Heard b_0.Tried) _ _ _ _ _ _ _ _ _ _ ((RoV.mk (hM.roC (Ms := []) hr0_1) (Eq.refl b_0.Heard.length) hc0_1)) ((RoV.mk (hM.roC (Ms := []) hr0_2) (Eq.refl b_0.Tried.length) hc0_2)) ((RoV.mk (hM.roC (Ms := []) hr1) (Eq.refl anchors_1.length) hc1)) ((hM.roV (p := pLink) (Ms := []) (.s (.s (.s .z))))) (hM.front (Ms := [])) H1065) ?_)
              clear hA; rintro _ w1078 ⟨rfl, hMc⟩ a hA
              have hE := hMc.below; have hM := hM.call (Ms := []) hMc
              clear hMc; simp only [List.cons_append, List.nil_append] at hM
              refine ⟨fun h => absurd h (by decide), ?_⟩
              refine d_takef (i := 7) (L' := #[tT,tT,tT,tT,tT,tT,tT,tT,fF,fF,tT,fF,fF]) rfl (by kernel_rfl) rfl (fun _ _ _ h => h) hA (by decide) (fun h => absurd h (by decide)) (fun a w' hA => run_move (hA.ev rfl)) ?_; clear hA; intro a hA
              refine d_takef (i := 8) (L' := #[tT,tT,tT,tT,tT,tT,tT,tT,tT,fF,tT,fF,fF]) rfl (by kernel_rfl) rfl (fun _ _ _ h => h) hA (by decide) (fun h => absurd h (by decide)) (fun a w' hA => run_ext (hA.ev rfl) rfl) ?_; clear hA; intro a hA
              refine d_takef (i := 9) (L' := #[tT,tT,tT,tT,tT,tT,tT,tT,tT,tT,tT,fF,fF]) rfl (by kernel_rfl) rfl (fun _ _ _ h => h) hA (by decide) (fun h => absurd h (by decide)) (fun a w' hA => run_ext (hA.ev rfl) rfl) ?_; clear hA; intro a hA
              refine d_one (i := 11) (L' := #[tT,tT,tT,tT,tT,tT,tT,tT,tT,tT,tT,tT,fF]) (by kernel_rfl) rfl rfl (e_store (g := g1076) (off := 0) (cur := (pLink.enc Link.z)) (cs' := (pLink.enc r1064.1)) hM .z Try.sizeOf53 hA rfl (by simp [add_mk]) rfl (agg_size _ _) (agg_one _ _) (Nat.le_of_ble_eq_true (enc_fitL _ _ rfl)) (spl_all (by first | rfl | (simp [Value.cells, Pl.len]; done) | (simp [Value.cells, Pl.len]; rfl))) ?_)
              clear hM hA; intro w1079  hM hE  a hA
              refine ⟨fun h => absurd h (by decide), ?_⟩
              refine d_takef (i := 12) (L' := #[tT,tT,tT,tT,tT,tT,tT,tT,tT,tT,tT,tT,tT]) rfl (by kernel_rfl) rfl (fun _ _ _ h => h) hA (by decide) (fun h => absurd h (by decide)) (fun a w' hA => run_assign (hA.ev rfl)) ?_; clear hA; intro a hA
              refine d_done (by kernel_rfl) ?_
              exact ⟨r1061.2.At_, r1064.1, r1064.2, g1076, Option.some.inj H1058, (hM.sel [2, 3, 1, 0] rfl (by decide)), (((((((hA.nil.cons (hA.get 12 _ rfl)).cons (hA.get 11 _ rfl)).cons (hA.get 10 _ rfl)).cons (hA.get 9 _ rfl)).cons (hA.get 8 _ rfl)).cons (hA.get 3 _ rfl)).cons (hA.get 1 _ rfl))⟩
          · refine d_op (i := 10) (L' := #[tT,tT,tT,tT,fF,fF,fF,fF,fF,fF,tT,fF,fF]) rfl rfl (e_alloc (cs := (pLink.enc Link.z)) hM zero53 rfl hA (by decide) ?_)
            clear hM hA; intro w1081 g1080 hM hE  a hA
            replace hS := hS.trans (hE.mono hS.size)
            refine ⟨fun _ => hS, ?_⟩
            have hM := hM.sel [3, 0, 1, 2] rfl (by decide)
            refine d_one (i := 4) (L' := #[tT,tT,tT,tT,tT,fF,fF,fF,fF,fF,tT,fF,fF]) (by kernel_rfl) rfl rfl (st_call Try.call35 hA [(.pointer (some (⟨g568, 0, none⟩))), (.int .i64 1048576)] rfl (by decide) (mill_Deck_Next.calls _ (lightclientmill_Deck.mk draws_2 x985) _ _ _ _ _ _ ((RoV.mk (hM.roC (Ms := [_]) hr2) (Eq.refl draws_2.length) hc2)) (hM.front (Ms := [_])) H1062) ?_)
            clear hA; rintro _ w1082 ⟨rfl, hMc⟩ a hA
            have hM := hM.call (Ms := [_]) hMc
            clear hMc; simp only [List.cons_append, List.nil_append] at hM
            refine ⟨fun h => absurd h (by decide), ?_⟩
            refine d_takef (i := 5) (L' := #[tT,tT,tT,tT,tT,tT,fF,fF,fF,fF,tT,fF,fF]) rfl (by kernel_rfl) rfl (fun _ _ _ h => h) hA (by decide) (fun h => absurd h (by decide)) (fun a w' hA => run_conv Try.underlying3 Try.underlying22 (hA.ev rfl)) ?_; clear hA; intro a hA
            refine d_one (i := 6) (L' := #[tT,tT,tT,tT,tT,tT,tT,fF,fF,fF,tT,fF,fF]) (by kernel_rfl) rfl rfl (st_call Try.call27 hA [(.agg (List.flatten [pHash.enc b_0.Salt, [(.slice A0_1 b_0.Heard.length c0_1)], [(.slice A0_2 b_0.Tried.length c0_2)]]).toArray), (.slice A1 anchors_1.length c1), (.slice A981 xs983.length c982), (.int .u64 (IntKind.u64.wrap r1061.1))] rfl (by decide) (connect_Choose.calls _ (Book.mk b_0.Salt b_0.Heard b_0.Tried) _ _ _ _ _ _ _ _ _ _ ((RoV.mk (hM.roC (Ms := []) hr0_1) (Eq.refl b_0.Heard.length) hc0_1)) ((RoV.mk (hM.roC (Ms := []) hr0_2) (Eq.refl b_0.Tried.length) hc0_2)) ((RoV.mk (hM.roC (Ms := []) hr1) (Eq.refl anchors_1.length) hc1)) ((hM.roV (p := pLink) (Ms := []) (.s (.s (.s .z))))) (hM.front (Ms := [])) H1065) ?_)
            clear hA; rintro _ w1083 ⟨rfl, hMc⟩ a hA
            have hE := hMc.below; have hM := hM.call (Ms := []) hMc
            clear hMc; simp only [List.cons_append, List.nil_append] at hM
            refine ⟨fun h => absurd h (by decide), ?_⟩
            refine d_takef (i := 7) (L' := #[tT,tT,tT,tT,tT,tT,tT,tT,fF,fF,tT,fF,fF]) rfl (by kernel_rfl) rfl (fun _ _ _ h => h) hA (by decide) (fun h => absurd h (by decide)) (fun a w' hA => run_move (hA.ev rfl)) ?_; clear hA; intro a hA
            refine d_takef (i := 8) (L' := #[tT,tT,tT,tT,tT,tT,tT,tT,tT,fF,tT,fF,fF]) rfl (by kernel_rfl) rfl (fun _ _ _ h => h) hA (by decide) (fun h => absurd h (by decide)) (fun a w' hA => run_ext (hA.ev rfl) rfl) ?_; clear hA; intro a hA
            refine d_takef (i := 9) (L' := #[tT,tT,tT,tT,tT,tT,tT,tT,tT,tT,tT,fF,fF]) rfl (by kernel_rfl) rfl (fun _ _ _ h => h) hA (by decide) (fun h => absurd h (by decide)) (fun a w' hA => run_ext (hA.ev rfl) rfl) ?_; clear hA; intro a hA
            refine d_one (i := 11) (L' := #[tT,tT,tT,tT,tT,tT,tT,tT,tT,tT,tT,tT,fF]) (by kernel_rfl) rfl rfl (e_store (g := g1080) (off := 0) (cur := (pLink.enc Link.z)) (cs' := (pLink.enc r1064.1)) hM (.s .z) Try.sizeOf53 hA rfl (by simp [add_mk]) rfl (agg_size _ _) (agg_one _ _) (Nat.le_of_ble_eq_true (enc_fitL _ _ rfl)) (spl_all (by first | rfl | (simp [Value.cells, Pl.len]; done) | (simp [Value.cells, Pl.len]; rfl))) ?_)
            clear hM hA; intro w1084  hM hE  a hA
            refine ⟨fun h => absurd h (by decide), ?_⟩
            refine d_takef (i := 12) (L' := #[tT,tT,tT,tT,tT,tT,tT,tT,tT,tT,tT,tT,tT]) rfl (by kernel_rfl) rfl (fun _ _ _ h => h) hA (by decide) (fun h => absurd h (by decide)) (fun a w' hA => run_assign (hA.ev rfl)) ?_; clear hA; intro a hA
            refine d_done (by kernel_rfl) ?_
            exact ⟨r1061.2.At_, r1064.1, r1064.2, g1080, Option.some.inj H1058, (hM.sel [2, 3, 0, 1] rfl (by decide)), (((((((hA.nil.cons (hA.get 12 _ rfl)).cons (hA.get 11 _ rfl)).cons (hA.get 10 _ rfl)).cons (hA.get 9 _ rfl)).cons (hA.get 8 _ rfl)).cons (hA.get 3 _ rfl)).cons (hA.get 1 _ rfl))⟩
        · have hM := hM.sel [2, 0, 1] rfl (by decide)
          refine d_op (i := 4) (L' := #[fF,tT,tT,tT,tT,fF,fF,fF,fF,fF,fF,fF,fF]) rfl rfl (st_call Try.call35 hA [(.pointer (some (⟨g568, 0, none⟩))), (.int .i64 1048576)] rfl (by decide) (mill_Deck_Next.calls _ (lightclientmill_Deck.mk draws_2 x985) _ _ _ _ _ _ ((RoV.mk (hM.roC (Ms := [_]) hr2) (Eq.refl draws_2.length) hc2)) (hM.front (Ms := [_])) H1062) ?_)
          clear hA; rintro _ w1085 ⟨rfl, hMc⟩ a hA
          have hM := hM.call (Ms := [_]) hMc
          clear hMc; simp only [List.cons_append, List.nil_append] at hM
          refine ⟨fun h => absurd h (by decide), ?_⟩
          refine d_takef (i := 5) (L' := #[fF,tT,tT,tT,tT,tT,fF,fF,fF,fF,fF,fF,fF]) rfl (by kernel_rfl) rfl (fun _ _ _ h => h) hA (by decide) (fun h => absurd h (by decide)) (fun a w' hA => run_conv Try.underlying3 Try.underlying22 (hA.ev rfl)) ?_; clear hA; intro a hA
          refine d_many (is := [0, 10]) (by kernel_rfl) (by decide) ⟨?_, ?_, trivial⟩
          · refine d_op (i := 0) (L' := #[tT,tT,tT,tT,tT,tT,fF,fF,fF,fF,fF,fF,fF]) rfl rfl (stv hA (by decide) (run_ld (hA.ev rfl) (run_loadW Try.isAgg41 Try.sizeOf41 (by simp [Pl.len]; try rfl) (hM.box (.s .z)))) ?_)
            clear hA; intro a hA
            refine ⟨fun h => absurd h (by decide), ?_⟩
            refine d_many (is := [6, 10]) (by kernel_rfl) (by decide) ⟨?_, ?_, trivial⟩
            · refine d_op (i := 6) (L' := #[tT,tT,tT,tT,tT,tT,tT,fF,fF,fF,fF,fF,fF]) rfl rfl (st_call Try.call27 hA [(.agg (List.flatten [pHash.enc b_0.Salt, [(.slice A0_1 b_0.Heard.length c0_1)], [(.slice A0_2 b_0.Tried.length c0_2)]]).toArray), (.slice A1 anchors_1.length c1), (.slice A981 xs983.length c982), (.int .u64 (IntKind.u64.wrap r1061.1))] rfl (by decide) (connect_Choose.calls _ (Book.mk b_0.Salt b_0.Heard b_0.Tried) _ _ _ _ _ _ _ _ _ _ ((RoV.mk (hM.roC (Ms := []) hr0_1) (Eq.refl b_0.Heard.length) hc0_1)) ((RoV.mk (hM.roC (Ms := []) hr0_2) (Eq.refl b_0.Tried.length) hc0_2)) ((RoV.mk (hM.roC (Ms := []) hr1) (Eq.refl anchors_1.length) hc1)) ((hM.roV (p := pLink) (Ms := []) (.s (.s .z)))) (hM.front (Ms := [])) H1065) ?_)
              clear hA; rintro _ w1086 ⟨rfl, hMc⟩ a hA
              have hE := hMc.below; have hM := hM.call (Ms := []) hMc
              clear hMc; simp only [List.cons_append, List.nil_append] at hM
              refine ⟨fun h => absurd h (by decide), ?_⟩
              refine d_takef (i := 7) (L' := #[tT,tT,tT,tT,tT,tT,tT,tT,fF,fF,fF,fF,fF]) rfl (by kernel_rfl) rfl (fun _ _ _ h => h) hA (by decide) (fun h => absurd h (by decide)) (fun a w' hA => run_move (hA.ev rfl)) ?_; clear hA; intro a hA
              refine d_takef (i := 8) (L' := #[tT,tT,tT,tT,tT,tT,tT,tT,tT,fF,fF,fF,fF]) rfl (by kernel_rfl) rfl (fun _ _ _ h => h) hA (by decide) (fun h => absurd h (by decide)) (fun a w' hA => run_ext (hA.ev rfl) rfl) ?_; clear hA; intro a hA
              refine d_takef (i := 9) (L' := #[tT,tT,tT,tT,tT,tT,tT,tT,tT,tT,fF,fF,fF]) rfl (by kernel_rfl) rfl (fun _ _ _ h => h) hA (by decide) (fun h => absurd h (by decide)) (fun a w' hA => run_ext (hA.ev rfl) rfl) ?_; clear hA; intro a hA
              refine d_one (i := 10) (L' := #[tT,tT,tT,tT,tT,tT,tT,tT,tT,tT,tT,fF,fF]) (by kernel_rfl) rfl rfl (e_alloc (cs := (pLink.enc Link.z)) hM zero53 rfl hA (by decide) ?_)
              clear hM hA; intro w1088 g1087 hM hE  a hA
              refine ⟨fun h => absurd h (by decide), ?_⟩
              refine d_one (i := 11) (L' := #[tT,tT,tT,tT,tT,tT,tT,tT,tT,tT,tT,tT,fF]) (by kernel_rfl) rfl rfl (e_store (g := g1087) (off := 0) (cur := (pLink.enc Link.z)) (cs' := (pLink.enc r1064.1)) hM .z Try.sizeOf53 hA rfl (by simp [add_mk]) rfl (agg_size _ _) (agg_one _ _) (Nat.le_of_ble_eq_true (enc_fitL _ _ rfl)) (spl_all (by first | rfl | (simp [Value.cells, Pl.len]; done) | (simp [Value.cells, Pl.len]; rfl))) ?_)
              clear hM hA; intro w1089  hM hE  a hA
              refine ⟨fun h => absurd h (by decide), ?_⟩
              refine d_takef (i := 12) (L' := #[tT,tT,tT,tT,tT,tT,tT,tT,tT,tT,tT,tT,tT]) rfl (by kernel_rfl) rfl (fun _ _ _ h => h) hA (by decide) (fun h => absurd h (by decide)) (fun a w' hA => run_assign (hA.ev rfl)) ?_; clear hA; intro a hA
              refine d_done (by kernel_rfl) ?_
              exact ⟨r1061.2.At_, r1064.1, r1064.2, g1087, Option.some.inj H1058, (hM.sel [2, 3, 1, 0] rfl (by decide)), (((((((hA.nil.cons (hA.get 12 _ rfl)).cons (hA.get 11 _ rfl)).cons (hA.get 10 _ rfl)).cons (hA.get 9 _ rfl)).cons (hA.get 8 _ rfl)).cons (hA.get 3 _ rfl)).cons (hA.get 1 _ rfl))⟩
            · refine d_op (i := 10) (L' := #[tT,tT,tT,tT,tT,tT,fF,fF,fF,fF,tT,fF,fF]) rfl rfl (e_alloc (cs := (pLink.enc Link.z)) hM zero53 rfl hA (by decide) ?_)
              clear hM hA; intro w1091 g1090 hM hE  a hA
              refine ⟨fun h => absurd h (by decide), ?_⟩
              refine d_one (i := 6) (L' := #[tT,tT,tT,tT,tT,tT,tT,fF,fF,fF,tT,fF,fF]) (by kernel_rfl) rfl rfl (st_call Try.call27 hA [(.agg (List.flatten [pHash.enc b_0.Salt, [(.slice A0_1 b_0.Heard.length c0_1)], [(.slice A0_2 b_0.Tried.length c0_2)]]).toArray), (.slice A1 anchors_1.length c1), (.slice A981 xs983.length c982), (.int .u64 (IntKind.u64.wrap r1061.1))] rfl (by decide) (connect_Choose.calls _ (Book.mk b_0.Salt b_0.Heard b_0.Tried) _ _ _ _ _ _ _ _ _ _ ((RoV.mk (hM.roC (Ms := []) hr0_1) (Eq.refl b_0.Heard.length) hc0_1)) ((RoV.mk (hM.roC (Ms := []) hr0_2) (Eq.refl b_0.Tried.length) hc0_2)) ((RoV.mk (hM.roC (Ms := []) hr1) (Eq.refl anchors_1.length) hc1)) ((hM.roV (p := pLink) (Ms := []) (.s (.s (.s .z))))) (hM.front (Ms := [])) H1065) ?_)
              clear hA; rintro _ w1092 ⟨rfl, hMc⟩ a hA
              have hE := hMc.below; have hM := hM.call (Ms := []) hMc
              clear hMc; simp only [List.cons_append, List.nil_append] at hM
              refine ⟨fun h => absurd h (by decide), ?_⟩
              refine d_takef (i := 7) (L' := #[tT,tT,tT,tT,tT,tT,tT,tT,fF,fF,tT,fF,fF]) rfl (by kernel_rfl) rfl (fun _ _ _ h => h) hA (by decide) (fun h => absurd h (by decide)) (fun a w' hA => run_move (hA.ev rfl)) ?_; clear hA; intro a hA
              refine d_takef (i := 8) (L' := #[tT,tT,tT,tT,tT,tT,tT,tT,tT,fF,tT,fF,fF]) rfl (by kernel_rfl) rfl (fun _ _ _ h => h) hA (by decide) (fun h => absurd h (by decide)) (fun a w' hA => run_ext (hA.ev rfl) rfl) ?_; clear hA; intro a hA
              refine d_takef (i := 9) (L' := #[tT,tT,tT,tT,tT,tT,tT,tT,tT,tT,tT,fF,fF]) rfl (by kernel_rfl) rfl (fun _ _ _ h => h) hA (by decide) (fun h => absurd h (by decide)) (fun a w' hA => run_ext (hA.ev rfl) rfl) ?_; clear hA; intro a hA
              refine d_one (i := 11) (L' := #[tT,tT,tT,tT,tT,tT,tT,tT,tT,tT,tT,tT,fF]) (by kernel_rfl) rfl rfl (e_store (g := g1090) (off := 0) (cur := (pLink.enc Link.z)) (cs' := (pLink.enc r1064.1)) hM .z Try.sizeOf53 hA rfl (by simp [add_mk]) rfl (agg_size _ _) (agg_one _ _) (Nat.le_of_ble_eq_true (enc_fitL _ _ rfl)) (spl_all (by first | rfl | (simp [Value.cells, Pl.len]; done) | (simp [Value.cells, Pl.len]; rfl))) ?_)
              clear hM hA; intro w1093  hM hE  a hA
              refine ⟨fun h => absurd h (by decide), ?_⟩
              refine d_takef (i := 12) (L' := #[tT,tT,tT,tT,tT,tT,tT,tT,tT,tT,tT,tT,tT]) rfl (by kernel_rfl) rfl (fun _ _ _ h => h) hA (by decide) (fun h => absurd h (by decide)) (fun a w' hA => run_assign (hA.ev rfl)) ?_; clear hA; intro a hA
              refine d_done (by kernel_rfl) ?_
              exact ⟨r1061.2.At_, r1064.1, r1064.2, g1090, Option.some.inj H1058, (hM.sel [2, 3, 1, 0] rfl (by decide)), (((((((hA.nil.cons (hA.get 12 _ rfl)).cons (hA.get 11 _ rfl)).cons (hA.get 10 _ rfl)).cons (hA.get 9 _ rfl)).cons (hA.get 8 _ rfl)).cons (hA.get 3 _ rfl)).cons (hA.get 1 _ rfl))⟩
          · refine d_op (i := 10) (L' := #[fF,tT,tT,tT,tT,tT,fF,fF,fF,fF,tT,fF,fF]) rfl rfl (e_alloc (cs := (pLink.enc Link.z)) hM zero53 rfl hA (by decide) ?_)
            clear hM hA; intro w1095 g1094 hM hE  a hA
            refine ⟨fun h => absurd h (by decide), ?_⟩
            refine d_one (i := 0) (L' := #[tT,tT,tT,tT,tT,tT,fF,fF,fF,fF,tT,fF,fF]) (by kernel_rfl) rfl rfl (stv hA (by decide) (run_ld (hA.ev rfl) (run_loadW Try.isAgg41 Try.sizeOf41 (by simp [Pl.len]; try rfl) (hM.box (.s (.s .z))))) ?_)
            clear hA; intro a hA
            refine ⟨fun h => absurd h (by decide), ?_⟩
            refine d_one (i := 6) (L' := #[tT,tT,tT,tT,tT,tT,tT,fF,fF,fF,tT,fF,fF]) (by kernel_rfl) rfl rfl (st_call Try.call27 hA [(.agg (List.flatten [pHash.enc b_0.Salt, [(.slice A0_1 b_0.Heard.length c0_1)], [(.slice A0_2 b_0.Tried.length c0_2)]]).toArray), (.slice A1 anchors_1.length c1), (.slice A981 xs983.length c982), (.int .u64 (IntKind.u64.wrap r1061.1))] rfl (by decide) (connect_Choose.calls _ (Book.mk b_0.Salt b_0.Heard b_0.Tried) _ _ _ _ _ _ _ _ _ _ ((RoV.mk (hM.roC (Ms := []) hr0_1) (Eq.refl b_0.Heard.length) hc0_1)) ((RoV.mk (hM.roC (Ms := []) hr0_2) (Eq.refl b_0.Tried.length) hc0_2)) ((RoV.mk (hM.roC (Ms := []) hr1) (Eq.refl anchors_1.length) hc1)) ((hM.roV (p := pLink) (Ms := []) (.s (.s (.s .z))))) (hM.front (Ms := [])) H1065) ?_)
            clear hA; rintro _ w1096 ⟨rfl, hMc⟩ a hA
            have hE := hMc.below; have hM := hM.call (Ms := []) hMc
            clear hMc; simp only [List.cons_append, List.nil_append] at hM
            refine ⟨fun h => absurd h (by decide), ?_⟩
            refine d_takef (i := 7) (L' := #[tT,tT,tT,tT,tT,tT,tT,tT,fF,fF,tT,fF,fF]) rfl (by kernel_rfl) rfl (fun _ _ _ h => h) hA (by decide) (fun h => absurd h (by decide)) (fun a w' hA => run_move (hA.ev rfl)) ?_; clear hA; intro a hA
            refine d_takef (i := 8) (L' := #[tT,tT,tT,tT,tT,tT,tT,tT,tT,fF,tT,fF,fF]) rfl (by kernel_rfl) rfl (fun _ _ _ h => h) hA (by decide) (fun h => absurd h (by decide)) (fun a w' hA => run_ext (hA.ev rfl) rfl) ?_; clear hA; intro a hA
            refine d_takef (i := 9) (L' := #[tT,tT,tT,tT,tT,tT,tT,tT,tT,tT,tT,fF,fF]) rfl (by kernel_rfl) rfl (fun _ _ _ h => h) hA (by decide) (fun h => absurd h (by decide)) (fun a w' hA => run_ext (hA.ev rfl) rfl) ?_; clear hA; intro a hA
            refine d_one (i := 11) (L' := #[tT,tT,tT,tT,tT,tT,tT,tT,tT,tT,tT,tT,fF]) (by kernel_rfl) rfl rfl (e_store (g := g1094) (off := 0) (cur := (pLink.enc Link.z)) (cs' := (pLink.enc r1064.1)) hM .z Try.sizeOf53 hA rfl (by simp [add_mk]) rfl (agg_size _ _) (agg_one _ _) (Nat.le_of_ble_eq_true (enc_fitL _ _ rfl)) (spl_all (by first | rfl | (simp [Value.cells, Pl.len]; done) | (simp [Value.cells, Pl.len]; rfl))) ?_)
            clear hM hA; intro w1097  hM hE  a hA
            refine ⟨fun h => absurd h (by decide), ?_⟩
            refine d_takef (i := 12) (L' := #[tT,tT,tT,tT,tT,tT,tT,tT,tT,tT,tT,tT,tT]) rfl (by kernel_rfl) rfl (fun _ _ _ h => h) hA (by decide) (fun h => absurd h (by decide)) (fun a w' hA => run_assign (hA.ev rfl)) ?_; clear hA; intro a hA
            refine d_done (by kernel_rfl) ?_
            exact ⟨r1061.2.At_, r1064.1, r1064.2, g1094, Option.some.inj H1058, (hM.sel [2, 3, 1, 0] rfl (by decide)), (((((((hA.nil.cons (hA.get 12 _ rfl)).cons (hA.get 11 _ rfl)).cons (hA.get 10 _ rfl)).cons (hA.get 9 _ rfl)).cons (hA.get 8 _ rfl)).cons (hA.get 3 _ rfl)).cons (hA.get 1 _ rfl))⟩
        · refine d_op (i := 10) (L' := #[fF,tT,tT,tT,fF,fF,fF,fF,fF,fF,tT,fF,fF]) rfl rfl (e_alloc (cs := (pLink.enc Link.z)) hM zero53 rfl hA (by decide) ?_)
          clear hM hA; intro w1099 g1098 hM hE  a hA
          replace hS := hS.trans (hE.mono hS.size)
          refine ⟨fun _ => hS, ?_⟩
          refine d_many (is := [0, 4]) (by kernel_rfl) (by decide) ⟨?_, ?_, trivial⟩
          · refine d_op (i := 0) (L' := #[tT,tT,tT,tT,fF,fF,fF,fF,fF,fF,tT,fF,fF]) rfl rfl (stv hA (by decide) (run_ld (hA.ev rfl) (run_loadW Try.isAgg41 Try.sizeOf41 (by simp [Pl.len]; try rfl) (hM.box (.s .z)))) ?_)
            clear hA; intro a hA
            refine ⟨fun _ => hS, ?_⟩
            have hM := hM.sel [3, 0, 1, 2] rfl (by decide)
            refine d_one (i := 4) (L' := #[tT,tT,tT,tT,tT,fF,fF,fF,fF,fF,tT,fF,fF]) (by kernel_rfl) rfl rfl (st_call Try.call35 hA [(.pointer (some (⟨g568, 0, none⟩))), (.int .i64 1048576)] rfl (by decide) (mill_Deck_Next.calls _ (lightclientmill_Deck.mk draws_2 x985) _ _ _ _ _ _ ((RoV.mk (hM.roC (Ms := [_]) hr2) (Eq.refl draws_2.length) hc2)) (hM.front (Ms := [_])) H1062) ?_)
            clear hA; rintro _ w1100 ⟨rfl, hMc⟩ a hA
            have hM := hM.call (Ms := [_]) hMc
            clear hMc; simp only [List.cons_append, List.nil_append] at hM
            refine ⟨fun h => absurd h (by decide), ?_⟩
            refine d_takef (i := 5) (L' := #[tT,tT,tT,tT,tT,tT,fF,fF,fF,fF,tT,fF,fF]) rfl (by kernel_rfl) rfl (fun _ _ _ h => h) hA (by decide) (fun h => absurd h (by decide)) (fun a w' hA => run_conv Try.underlying3 Try.underlying22 (hA.ev rfl)) ?_; clear hA; intro a hA
            refine d_one (i := 6) (L' := #[tT,tT,tT,tT,tT,tT,tT,fF,fF,fF,tT,fF,fF]) (by kernel_rfl) rfl rfl (st_call Try.call27 hA [(.agg (List.flatten [pHash.enc b_0.Salt, [(.slice A0_1 b_0.Heard.length c0_1)], [(.slice A0_2 b_0.Tried.length c0_2)]]).toArray), (.slice A1 anchors_1.length c1), (.slice A981 xs983.length c982), (.int .u64 (IntKind.u64.wrap r1061.1))] rfl (by decide) (connect_Choose.calls _ (Book.mk b_0.Salt b_0.Heard b_0.Tried) _ _ _ _ _ _ _ _ _ _ ((RoV.mk (hM.roC (Ms := []) hr0_1) (Eq.refl b_0.Heard.length) hc0_1)) ((RoV.mk (hM.roC (Ms := []) hr0_2) (Eq.refl b_0.Tried.length) hc0_2)) ((RoV.mk (hM.roC (Ms := []) hr1) (Eq.refl anchors_1.length) hc1)) ((hM.roV (p := pLink) (Ms := []) (.s (.s (.s .z))))) (hM.front (Ms := [])) H1065) ?_)
            clear hA; rintro _ w1101 ⟨rfl, hMc⟩ a hA
            have hE := hMc.below; have hM := hM.call (Ms := []) hMc
            clear hMc; simp only [List.cons_append, List.nil_append] at hM
            refine ⟨fun h => absurd h (by decide), ?_⟩
            refine d_takef (i := 7) (L' := #[tT,tT,tT,tT,tT,tT,tT,tT,fF,fF,tT,fF,fF]) rfl (by kernel_rfl) rfl (fun _ _ _ h => h) hA (by decide) (fun h => absurd h (by decide)) (fun a w' hA => run_move (hA.ev rfl)) ?_; clear hA; intro a hA
            refine d_takef (i := 8) (L' := #[tT,tT,tT,tT,tT,tT,tT,tT,tT,fF,tT,fF,fF]) rfl (by kernel_rfl) rfl (fun _ _ _ h => h) hA (by decide) (fun h => absurd h (by decide)) (fun a w' hA => run_ext (hA.ev rfl) rfl) ?_; clear hA; intro a hA
            refine d_takef (i := 9) (L' := #[tT,tT,tT,tT,tT,tT,tT,tT,tT,tT,tT,fF,fF]) rfl (by kernel_rfl) rfl (fun _ _ _ h => h) hA (by decide) (fun h => absurd h (by decide)) (fun a w' hA => run_ext (hA.ev rfl) rfl) ?_; clear hA; intro a hA
            refine d_one (i := 11) (L' := #[tT,tT,tT,tT,tT,tT,tT,tT,tT,tT,tT,tT,fF]) (by kernel_rfl) rfl rfl (e_store (g := g1098) (off := 0) (cur := (pLink.enc Link.z)) (cs' := (pLink.enc r1064.1)) hM (.s .z) Try.sizeOf53 hA rfl (by simp [add_mk]) rfl (agg_size _ _) (agg_one _ _) (Nat.le_of_ble_eq_true (enc_fitL _ _ rfl)) (spl_all (by first | rfl | (simp [Value.cells, Pl.len]; done) | (simp [Value.cells, Pl.len]; rfl))) ?_)
            clear hM hA; intro w1102  hM hE  a hA
            refine ⟨fun h => absurd h (by decide), ?_⟩
            refine d_takef (i := 12) (L' := #[tT,tT,tT,tT,tT,tT,tT,tT,tT,tT,tT,tT,tT]) rfl (by kernel_rfl) rfl (fun _ _ _ h => h) hA (by decide) (fun h => absurd h (by decide)) (fun a w' hA => run_assign (hA.ev rfl)) ?_; clear hA; intro a hA
            refine d_done (by kernel_rfl) ?_
            exact ⟨r1061.2.At_, r1064.1, r1064.2, g1098, Option.some.inj H1058, (hM.sel [2, 3, 0, 1] rfl (by decide)), (((((((hA.nil.cons (hA.get 12 _ rfl)).cons (hA.get 11 _ rfl)).cons (hA.get 10 _ rfl)).cons (hA.get 9 _ rfl)).cons (hA.get 8 _ rfl)).cons (hA.get 3 _ rfl)).cons (hA.get 1 _ rfl))⟩
          · have hM := hM.sel [3, 0, 1, 2] rfl (by decide)
            refine d_op (i := 4) (L' := #[fF,tT,tT,tT,tT,fF,fF,fF,fF,fF,tT,fF,fF]) rfl rfl (st_call Try.call35 hA [(.pointer (some (⟨g568, 0, none⟩))), (.int .i64 1048576)] rfl (by decide) (mill_Deck_Next.calls _ (lightclientmill_Deck.mk draws_2 x985) _ _ _ _ _ _ ((RoV.mk (hM.roC (Ms := [_]) hr2) (Eq.refl draws_2.length) hc2)) (hM.front (Ms := [_])) H1062) ?_)
            clear hA; rintro _ w1103 ⟨rfl, hMc⟩ a hA
            have hM := hM.call (Ms := [_]) hMc
            clear hMc; simp only [List.cons_append, List.nil_append] at hM
            refine ⟨fun h => absurd h (by decide), ?_⟩
            refine d_takef (i := 5) (L' := #[fF,tT,tT,tT,tT,tT,fF,fF,fF,fF,tT,fF,fF]) rfl (by kernel_rfl) rfl (fun _ _ _ h => h) hA (by decide) (fun h => absurd h (by decide)) (fun a w' hA => run_conv Try.underlying3 Try.underlying22 (hA.ev rfl)) ?_; clear hA; intro a hA
            refine d_one (i := 0) (L' := #[tT,tT,tT,tT,tT,tT,fF,fF,fF,fF,tT,fF,fF]) (by kernel_rfl) rfl rfl (stv hA (by decide) (run_ld (hA.ev rfl) (run_loadW Try.isAgg41 Try.sizeOf41 (by simp [Pl.len]; try rfl) (hM.box (.s (.s .z))))) ?_)
            clear hA; intro a hA
            refine ⟨fun h => absurd h (by decide), ?_⟩
            refine d_one (i := 6) (L' := #[tT,tT,tT,tT,tT,tT,tT,fF,fF,fF,tT,fF,fF]) (by kernel_rfl) rfl rfl (st_call Try.call27 hA [(.agg (List.flatten [pHash.enc b_0.Salt, [(.slice A0_1 b_0.Heard.length c0_1)], [(.slice A0_2 b_0.Tried.length c0_2)]]).toArray), (.slice A1 anchors_1.length c1), (.slice A981 xs983.length c982), (.int .u64 (IntKind.u64.wrap r1061.1))] rfl (by decide) (connect_Choose.calls _ (Book.mk b_0.Salt b_0.Heard b_0.Tried) _ _ _ _ _ _ _ _ _ _ ((RoV.mk (hM.roC (Ms := []) hr0_1) (Eq.refl b_0.Heard.length) hc0_1)) ((RoV.mk (hM.roC (Ms := []) hr0_2) (Eq.refl b_0.Tried.length) hc0_2)) ((RoV.mk (hM.roC (Ms := []) hr1) (Eq.refl anchors_1.length) hc1)) ((hM.roV (p := pLink) (Ms := []) (.s (.s (.s .z))))) (hM.front (Ms := [])) H1065) ?_)
            clear hA; rintro _ w1104 ⟨rfl, hMc⟩ a hA
            have hE := hMc.below; have hM := hM.call (Ms := []) hMc
            clear hMc; simp only [List.cons_append, List.nil_append] at hM
            refine ⟨fun h => absurd h (by decide), ?_⟩
            refine d_takef (i := 7) (L' := #[tT,tT,tT,tT,tT,tT,tT,tT,fF,fF,tT,fF,fF]) rfl (by kernel_rfl) rfl (fun _ _ _ h => h) hA (by decide) (fun h => absurd h (by decide)) (fun a w' hA => run_move (hA.ev rfl)) ?_; clear hA; intro a hA
            refine d_takef (i := 8) (L' := #[tT,tT,tT,tT,tT,tT,tT,tT,tT,fF,tT,fF,fF]) rfl (by kernel_rfl) rfl (fun _ _ _ h => h) hA (by decide) (fun h => absurd h (by decide)) (fun a w' hA => run_ext (hA.ev rfl) rfl) ?_; clear hA; intro a hA
            refine d_takef (i := 9) (L' := #[tT,tT,tT,tT,tT,tT,tT,tT,tT,tT,tT,fF,fF]) rfl (by kernel_rfl) rfl (fun _ _ _ h => h) hA (by decide) (fun h => absurd h (by decide)) (fun a w' hA => run_ext (hA.ev rfl) rfl) ?_; clear hA; intro a hA
            refine d_one (i := 11) (L' := #[tT,tT,tT,tT,tT,tT,tT,tT,tT,tT,tT,tT,fF]) (by kernel_rfl) rfl rfl (e_store (g := g1098) (off := 0) (cur := (pLink.enc Link.z)) (cs' := (pLink.enc r1064.1)) hM (.s .z) Try.sizeOf53 hA rfl (by simp [add_mk]) rfl (agg_size _ _) (agg_one _ _) (Nat.le_of_ble_eq_true (enc_fitL _ _ rfl)) (spl_all (by first | rfl | (simp [Value.cells, Pl.len]; done) | (simp [Value.cells, Pl.len]; rfl))) ?_)
            clear hM hA; intro w1105  hM hE  a hA
            refine ⟨fun h => absurd h (by decide), ?_⟩
            refine d_takef (i := 12) (L' := #[tT,tT,tT,tT,tT,tT,tT,tT,tT,tT,tT,tT,tT]) rfl (by kernel_rfl) rfl (fun _ _ _ h => h) hA (by decide) (fun h => absurd h (by decide)) (fun a w' hA => run_assign (hA.ev rfl)) ?_; clear hA; intro a hA
            refine d_done (by kernel_rfl) ?_
            exact ⟨r1061.2.At_, r1064.1, r1064.2, g1098, Option.some.inj H1058, (hM.sel [2, 3, 0, 1] rfl (by decide)), (((((((hA.nil.cons (hA.get 12 _ rfl)).cons (hA.get 11 _ rfl)).cons (hA.get 10 _ rfl)).cons (hA.get 9 _ rfl)).cons (hA.get 8 _ rfl)).cons (hA.get 3 _ rfl)).cons (hA.get 1 _ rfl))⟩
      clear hM hA
      rintro a w1106 ⟨x1050, x1055, e1057, g1054, rfl, hM, hA⟩
      try dsimp only at H994
      refine TN ?_
      refine wp_seq ?_
      refine wp_seq ?_
      refine wp_region_lit ?_
      refine L1 (stv hA (by decide) (run_move (hA.ev rfl)) ?_)
      clear hA; intro a hA
      refine L1 (stv hA (by decide) (run_bin (hA.ev rfl) (hA.ev rfl) (bin_neq _ _ _ _)) ?_)
      clear hA; intro a hA
      refine LQ ?_
      refine TN ?_
      refine tcond (b := (e1057 != 0)) hA rfl (fun hb1107 => ?_) (fun hb1107 => ?_)
      · replace H994 := ite_t hb1107 H994
        refine wp_seq ?_
        obtain ⟨o1113, H1112, H994⟩ := Option.bind_eq_some_iff.1 H994
        refine cutC (fun a w => ∃ (t1111 : Bool), t1111 = o1113 ∧ Mem F w0 w [.row 53 pLink.sz (.slice A981 xs983.length c982) (pLink.flat xs983)] ∧ Has 51 [(6, (.slice A981 xs983.length c982)), (7, (.bool t1111))] a) ?_ ?_
        · refine wp_region_lit ?_
          refine L1 (stv hA (by decide) (run_move (hA.ev rfl)) ?_)
          clear hA; intro a hA
          refine L1 (stv hA (by decide) (run_move (hA.ev rfl)) ?_)
          clear hA; intro a hA
          refine L1 (stv hA (by decide) (run_bin (hA.ev rfl) (hA.ev rfl) (bin_eql _ _ _ _)) ?_)
          clear hA; intro a hA
          refine L1 (stv hA (by decide) (run_move (hA.ev rfl)) ?_)
          clear hA; intro a hA
          refine bsplit (b := (e1057 == 390)) (fun hb1114 => ?_) (fun hb1114 => ?_)
          · replace H1112 := ite_t hb1114 H1112
            have hA := hA.re (t := 36) rfl (congrArg Value.bool hb1114)
            refine L1 (gate_off rfl (by decide) rfl hA (by decide) rfl rfl ?_); clear hA; intro a hA
            refine L1 (gate_off rfl (by decide) rfl hA (by decide) rfl rfl ?_); clear hA; intro a hA
            refine L1 (stv hA (by decide) (run_pick (hA.ev rfl) (fun _ => hA.ev rfl) (fun h => Bool.noConfusion h)) ?_)
            clear hA; intro a hA
            refine L1 (stv hA (by decide) (run_assign (hA.ev rfl)) ?_)
            clear hA; intro a hA
            refine L1 (stv hA (by decide) (run_assign (hA.ev rfl)) ?_)
            clear hA; intro a hA
            refine LQ ?_
            exact ⟨true, Option.some.inj H1112, (hM.sel [1] rfl (by decide)), ((hA.nil.cons (hA.get 7 _ rfl)).cons (hA.get 6 _ rfl))⟩
          · replace H1112 := ite_f hb1114 H1112
            have hA := hA.re (t := 36) rfl (congrArg Value.bool hb1114)
            refine L1 (gate_on rfl rfl hA (by decide) rfl (stv hA (by decide) (run_move (hA.ev rfl)) ?_))
            clear hA; intro a hA
            refine L1 (gate_on rfl rfl hA (by decide) rfl (stv hA (by decide) (run_bin (hA.ev rfl) (hA.ev rfl) (bin_eql _ _ _ _)) ?_))
            clear hA; intro a hA
            refine L1 (stv hA (by decide) (run_pick (hA.ev rfl) (fun h => Bool.noConfusion h) (fun _ => hA.ev rfl)) ?_)
            clear hA; intro a hA
            refine L1 (stv hA (by decide) (run_assign (hA.ev rfl)) ?_)
            clear hA; intro a hA
            refine L1 (stv hA (by decide) (run_assign (hA.ev rfl)) ?_)
            clear hA; intro a hA
            refine LQ ?_
            exact ⟨(e1057 == 380), Option.some.inj H1112, (hM.sel [1] rfl (by decide)), ((hA.nil.cons (hA.get 7 _ rfl)).cons (hA.get 6 _ rfl))⟩
        clear hM hA
        rintro a w1115 ⟨t1111, rfl, hM, hA⟩
        try dsimp only at H994
        refine TN ?_
        refine wp_ret ?_
        obtain rfl := Option.some.inj H994
        dsimp only at H
        obtain rfl := Option.some.inj H
        refine TR ?_
        refine BR ?_
        refine TR ?_
        refine TR ?_
        refine BR ?_
        refine TR ?_
        refine TR ?_
        exact ret_post2 (fn := Try.f23) hA rfl rfl rfl ⟨_, rfl, (.slice A981 xs983.length c982), rfl, hM⟩
      · replace H994 := ite_f hb1107 H994
        refine wp_skip ?_
        refine TN ?_
        refine wp_seq ?_
        refine wp_region_lit ?_
        refine L1 (stv hA (by decide) (run_move (hA.ev rfl)) ?_)
        clear hA; intro a hA
        refine L1 (stv hA (by decide) (run_ld (hA.ev rfl) (run_loadP Try.isAgg53 Try.sizeOf53 (hM.box (.s (.s (.s .z)))))) ?_)
        clear hA; intro a hA
        obtain ⟨r1116, H1117, H994⟩ := Option.bind_eq_some_iff.1 H994
        refine L1 (st_call Try.call45 hA [(.slice A981 xs983.length c982), (.agg (pLink.enc x1055).toArray)] rfl (by decide) (connect_Open.calls _ _ _ _ _ _ _ ((hM.roV (p := pLink) (Ms := []) (.s .z))) (hM.front (Ms := [])) H1117) ?_)
        clear hA; rintro _ w1118 ⟨v1119, rfl, hMc⟩ a hA
        have hE := hMc.below; have hM := hM.call (Ms := []) hMc
        clear hMc; simp only [List.cons_append, List.nil_append] at hM
        obtain ⟨A1121, c1122, rfl⟩ := RowOk.form (hM.row (p := pLink) .z)
        refine L1 (stv hA (by decide) (run_move (hA.ev rfl)) ?_)
        clear hA; intro a hA
        refine L1 (stv hA (by decide) (run_ext (hA.ev rfl) rfl) ?_)
        clear hA; intro a hA
        refine L1 (stv hA (by decide) (run_ext (hA.ev rfl) rfl) ?_)
        clear hA; intro a hA
        refine L1 (stv hA (by decide) (run_assign (hA.ev rfl)) ?_)
        clear hA; intro a hA
        refine L1 (stv hA (by decide) (run_assign (hA.ev rfl)) ?_)
        clear hA; intro a hA
        refine LQ ?_
        refine TN ?_
        refine wp_seq ?_
        refine wp_seq ?_
        refine wp_region_lit ?_
        refine L1 (stv hA (by decide) (run_move (hA.ev rfl)) ?_)
        clear hA; intro a hA
        refine L1 (stv hA (by decide) (run_bin (hA.ev rfl) (hA.ev rfl) (bin_neq _ _ _ _)) ?_)
        clear hA; intro a hA
        refine LQ ?_
        refine TN ?_
        refine tcond (b := (r1116.2 != 0)) hA rfl (fun hb1123 => ?_) (fun hb1123 => ?_)
        · replace H994 := ite_t hb1123 H994
          refine wp_seq ?_
          refine wp_region_lit ?_
          refine L1 (stv hA (by decide) (run_move (hA.ev rfl)) ?_)
          clear hA; intro a hA
          refine L1 (stv hA (by decide) (run_assign (hA.ev rfl)) ?_)
          clear hA; intro a hA
          refine L1 (stv hA (by decide) (run_assign (hA.ev rfl)) ?_)
          clear hA; intro a hA
          refine LQ ?_
          refine TN ?_
          refine wp_ret ?_
          obtain rfl := Option.some.inj H994
          dsimp only at H
          obtain rfl := Option.some.inj H
          refine TR ?_
          refine BR ?_
          refine TR ?_
          refine TR ?_
          refine BR ?_
          refine TR ?_
          refine TR ?_
          exact ret_post2 (fn := Try.f23) hA rfl rfl rfl ⟨_, rfl, (.slice A981 xs983.length c982), rfl, (hM.sel [2] rfl (by decide))⟩
        · replace H994 := ite_f hb1123 H994
          refine wp_skip ?_
          refine TN ?_
          refine wp_region_lit ?_
          refine L1 (stv hA (by decide) (run_move (hA.ev rfl)) ?_)
          clear hA; intro a hA
          refine L1 (stv hA (by decide) (run_assign (hA.ev rfl)) ?_)
          clear hA; intro a hA
          refine LQ ?_
          refine BN ?_
          refine TN ?_
          refine wp_region_lit ?_
          refine L1 (stv hA (by decide) (run_move (hA.ev rfl)) ?_)
          clear hA; intro a hA
          refine L1 (stv hA (by decide) (run_bin (hA.ev rfl) (hA.ev rfl) (bin_add _ _ _ _)) ?_)
          clear hA; intro a hA
          refine L1 (stv hA (by decide) (run_assign (hA.ev rfl)) ?_)
          clear hA; intro a hA
          refine LQ ?_
          exact ⟨_, Nat.lt_succ_self m997, r1116.1, x1050, IntKind.i64.wrap (t987 + 1), (.slice A1121 r1116.1.length c1122), H994, (hM.sel [1, 0, 3] rfl (by decide)), (((((hA.nil.cons (hA.get 10 _ rfl)).cons (hA.get 9 _ rfl)).cons (hA.get 8 _ rfl)).cons (hA.get 3 _ rfl)).cons (hA.get 1 _ rfl))⟩
    · replace H994 := ite_f hb999 H994
      refine wp_exit ?_
      refine TX ?_
      refine TX ?_
      refine BX ?_
      exact ⟨xs983, (.slice A981 xs983.length c982), Option.some.inj H994, (hM.sel [1] rfl (by decide)), (hA.nil.cons (hA.get 8 _ rfl))⟩
  clear hM hA
  rintro a w1124 ⟨xs993, v990, rfl, hM, hA⟩
  try dsimp only at H
  obtain ⟨A991, c992, rfl⟩ := RowOk.form (hM.row (p := pLink) .z)
  refine TN ?_
  refine wp_seq ?_
  refine wp_region_lit ?_
  refine L1 (stv hA (by decide) (run_move (hA.ev rfl)) ?_)
  clear hA; intro a hA
  refine L1 (stv hA (by decide) (run_assign (hA.ev rfl)) ?_)
  clear hA; intro a hA
  refine L1 (stv hA (by decide) (run_assign (hA.ev rfl)) ?_)
  clear hA; intro a hA
  refine LQ ?_
  refine TN ?_
  refine wp_ret ?_
  obtain rfl := Option.some.inj H
  exact ret_post2 (fn := Try.f23) hA rfl rfl rfl ⟨_, rfl, (.slice A991 xs993.length c992), rfl, hM⟩

def law39_ConnectEclipse.l0 (r205 : ((List Link) × Bool)) (r212 : Int) : Nat → Int → Int → Option (Int)
  | 0, _, _ => none
  | k + 1, n315, t319 => (if (decide (t319 < ((r205.1.length : Nat) : Int))) = true then (if 0 ≤ t319 ∧ t319 < ((r205.1.length : Nat) : Int) then ((addrbook_Group.f k ((r205.1.getD t319.toNat Link.z).Addr_)).bind fun r338 => (Option.bind (α := Int) (if (decide (r338 < (IntKind.u32.wrap r212))) = true then (some (IntKind.i64.wrap (n315 + 1))) else (some n315)) (fun n345 => (law39_ConnectEclipse.l0 r205 r212 k n345 (IntKind.i64.wrap (t319 + 1)))))) else none) else (some n315))
def law39_ConnectEclipse.f (k : Nat) (l_0 : (List Int)) (draws_1 : (List Int)) (k_2 : Int) : Option Bool := ((law39_sane.f k ).bind fun r181 => (if (!r181) = true then (some false) else ((mill_New.f k l_0).bind fun r185 => ((mill_Book.f k (lightclientmill_Deck.mk l_0 r185.At_)).bind fun r190 => ((law39_grow.f k (Book.mk r190.1.Salt r190.1.Heard r190.1.Tried) ([] : List NAddr) draws_1).bind fun r205 => ((mill_Mod.f k k_2 7).bind fun r212 => (Option.bind (α := Int) (law39_ConnectEclipse.l0 r205 r212 k 0 0) (fun n323 => (Option.bind (α := Bool) (if r205.2 = true then (some (decide (n323 ≤ r212))) else (some false)) (fun t356 => (some t356)))))))))))
set_option maxHeartbeats 2000000 in
set_option maxRecDepth 100000 in
theorem law39_ConnectEclipse.calls (k : Nat) (l_0 : (List Int)) (draws_1 : (List Int)) (k_2 : Int) (F : List (Option Nat)) (v0 : Value) (v1 : Value) (r : Bool) (w0 : World) (h0 : RoV F (Pl.int .i64) w0 v0 l_0) (h1 : RoV F (Pl.int .i64) w0 v1 draws_1) (hM : Mem F w0 w0 []) (H : law39_ConnectEclipse.f k l_0 draws_1 k_2 = some r) :
    Calls Try.prog 9 #[v0, v1, (.int .i64 k_2)] w0 fun e w' => ∃ v, e = .returned v ∧ v = (.bool r) ∧ Mem F w0 w' [] := by
  unfold law39_ConnectEclipse.f at H
  obtain ⟨A0, c0, rfl, hr0, hc0⟩ := h0
  obtain ⟨A1, c1, rfl, hr1, hc1⟩ := h1
  refine enterL (n := 47) [(.slice A0 l_0.length c0), (.slice A1 draws_1.length c1), (.int .i64 k_2)] Try.func9 rfl rfl rfl ?_
  intro a hA
  refine wp_seq ?_
  refine wp_region_lit ?_
  refine L1 (stv hA (by decide) (run_assign (hA.ev rfl)) ?_)
  clear hA; intro a hA
  refine LQ ?_
  refine TN ?_
  refine wp_seq ?_
  refine wp_seq ?_
  refine wp_region_lit ?_
  obtain ⟨r181, H182, H⟩ := Option.bind_eq_some_iff.1 H
  refine L1 (st_call Try.call19 hA [] rfl (by decide) (law39_sane.calls _ _ _ _ (hM.front (Ms := [])) H182) ?_)
  clear hA; rintro _ w183 ⟨rfl, hMc⟩ a hA
  have hE := hMc.below; have hM := hM.call (Ms := []) hMc
  clear hMc; simp only [List.cons_append, List.nil_append] at hM
  refine L1 (stv hA (by decide) (run_not (hA.ev rfl)) ?_)
  clear hA; intro a hA
  refine LQ ?_
  refine TN ?_
  refine tcond (b := (!r181)) hA rfl (fun hb184 => ?_) (fun hb184 => ?_)
  · replace H := ite_t hb184 H
    refine wp_seq ?_
    refine wp_region_lit ?_
    refine L1 (stv hA (by decide) (run_assign (hA.ev rfl)) ?_)
    clear hA; intro a hA
    refine LQ ?_
    refine TN ?_
    refine wp_ret ?_
    obtain rfl := Option.some.inj H
    refine TR ?_
    exact ret_post1 (fn := Try.f9) hA rfl rfl ⟨_, rfl, rfl, hM⟩
  · replace H := ite_f hb184 H
    refine wp_skip ?_
    refine TN ?_
    refine wp_seq ?_
    refine wp_region_lit ?_
    refine L1 (stv hA (by decide) (run_move (hA.ev rfl)) ?_)
    clear hA; intro a hA
    obtain ⟨r185, H186, H⟩ := Option.bind_eq_some_iff.1 H
    refine L1 (st_call Try.call20 hA [(.slice A0 l_0.length c0)] rfl (by decide) (mill_New.calls _ _ _ _ _ _ ((RoV.mk (hM.roC (Ms := []) hr0) (Eq.refl l_0.length) hc0)) (hM.front (Ms := [])) H186) ?_)
    clear hA; rintro _ w187 ⟨g188, rfl, hMc⟩ a hA
    have hE := hMc.below; have hM := hM.call (Ms := []) hMc
    clear hMc; simp only [List.cons_append, List.nil_append] at hM
    obtain ⟨r190, H191, H⟩ := Option.bind_eq_some_iff.1 H
    refine L1 (st_call Try.call21 hA [(.pointer (some (⟨g188, 0, none⟩)))] rfl (by decide) (mill_Book.calls _ (lightclientmill_Deck.mk l_0 r185.At_) _ _ _ _ _ ((RoV.mk (hM.roC (Ms := [_]) hr0) (Eq.refl l_0.length) hc0)) (hM.front (Ms := [_])) H191) ?_)
    clear hA; rintro _ w192 ⟨v193, v194, rfl, hMc⟩ a hA
    have hM := hM.call (Ms := [_]) hMc
    clear hMc; simp only [List.cons_append, List.nil_append] at hM
    obtain ⟨A196, c197, rfl⟩ := RowOk.form (hM.row (p := pPlace) (.s .z))
    obtain ⟨A199, c200, rfl⟩ := RowOk.form (hM.row (p := pPlace) (.s (.s .z)))
    refine L1 (e_alloc (cs := (List.flatten [pHash.enc (Vector.replicate 32 0 : Vector Int 32), [(.slice none 0 0)], [(.slice none 0 0)]])) hM zero41 rfl hA (by decide) ?_)
    clear hM hA; intro w202 g201 hM hE  a hA
    refine L1 (e_store (g := g201) (off := 0) (cur := (List.flatten [pHash.enc (Vector.replicate 32 0 : Vector Int 32), [(.slice none 0 0)], [(.slice none 0 0)]])) (cs' := (List.flatten [pHash.enc r190.1.Salt, [(.slice A196 r190.1.Heard.length c197)], [(.slice A199 r190.1.Tried.length c200)]])) hM .z Try.sizeOf41 hA rfl (by simp [add_mk]) rfl (by first | rfl | (simp [Value.cells, Pl.len]; done) | (simp [Value.cells, Pl.len]; rfl)) (one_flat (one_cons (Pl.one _ _) (one_cons (by simp [Value.oneCell']) (one_cons (by simp [Value.oneCell']) one_nil)))) (by first | exact Nat.le_of_ble_eq_true rfl | (simp [Pl.len]; done) | (simp [Pl.len]; decide)) (spl_all (by first | rfl | (simp [Value.cells, Pl.len]; done) | (simp [Value.cells, Pl.len]; rfl))) ?_)
    clear hM hA; intro w204  hM hE  a hA
    refine LQ ?_
    refine TN ?_
    refine wp_seq ?_
    refine wp_region_lit ?_
    refine L1 (stv hA (by decide) (run_ld (hA.ev rfl) (run_loadW Try.isAgg41 Try.sizeOf41 (by simp [Pl.len]; try rfl) (hM.box .z))) ?_)
    clear hA; intro a hA
    refine L1 (stv hA (by decide) (run_move (hA.ev rfl)) ?_)
    clear hA; intro a hA
    obtain ⟨r205, H206, H⟩ := Option.bind_eq_some_iff.1 H
    refine L1 (st_call Try.call23 hA [(.agg (List.flatten [pHash.enc r190.1.Salt, [(.slice A196 r190.1.Heard.length c197)], [(.slice A199 r190.1.Tried.length c200)]]).toArray), (.slice none 0 0), (.slice A1 draws_1.length c1)] rfl (by decide) (law39_grow.calls _ (Book.mk r190.1.Salt r190.1.Heard r190.1.Tried) _ _ _ _ _ _ _ _ _ ((hM.roV (p := pPlace) (Ms := []) (.s (.s .z)))) ((hM.roV (p := pPlace) (Ms := []) (.s (.s (.s .z))))) ((RoV.nil _ _ _)) ((RoV.mk (hM.roC (Ms := []) hr1) (Eq.refl draws_1.length) hc1)) (hM.front (Ms := [])) H206) ?_)
    clear hA; rintro _ w207 ⟨v208, rfl, hMc⟩ a hA
    have hE := hMc.below; have hM := hM.call (Ms := []) hMc
    clear hMc; simp only [List.cons_append, List.nil_append] at hM
    obtain ⟨A210, c211, rfl⟩ := RowOk.form (hM.row (p := pLink) .z)
    refine L1 (stv hA (by decide) (run_move (hA.ev rfl)) ?_)
    clear hA; intro a hA
    refine L1 (stv hA (by decide) (run_ext (hA.ev rfl) rfl) ?_)
    clear hA; intro a hA
    refine L1 (stv hA (by decide) (run_ext (hA.ev rfl) rfl) ?_)
    clear hA; intro a hA
    refine L1 (stv hA (by decide) (run_assign (hA.ev rfl)) ?_)
    clear hA; intro a hA
    refine L1 (stv hA (by decide) (run_assign (hA.ev rfl)) ?_)
    clear hA; intro a hA
    refine LQ ?_
    refine TN ?_
    refine wp_seq ?_
    refine wp_region_lit ?_
    refine L1 (stv hA (by decide) (run_move (hA.ev rfl)) ?_)
    clear hA; intro a hA
    obtain ⟨r212, H213, H⟩ := Option.bind_eq_some_iff.1 H
    refine L1 (st_call Try.call28 hA [(.int .i64 k_2), (.int .i64 7)] rfl (by decide) (mill_Mod.calls _ _ _ _ _ _ (hM.front (Ms := [])) H213) ?_)
    clear hA; rintro _ w214 ⟨rfl, hMc⟩ a hA
    have hE := hMc.below; have hM := hM.call (Ms := []) hMc
    clear hMc; simp only [List.cons_append, List.nil_append] at hM
    refine L1 (stv hA (by decide) (run_assign (hA.ev rfl)) ?_)
    clear hA; intro a hA
    refine LQ ?_
    refine TN ?_
    refine wp_seq ?_
    refine wp_region_lit ?_
    refine L1 (stv hA (by decide) (run_assign (hA.ev rfl)) ?_)
    clear hA; intro a hA
    refine LQ ?_
    refine TN ?_
    refine wp_seq ?_
    refine wp_seq ?_
    refine wp_region_lit ?_
    refine L1 (stv hA (by decide) (run_move (hA.ev rfl)) ?_)
    clear hA; intro a hA
    refine L1 (stv hA (by decide) (run_len_slice Try.underlying49 (hA.ev rfl)) ?_)
    clear hA; intro a hA
    refine L1 (stv hA (by decide) (run_move (hA.ev rfl)) ?_)
    clear hA; intro a hA
    refine LQ ?_
    refine TN ?_
    obtain ⟨o325, H324, H⟩ := Option.bind_eq_some_iff.1 H
    refine cutC (fun a w => ∃ (n323 : Int), n323 = o325 ∧ Mem F w0 w [] ∧ Has 47 [(2, (.int .i64 r212)), (9, (.bool r205.2)), (10, (.int .i64 n323))] a) ?_ ?_
    · refine wp_block ?_
      refine wp_loop_ghost (fun m a w => ∃ (n315 : Int) (t319 : Int), law39_ConnectEclipse.l0 r205 r212 m n315 t319 = some o325 ∧ Mem F w0 w [.row 53 pLink.sz (.slice A210 r205.1.length c211) (pLink.flat r205.1)] ∧ Has 47 [(2, (.int .i64 r212)), (9, (.bool r205.2)), (10, (.int .i64 n315)), (26, (.slice A210 r205.1.length c211)), (27, (.int .i64 ((r205.1.length : Nat) : Int))), (28, (.int .i64 t319))] a) k ⟨0, 0, H324, (hM.sel [0] rfl (by decide)), ((((((hA.nil.cons (hA.get 28 _ rfl)).cons (hA.get 27 _ rfl)).cons (hA.get 26 _ rfl)).cons (hA.get 10 _ rfl)).cons (hA.get 9 _ rfl)).cons (hA.get 2 _ rfl))⟩ ?_
      clear hM hA; rintro m326 a w327 ⟨n315, t319, H324, hM, hA⟩
      cases m326 with
      | zero => exact absurd H324 (by simp [law39_ConnectEclipse.l0])
      | succ m326 =>
      rw [law39_ConnectEclipse.l0] at H324
      refine wp_seq ?_
      refine wp_region_lit ?_
      refine L1 (stv hA (by decide) (run_bin (hA.ev rfl) (hA.ev rfl) (bin_lss _ _ _ _)) ?_)
      clear hA; intro a hA
      refine LQ ?_
      refine TN ?_
      refine wp_seq ?_
      refine tcond (b := (decide (t319 < ((r205.1.length : Nat) : Int)))) hA rfl (fun hb328 => ?_) (fun hb328 => ?_)
      · replace H324 := ite_t hb328 H324
        refine wp_skip ?_
        refine TN ?_
        refine wp_seq ?_
        refine wp_block ?_
        refine wp_seq ?_
        refine wp_region_lit ?_
        obtain ⟨⟨hi329, hj330⟩, H324⟩ := ite_some H324
        obtain ⟨ad331, hq332, hat333⟩ := Row.elem' (p := pLink) (RowOk.row (hM.row (p := pLink) .z)) (RowOk.len (hM.row (p := pLink) .z)) Link.z t319 hi329 hj330
        refine L1 (stv hA (by decide) (run_idx Try.underlying49 Try.sizeOf53 (hA.ev rfl) hq332 (hA.ev rfl) hi329 hj330) ?_)
        clear hA; intro a hA
        refine L1 (stv hA (by decide) (run_ld (hA.ev rfl) (run_loadP Try.isAgg53 Try.sizeOf53 hat333)) ?_)
        clear hA; intro a hA
        refine L1 (e_alloc (cs := (pLink.enc Link.z)) hM zero53 rfl hA (by decide) ?_)
        clear hM hA; intro w335 g334 hM hE  a hA
        refine L1 (e_store (g := g334) (off := 0) (cur := (pLink.enc Link.z)) (cs' := (pLink.enc (r205.1.getD t319.toNat Link.z))) hM .z Try.sizeOf53 hA rfl (by simp [add_mk]) rfl (agg_size _ _) (agg_one _ _) (Nat.le_of_ble_eq_true (enc_fitL _ _ rfl)) (spl_all (by first | rfl | (simp [Value.cells, Pl.len]; done) | (simp [Value.cells, Pl.len]; rfl))) ?_)
        clear hM hA; intro w337  hM hE  a hA
        refine LQ ?_
        refine TN ?_
        refine wp_seq ?_
        refine wp_region_lit ?_
        refine L1 (stv hA (by decide) (run_field' Try.underlying53 rfl rfl Try.sizeOf46 (by decide) (hA.ev rfl)) ?_)
        clear hA; intro a hA
        refine L1 (stv hA (by decide) (run_ld (hA.ev rfl) (run_loadP Try.isAgg46 Try.sizeOf46 (Link.at_Addr_ (hM.box .z)))) ?_)
        clear hA; intro a hA
        obtain ⟨r338, H339, H324⟩ := Option.bind_eq_some_iff.1 H324
        refine L1 (st_call Try.call24 hA [(.agg (pNAddr.enc ((r205.1.getD t319.toNat Link.z).Addr_)).toArray)] rfl (by decide) (addrbook_Group.calls _ _ _ _ _ (hM.front (Ms := [])) H339) ?_)
        clear hA; rintro _ w340 ⟨rfl, hMc⟩ a hA
        have hE := hMc.below; have hM := hM.call (Ms := []) hMc
        clear hMc; simp only [List.cons_append, List.nil_append] at hM
        refine L1 (stv hA (by decide) (run_move (hA.ev rfl)) ?_)
        clear hA; intro a hA
        refine L1 (stv hA (by decide) (run_conv Try.underlying3 Try.underlying43 (hA.ev rfl)) ?_)
        clear hA; intro a hA
        refine L1 (stv hA (by decide) (run_bin (hA.ev rfl) (hA.ev rfl) (bin_lss _ _ _ _)) ?_)
        clear hA; intro a hA
        refine LQ ?_
        refine TN ?_
        obtain ⟨o350, H349, H324⟩ := Option.bind_eq_some_iff.1 H324
        refine cutC (fun a w => ∃ (n345 : Int), n345 = o350 ∧ Mem F w0 w [.row 53 pLink.sz (.slice A210 r205.1.length c211) (pLink.flat r205.1)] ∧ Has 47 [(2, (.int .i64 r212)), (9, (.bool r205.2)), (10, (.int .i64 n345)), (26, (.slice A210 r205.1.length c211)), (27, (.int .i64 ((r205.1.length : Nat) : Int))), (28, (.int .i64 t319))] a) ?_ ?_
        · refine tcond (b := (decide (r338 < (IntKind.u32.wrap r212)))) hA rfl (fun hb351 => ?_) (fun hb351 => ?_)
          · replace H349 := ite_t hb351 H349
            refine wp_region_lit ?_
            refine L1 (stv hA (by decide) (run_move (hA.ev rfl)) ?_)
            clear hA; intro a hA
            refine L1 (stv hA (by decide) (run_bin (hA.ev rfl) (hA.ev rfl) (bin_add _ _ _ _)) ?_)
            clear hA; intro a hA
            refine L1 (stv hA (by decide) (run_assign (hA.ev rfl)) ?_)
            clear hA; intro a hA
            refine LQ ?_
            exact ⟨IntKind.i64.wrap (n315 + 1), Option.some.inj H349, (hM.sel [1] rfl (by decide)), ((((((hA.nil.cons (hA.get 28 _ rfl)).cons (hA.get 27 _ rfl)).cons (hA.get 26 _ rfl)).cons (hA.get 10 _ rfl)).cons (hA.get 9 _ rfl)).cons (hA.get 2 _ rfl))⟩
          · replace H349 := ite_f hb351 H349
            refine wp_skip ?_
            exact ⟨n315, Option.some.inj H349, (hM.sel [1] rfl (by decide)), ((((((hA.nil.cons (hA.get 28 _ rfl)).cons (hA.get 27 _ rfl)).cons (hA.get 26 _ rfl)).cons (hA.get 10 _ rfl)).cons (hA.get 9 _ rfl)).cons (hA.get 2 _ rfl))⟩
        clear hM hA
        rintro a w352 ⟨n345, rfl, hM, hA⟩
        try dsimp only at H324
        refine BN ?_
        refine TN ?_
        refine wp_region_lit ?_
        refine L1 (stv hA (by decide) (run_bin (hA.ev rfl) (hA.ev rfl) (bin_add _ _ _ _)) ?_)
        clear hA; intro a hA
        refine L1 (stv hA (by decide) (run_move (hA.ev rfl)) ?_)
        clear hA; intro a hA
        refine LQ ?_
        exact ⟨_, Nat.lt_succ_self m326, n345, IntKind.i64.wrap (t319 + 1), H324, hM, ((((((hA.nil.cons (hA.get 28 _ rfl)).cons (hA.get 27 _ rfl)).cons (hA.get 26 _ rfl)).cons (hA.get 10 _ rfl)).cons (hA.get 9 _ rfl)).cons (hA.get 2 _ rfl))⟩
      · replace H324 := ite_f hb328 H324
        refine wp_exit ?_
        refine TX ?_
        refine TX ?_
        refine BX ?_
        exact ⟨n315, Option.some.inj H324, (hM.sel [] rfl (by decide)), (((hA.nil.cons (hA.get 10 _ rfl)).cons (hA.get 9 _ rfl)).cons (hA.get 2 _ rfl))⟩
    clear hM hA
    rintro a w353 ⟨n323, rfl, hM, hA⟩
    try dsimp only at H
    refine TN ?_
    refine wp_seq ?_
    obtain ⟨o358, H357, H⟩ := Option.bind_eq_some_iff.1 H
    refine cutC (fun a w => ∃ (t356 : Bool), t356 = o358 ∧ Mem F w0 w [] ∧ Has 47 [(6, (.bool t356))] a) ?_ ?_
    · refine wp_region_lit ?_
      refine L1 (stv hA (by decide) (run_move (hA.ev rfl)) ?_)
      clear hA; intro a hA
      refine L1 (stv hA (by decide) (run_move (hA.ev rfl)) ?_)
      clear hA; intro a hA
      refine bsplit (b := r205.2) (fun hb359 => ?_) (fun hb359 => ?_)
      · replace H357 := ite_t hb359 H357
        have hA := hA.re (t := 42) rfl (congrArg Value.bool hb359)
        refine L1 (gate_on rfl rfl hA (by decide) rfl (stv hA (by decide) (run_move (hA.ev rfl)) ?_))
        clear hA; intro a hA
        refine L1 (gate_on rfl rfl hA (by decide) rfl (stv hA (by decide) (run_move (hA.ev rfl)) ?_))
        clear hA; intro a hA
        refine L1 (gate_on rfl rfl hA (by decide) rfl (stv hA (by decide) (run_bin (hA.ev rfl) (hA.ev rfl) (bin_leq _ _ _ _)) ?_))
        clear hA; intro a hA
        refine L1 (stv hA (by decide) (run_pick (hA.ev rfl) (fun _ => hA.ev rfl) (fun h => Bool.noConfusion h)) ?_)
        clear hA; intro a hA
        refine L1 (stv hA (by decide) (run_assign (hA.ev rfl)) ?_)
        clear hA; intro a hA
        refine LQ ?_
        exact ⟨(decide (n323 ≤ r212)), Option.some.inj H357, hM, (hA.nil.cons (hA.get 6 _ rfl))⟩
      · replace H357 := ite_f hb359 H357
        have hA := hA.re (t := 42) rfl (congrArg Value.bool hb359)
        refine L1 (gate_off rfl (by decide) rfl hA (by decide) rfl rfl ?_); clear hA; intro a hA
        refine L1 (gate_off rfl (by decide) rfl hA (by decide) rfl rfl ?_); clear hA; intro a hA
        refine L1 (gate_off rfl (by decide) rfl hA (by decide) rfl rfl ?_); clear hA; intro a hA
        refine L1 (stv hA (by decide) (run_pick (hA.ev rfl) (fun h => Bool.noConfusion h) (fun _ => hA.ev rfl)) ?_)
        clear hA; intro a hA
        refine L1 (stv hA (by decide) (run_assign (hA.ev rfl)) ?_)
        clear hA; intro a hA
        refine LQ ?_
        exact ⟨false, Option.some.inj H357, hM, (hA.nil.cons (hA.get 6 _ rfl))⟩
    clear hM hA
    rintro a w360 ⟨t356, rfl, hM, hA⟩
    try dsimp only at H
    refine TN ?_
    refine wp_ret ?_
    obtain rfl := Option.some.inj H
    exact ret_post1 (fn := Try.f9) hA rfl rfl ⟨_, rfl, rfl, hM⟩

end Go.Proofs.Ytoogcdmdbogkeaa.G
