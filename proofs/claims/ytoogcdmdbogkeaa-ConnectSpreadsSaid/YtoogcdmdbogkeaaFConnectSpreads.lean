/- The functions that a law of this seat reaches: what each comes to, as a plain function, and that its code comes to it. Conditions: the plain function gives a value (enough fuel, no panic). -/
import Derived.Test.YtoogcdmdbogkeaaFConnectSpreadsx3
set_option linter.unusedVariables false
set_option linter.unusedSimpArgs false
namespace Go.Proofs.Ytoogcdmdbogkeaa.G
open Go Go.RowKit Go.Proofs
def law39_grow.l0 (b_0 : Book) (anchors_1 : (List NAddr)) (draws_2 : (List Int)) : Nat → (List Link) → Int → Int → Option (Out ((List Link) × Bool) ((List Link)))
  | 0, _, _, _ => none
  | k + 1, xs983, x985, t987 => (if (decide (t987 < 20)) = true then (Option.bind (α := Int × Link × Int) ((mill_Deck_Next.f k (lightclientmill_Deck.mk draws_2 x985) 1048576).bind fun r1061 => ((connect_Choose.f k (Book.mk b_0.Salt b_0.Heard b_0.Tried) anchors_1 xs983 (IntKind.u64.wrap r1061.1)).bind fun r1064 => (some (r1061.2.At_, r1064.1, r1064.2)))) (fun st => match st with | (x1050, x1055, e1057) => (if (e1057 != 0) = true then (Option.bind (α := Bool) (if (e1057 == 390) = true then (some true) else (some (e1057 == 380))) (fun t1111 => (some (.ret (xs983, t1111))))) else ((connect_Open.f k xs983 x1055).bind fun r1116 => (if (r1116.2 != 0) = true then (some (.ret (xs983, false))) else (law39_grow.l0 b_0 anchors_1 draws_2 k r1116.1 x1050 (IntKind.i64.wrap (t987 + 1)))))))) else (some (.go xs983)))
def law39_grow.f (k : Nat) (b_0 : Book) (anchors_1 : (List NAddr)) (draws_2 : (List Int)) : Option ((List Link) × Bool) := ((mill_New.f k draws_2).bind fun r565 => (Option.bind (α := Out ((List Link) × Bool) ((List Link))) (law39_grow.l0 b_0 anchors_1 draws_2 k ([] : List Link) r565.At_ 0) (fun o => match o with | .ret r => some r | .go xs993 => (some (xs993, false)))))
set_option maxHeartbeats 2000000 in
set_option maxRecDepth 100000 in
theorem law39_grow.calls (k : Nat) (b_0 : Book) (anchors_1 : (List NAddr)) (draws_2 : (List Int)) (F : List (Option Nat)) (v0_1 : Value) (v0_2 : Value) (v1 : Value) (v2 : Value) (r : ((List Link) × Bool)) (w0 : World) (h0_1 : RoV F pPlace w0 v0_1 b_0.Heard) (h0_2 : RoV F pPlace w0 v0_2 b_0.Tried) (h1 : RoV F pNAddr w0 v1 anchors_1) (h2 : RoV F (Pl.int .i64) w0 v2 draws_2) (hM : Mem F w0 w0 []) (H : law39_grow.f k b_0 anchors_1 draws_2 = some r) :
    Calls Try.prog 23 #[(.agg (List.flatten [pHash.enc b_0.Salt, [v0_1], [v0_2]]).toArray), v1, v2] w0 fun e w' => ∃ v, e = .returned v ∧ ∃ (ur_0 : Value), v = (.tuple #[ur_0, (.bool r.2)]) ∧ Mem F w0 w' [.row 53 pLink.sz ur_0 (pLink.flat r.1)] := by
  unfold law39_grow.f at H
  obtain ⟨A0_1, c0_1, rfl, hr0_1, hc0_1⟩ := h0_1
  obtain ⟨A0_2, c0_2, rfl, hr0_2, hc0_2⟩ := h0_2
  obtain ⟨A1, c1, rfl, hr1, hc1⟩ := h1
  obtain ⟨A2, c2, rfl, hr2, hc2⟩ := h2
  refine enterL (n := 51) [(.agg (List.flatten [pHash.enc b_0.Salt, [(.slice A0_1 b_0.Heard.length c0_1)], [(.slice A0_2 b_0.Tried.length c0_2)]]).toArray), (.slice A1 anchors_1.length c1), (.slice A2 draws_2.length c2)] Try.func23 rfl rfl rfl ?_
  intro a hA
  refine wp_seq ?_
  refine wp_region_lit ?_
  refine L1 (e_box (cs := (List.flatten [pHash.enc b_0.Salt, [(.slice A0_1 b_0.Heard.length c0_1)], [(.slice A0_2 b_0.Tried.length c0_2)]])) hM hA rfl rfl (by decide) ?_)
  clear hM hA; intro w563 g562 hM hE  a hA
  refine L1 (stv hA (by decide) (run_assign (hA.ev rfl)) ?_)
  clear hA; intro a hA
  refine L1 (stv hA (by decide) (run_assign (hA.ev rfl)) ?_)
  clear hA; intro a hA
  refine LQ ?_
  refine TN ?_
  refine wp_seq ?_
  refine wp_region_lit ?_
  refine L1 (stv hA (by decide) (run_assign (hA.ev rfl)) ?_)
  clear hA; intro a hA
  refine LQ ?_
  refine TN ?_
  refine wp_seq ?_
  refine wp_region_lit ?_
  refine L1 (stv hA (by decide) (run_move (hA.ev rfl)) ?_)
  clear hA; intro a hA
  obtain ⟨r565, H566, H⟩ := Option.bind_eq_some_iff.1 H
  refine L1 (st_call Try.call20 hA [(.slice A2 draws_2.length c2)] rfl (by decide) (mill_New.calls _ _ _ _ _ _ ((RoV.mk (hM.roC (Ms := []) hr2) (Eq.refl draws_2.length) hc2)) (hM.front (Ms := [])) H566) ?_)
  clear hA; rintro _ w567 ⟨g568, rfl, hMc⟩ a hA
  have hE := hMc.below; have hM := hM.call (Ms := []) hMc
  clear hMc; simp only [List.cons_append, List.nil_append] at hM
  refine L1 (stv hA (by decide) (run_assign (hA.ev rfl)) ?_)
  clear hA; intro a hA
  refine LQ ?_
  refine TN ?_
  refine wp_seq ?_
  refine wp_seq ?_
  refine wp_region_lit ?_
  refine L1 (stv hA (by decide) (run_assign (hA.ev rfl)) ?_)
  clear hA; intro a hA
  refine LQ ?_
  refine TN ?_
  obtain ⟨o995, H994, H⟩ := Option.bind_eq_some_iff.1 H
  refine cutC (fun a w => ∃ (xs993 : (List Link)) (v990 : Value), (.go xs993) = o995 ∧ Mem F w0 w [.row 53 pLink.sz v990 (pLink.flat xs993)] ∧ Has 51 [(8, v990)] a) ?_ ?_
  · refine wp_block ?_
    have hM := hM.addnil 53 (pLink).sz
    refine wp_loop_ghost (fun m a w => ∃ (xs983 : (List Link)) (x985 : Int) (t987 : Int) (v980 : Value), law39_grow.l0 b_0 anchors_1 draws_2 m xs983 x985 t987 = some o995 ∧ Mem F w0 w [.box g562 41 (List.flatten [pHash.enc b_0.Salt, [(.slice A0_1 b_0.Heard.length c0_1)], [(.slice A0_2 b_0.Tried.length c0_2)]]), .row 53 pLink.sz v980 (pLink.flat xs983), .box g568 91 [(.slice A2 draws_2.length c2), (.int .i64 x985)]] ∧ Has 51 [(1, (.slice A1 anchors_1.length c1)), (3, (.pointer (some (⟨g562, 0, none⟩)))), (8, v980), (9, (.pointer (some (⟨g568, 0, none⟩)))), (10, (.int .i64 t987))] a) k ⟨([] : List Link), r565.At_, 0, (.slice none 0 0), H994, (hM.sel [2, 0, 1] rfl (by decide)), (((((hA.nil.cons (hA.get 10 _ rfl)).cons (hA.get 9 _ rfl)).cons (hA.get 8 _ rfl)).cons (hA.get 3 _ rfl)).cons (hA.get 1 _ rfl))⟩ ?_
    clear hM hA; rintro m997 a w998 ⟨xs983, x985, t987, v980, H994, hM, hA⟩
    cases m997 with
    | zero => exact absurd H994 (by simp [law39_grow.l0])
    | succ m997 =>
    rw [law39_grow.l0] at H994
    obtain ⟨A981, c982, rfl⟩ := RowOk.form (hM.row (p := pLink) (.s .z))
    refine wp_seq ?_
    refine wp_seq ?_
    refine wp_region_lit ?_
    refine L1 (stv hA (by decide) (run_move (hA.ev rfl)) ?_)
    clear hA; intro a hA
    refine L1 (stv hA (by decide) (run_bin (hA.ev rfl) (hA.ev rfl) (bin_lss _ _ _ _)) ?_)
    clear hA; intro a hA
    refine LQ ?_
    refine TN ?_
    refine tcond (b := (decide (t987 < 20))) hA rfl (fun hb999 => ?_) (fun hb999 => ?_)
    · replace H994 := ite_t hb999 H994
      refine wp_skip ?_
      refine TN ?_
      refine wp_seq ?_
      refine wp_block ?_
      refine wp_seq ?_
      obtain ⟨o1059, H1058, H994⟩ := Option.bind_eq_some_iff.1 H994
      refine cutC (fun a w => ∃ (x1050 : Int) (x1055 : Link) (e1057 : Int) (g1054 : Nat), (x1050, x1055, e1057) = o1059 ∧ Mem F w0 w [.box g562 41 (List.flatten [pHash.enc b_0.Salt, [(.slice A0_1 b_0.Heard.length c0_1)], [(.slice A0_2 b_0.Tried.length c0_2)]]), .row 53 pLink.sz (.slice A981 xs983.length c982) (pLink.flat xs983), .box g568 91 [(.slice A2 draws_2.length c2), (.int .i64 x1050)], .box g1054 53 (pLink.enc x1055)] ∧ Has 51 [(1, (.slice A1 anchors_1.length c1)), (3, (.pointer (some (⟨g562, 0, none⟩)))), (8, (.slice A981 xs983.length c982)), (9, (.pointer (some (⟨g568, 0, none⟩)))), (10, (.int .i64 t987)), (11, (.pointer (some (⟨g1054, 0, none⟩)))), (12, (.int .i64 e1057))] a) ?_ ?_
      · obtain ⟨r1061, H1062, H1058⟩ := Option.bind_eq_some_iff.1 H1058
        obtain ⟨r1064, H1065, H1058⟩ := Option.bind_eq_some_iff.1 H1058
        refine draw (fun w' => Below w998.heap.size w998 w') [4, 11] rfl ?_
        intro w1070 hw hS; replace hM := hM.ext hS; clear hw
        refine d_takef (i := 1) (L' := #[fF,tT,fF,fF,fF,fF,fF,fF,fF,fF,fF,fF,fF]) rfl (by kernel_rfl) rfl (fun _ _ _ h => h) hA (by decide) (fun _ => hS) (fun a w' hA => run_move (hA.ev rfl)) ?_; clear hA; intro a hA
        refine d_takef (i := 2) (L' := #[fF,tT,tT,fF,fF,fF,fF,fF,fF,fF,fF,fF,fF]) rfl (by kernel_rfl) rfl (fun _ _ _ h => h) hA (by decide) (fun _ => hS) (fun a w' hA => run_move (hA.ev rfl)) ?_; clear hA; intro a hA
        refine d_takef (i := 3) (L' := #[fF,tT,tT,tT,fF,fF,fF,fF,fF,fF,fF,fF,fF]) rfl (by kernel_rfl) rfl (fun _ _ _ h => h) hA (by decide) (fun _ => hS) (fun a w' hA => run_move (hA.ev rfl)) ?_; clear hA; intro a hA
        refine d_many (is := [0, 4, 10]) (by kernel_rfl) (by decide) ⟨?_, ?_, ?_, trivial⟩
        · refine d_op (i := 0) (L' := #[tT,tT,tT,tT,fF,fF,fF,fF,fF,fF,fF,fF,fF]) rfl rfl (stv hA (by decide) (run_ld (hA.ev rfl) (run_loadW Try.isAgg41 Try.sizeOf41 (by simp [Pl.len]; try rfl) (hM.box .z))) ?_)
          clear hA; intro a hA
          refine ⟨fun _ => hS, ?_⟩
          refine d_many (is := [4, 10]) (by kernel_rfl) (by decide) ⟨?_, ?_, trivial⟩
          · have hM := hM.sel [2, 0, 1] rfl (by decide)
            refine d_op (i := 4) (L' := #[tT,tT,tT,tT,tT,fF,fF,fF,fF,fF,fF,fF,fF]) rfl rfl (st_call Try.call35 hA [(.pointer (some (⟨g568, 0, none⟩))), (.int .i64 1048576)] rfl (by decide) (mill_Deck_Next.calls _ (lightclientmill_Deck.mk draws_2 x985) _ _ _ _ _ _ ((RoV.mk (hM.roC (Ms := [_]) hr2) (Eq.refl draws_2.length) hc2)) (hM.front (Ms := [_])) H1062) ?_)
            clear hA; rintro _ w1071 ⟨rfl, hMc⟩ a hA
            have hM := hM.call (Ms := [_]) hMc
            clear hMc; simp only [List.cons_append, List.nil_append] at hM
            refine ⟨fun h => absurd h (by decide), ?_⟩
            refine d_takef (i := 5) (L' := #[tT,tT,tT,tT,tT,tT,fF,fF,fF,fF,fF,fF,fF]) rfl (by kernel_rfl) rfl (fun _ _ _ h => h) hA (by decide) (fun h => absurd h (by decide)) (fun a w' hA => run_conv Try.underlying3 Try.underlying22 (hA.ev rfl)) ?_; clear hA; intro a hA
            refine d_many (is := [6, 10]) (by kernel_rfl) (by decide) ⟨?_, ?_, trivial⟩
            · refine d_op (i := 6) (L' := #[tT,tT,tT,tT,tT,tT,tT,fF,fF,fF,fF,fF,fF]) rfl rfl (st_call Try.call27 hA [(.agg (List.flatten [pHash.enc b_0.Salt, [(.slice A0_1 b_0.Heard.length c0_1)], [(.slice A0_2 b_0.Tried.length c0_2)]]).toArray), (.slice A1 anchors_1.length c1), (.slice A981 xs983.length c982), (.int .u64 (IntKind.u64.wrap r1061.1))] rfl (by decide) (connect_Choose.calls _ (Book.mk b_0.Salt b_0.Heard b_0.Tried) _ _ _ _ _ _ _ _ _ _ ((RoV.mk (hM.roC (Ms := []) hr0_1) (Eq.refl b_0.Heard.length) hc0_1)) ((RoV.mk (hM.roC (Ms := []) hr0_2) (Eq.refl b_0.Tried.length) hc0_2)) ((RoV.mk (hM.roC (Ms := []) hr1) (Eq.refl anchors_1.length) hc1)) ((hM.roV (p := pLink) (Ms := []) (.s (.s .z)))) (hM.front (Ms := [])) H1065) ?_)
              clear hA; rintro _ w1072 ⟨rfl, hMc⟩ a hA
              have hE := hMc.below; have hM := hM.call (Ms := []) hMc
              clear hMc; simp only [List.cons_append, List.nil_append] at hM
              refine ⟨fun h => absurd h (by decide), ?_⟩
              refine d_takef (i := 7) (L' := #[tT,tT,tT,tT,tT,tT,tT,tT,fF,fF,fF,fF,fF]) rfl (by kernel_rfl) rfl (fun _ _ _ h => h) hA (by decide) (fun h => absurd h (by decide)) (fun a w' hA => run_move (hA.ev rfl)) ?_; clear hA; intro a hA
              refine d_takef (i := 8) (L' := #[tT,tT,tT,tT,tT,tT,tT,tT,tT,fF,fF,fF,fF]) rfl (by kernel_rfl) rfl (fun _ _ _ h => h) hA (by decide) (fun h => absurd h (by decide)) (fun a w' hA => run_ext (hA.ev rfl) rfl) ?_; clear hA; intro a hA
              refine d_takef (i := 9) (L' := #[tT,tT,tT,tT,tT,tT,tT,tT,tT,tT,fF,fF,fF]) rfl (by kernel_rfl) rfl (fun _ _ _ h => h) hA (by decide) (fun h => absurd h (by decide)) (fun a w' hA => run_ext (hA.ev rfl) rfl) ?_; clear hA; intro a hA
              refine d_one (i := 10) (L' := #[tT,tT,tT,tT,tT,tT,tT,tT,tT,tT,tT,fF,fF]) (by kernel_rfl) rfl rfl (e_alloc (cs := (pLink.enc Link.z)) hM zero53 rfl hA (by decide) ?_)
              clear hM hA; intro w1074 g1073 hM hE  a hA
              refine ⟨fun h => absurd h (by decide), ?_⟩
              refine d_one (i := 11) (L' := #[tT,tT,tT,tT,tT,tT,tT,tT,tT,tT,tT,tT,fF]) (by kernel_rfl) rfl rfl (e_store (g := g1073) (off := 0) (cur := (pLink.enc Link.z)) (cs' := (pLink.enc r1064.1)) hM .z Try.sizeOf53 hA rfl (by simp [add_mk]) rfl (agg_size _ _) (agg_one _ _) (Nat.le_of_ble_eq_true (enc_fitL _ _ rfl)) (spl_all (by first | rfl | (simp [Value.cells, Pl.len]; done) | (simp [Value.cells, Pl.len]; rfl))) ?_)
              clear hM hA; intro w1075  hM hE  a hA
              refine ⟨fun h => absurd h (by decide), ?_⟩
              refine d_takef (i := 12) (L' := #[tT,tT,tT,tT,tT,tT,tT,tT,tT,tT,tT,tT,tT]) rfl (by kernel_rfl) rfl (fun _ _ _ h => h) hA (by decide) (fun h => absurd h (by decide)) (fun a w' hA => run_assign (hA.ev rfl)) ?_; clear hA; intro a hA
              refine d_done (by kernel_rfl) ?_
              exact ⟨r1061.2.At_, r1064.1, r1064.2, g1073, Option.some.inj H1058, (hM.sel [2, 3, 1, 0] rfl (by decide)), (((((((hA.nil.cons (hA.get 12 _ rfl)).cons (hA.get 11 _ rfl)).cons (hA.get 10 _ rfl)).cons (hA.get 9 _ rfl)).cons (hA.get 8 _ rfl)).cons (hA.get 3 _ rfl)).cons (hA.get 1 _ rfl))⟩
            · refine d_op (i := 10) (L' := #[tT,tT,tT,tT,tT,tT,fF,fF,fF,fF,tT,fF,fF]) rfl rfl (e_alloc (cs := (pLink.enc Link.z)) hM zero53 rfl hA (by decide) ?_)
              clear hM hA; intro w1077 g1076 hM hE  a hA
              refine ⟨fun h => absurd h (by decide), ?_⟩
              refine d_one (i := 6) (L' := #[tT,tT,tT,tT,tT,tT,tT,fF,fF,fF,tT,fF,fF]) (by kernel_rfl) rfl rfl (st_call Try.call27 hA [(.agg (List.flatten [pHash.enc b_0.Salt, [(.slice A0_1 b_0.Heard.length c0_1)], [(.slice A0_2 b_0.Tried.length c0_2)]]).toArray), (.slice A1 anchors_1.length c1), (.slice A981 xs983.length c982), (.int .u64 (IntKind.u64.wrap r1061.1))] rfl (by decide) (connect_Choose.calls _ (Book.mk b_0.Salt b_0.Heard b_0.Tried) _ _ _ _ _ _ _ _ _ _ ((RoV.mk (hM.roC (Ms := []) hr0_1) (Eq.refl b_0.Heard.length) hc0_1)) ((RoV.mk (hM.roC (Ms := []) hr0_2) (Eq.refl b_0.Tried.length) hc0_2)) ((RoV.mk (hM.roC (Ms := []) hr1) (Eq.refl anchors_1.length) hc1)) ((hM.roV (p := pLink) (Ms := []) (.s (.s (.s .z))))) (hM.front (Ms := [])) H1065) ?_)
              clear hA; rintro _ w1078 ⟨rfl, hMc⟩ a hA
              have hE := hMc.below; have hM := hM.call (Ms := []) hMc
              clear hMc; simp only [List.cons_append, List.nil_append] at hM
              refine ⟨fun h => absurd h (by decide), ?_⟩
              refine d_takef (i := 7) (L' := #[tT,tT,tT,tT,tT,tT,tT,tT,fF,fF,tT,fF,fF]) rfl (by kernel_rfl) rfl (fun _ _ _ h => h) hA (by decide) (fun h => absurd h (by decide)) (fun a w' hA => run_move (hA.ev rfl)) ?_; clear hA; intro a hA
              refine d_takef (i := 8) (L' := #[tT,tT,tT,tT,tT,tT,tT,tT,tT,fF,tT,fF,fF]) rfl (by kernel_rfl) rfl (fun _ _ _ h => h) hA (by decide) (fun h => absurd h (by decide)) (fun a w' hA => run_ext (hA.ev rfl) rfl) ?_; clear hA; intro a hA
              refine d_takef (i := 9) (L' := #[tT,tT,tT,tT,tT,tT,tT,tT,tT,tT,tT,fF,fF]) rfl (by kernel_rfl) rfl (fun _ _ _ h => h) hA (by decide) (fun h => absurd h (by decide)) (fun a w' hA => run_ext (hA.ev rfl) rfl) ?_; clear hA; intro a hA
              refine d_one (i := 11) (L' := #[tT,tT,tT,tT,tT,tT,tT,tT,tT,tT,tT,tT,fF]) (by kernel_rfl) rfl rfl (e_store (g := g1076) (off := 0) (cur := (pLink.enc Link.z)) (cs' := (pLink.enc r1064.1)) hM .z Try.sizeOf53 hA rfl (by simp [add_mk]) rfl (agg_size _ _) (agg_one _ _) (Nat.le_of_ble_eq_true (enc_fitL _ _ rfl)) (spl_all (by first | rfl | (simp [Value.cells, Pl.len]; done) | (simp [Value.cells, Pl.len]; rfl))) ?_)
              clear hM hA; intro w1079  hM hE  a hA
              refine ⟨fun h => absurd h (by decide), ?_⟩
              refine d_takef (i := 12) (L' := #[tT,tT,tT,tT,tT,tT,tT,tT,tT,tT,tT,tT,tT]) rfl (by kernel_rfl) rfl (fun _ _ _ h => h) hA (by decide) (fun h => absurd h (by decide)) (fun a w' hA => run_assign (hA.ev rfl)) ?_; clear hA; intro a hA
              refine d_done (by kernel_rfl) ?_
              exact ⟨r1061.2.At_, r1064.1, r1064.2, g1076, Option.some.inj H1058, (hM.sel [2, 3, 1, 0] rfl (by decide)), (((((((hA.nil.cons (hA.get 12 _ rfl)).cons (hA.get 11 _ rfl)).cons (hA.get 10 _ rfl)).cons (hA.get 9 _ rfl)).cons (hA.get 8 _ rfl)).cons (hA.get 3 _ rfl)).cons (hA.get 1 _ rfl))⟩
          · refine d_op (i := 10) (L' := #[tT,tT,tT,tT,fF,fF,fF,fF,fF,fF,tT,fF,fF]) rfl rfl (e_alloc (cs := (pLink.enc Link.z)) hM zero53 rfl hA (by decide) ?_)
            clear hM hA; intro w1081 g1080 hM hE  a hA
            replace hS := hS.trans (hE.mono hS.size)
            refine ⟨fun _ => hS, ?_⟩
            have hM := hM.sel [3, 0, 1, 2] rfl (by decide)
            refine d_one (i := 4) (L' := #[tT,tT,tT,tT,tT,fF,fF,fF,fF,fF,tT,fF,fF]) (by kernel_rfl) rfl rfl (st_call Try.call35 hA [(.pointer (some (⟨g568, 0, none⟩))), (.int .i64 1048576)] rfl (by decide) (mill_Deck_Next.calls _ (lightclientmill_Deck.mk draws_2 x985) _ _ _ _ _ _ ((RoV.mk (hM.roC (Ms := [_]) hr2) (Eq.refl draws_2.length) hc2)) (hM.front (Ms := [_])) H1062) ?_)
            clear hA; rintro _ w1082 ⟨rfl, hMc⟩ a hA
            have hM := hM.call (Ms := [_]) hMc
            clear hMc; simp only [List.cons_append, List.nil_append] at hM
            refine ⟨fun h => absurd h (by decide), ?_⟩
            refine d_takef (i := 5) (L' := #[tT,tT,tT,tT,tT,tT,fF,fF,fF,fF,tT,fF,fF]) rfl (by kernel_rfl) rfl (fun _ _ _ h => h) hA (by decide) (fun h => absurd h (by decide)) (fun a w' hA => run_conv Try.underlying3 Try.underlying22 (hA.ev rfl)) ?_; clear hA; intro a hA
            refine d_one (i := 6) (L' := #[tT,tT,tT,tT,tT,tT,tT,fF,fF,fF,tT,fF,fF]) (by kernel_rfl) rfl rfl (st_call Try.call27 hA [(.agg (List.flatten [pHash.enc b_0.Salt, [(.slice A0_1 b_0.Heard.length c0_1)], [(.slice A0_2 b_0.Tried.length c0_2)]]).toArray), (.slice A1 anchors_1.length c1), (.slice A981 xs983.length c982), (.int .u64 (IntKind.u64.wrap r1061.1))] rfl (by decide) (connect_Choose.calls _ (Book.mk b_0.Salt b_0.Heard b_0.Tried) _ _ _ _ _ _ _ _ _ _ ((RoV.mk (hM.roC (Ms := []) hr0_1) (Eq.refl b_0.Heard.length) hc0_1)) ((RoV.mk (hM.roC (Ms := []) hr0_2) (Eq.refl b_0.Tried.length) hc0_2)) ((RoV.mk (hM.roC (Ms := []) hr1) (Eq.refl anchors_1.length) hc1)) ((hM.roV (p := pLink) (Ms := []) (.s (.s (.s .z))))) (hM.front (Ms := [])) H1065) ?_)
            clear hA; rintro _ w1083 ⟨rfl, hMc⟩ a hA
            have hE := hMc.below; have hM := hM.call (Ms := []) hMc
            clear hMc; simp only [List.cons_append, List.nil_append] at hM
            refine ⟨fun h => absurd h (by decide), ?_⟩
            refine d_takef (i := 7) (L' := #[tT,tT,tT,tT,tT,tT,tT,tT,fF,fF,tT,fF,fF]) rfl (by kernel_rfl) rfl (fun _ _ _ h => h) hA (by decide) (fun h => absurd h (by decide)) (fun a w' hA => run_move (hA.ev rfl)) ?_; clear hA; intro a hA
            refine d_takef (i := 8) (L' := #[tT,tT,tT,tT,tT,tT,tT,tT,tT,fF,tT,fF,fF]) rfl (by kernel_rfl) rfl (fun _ _ _ h => h) hA (by decide) (fun h => absurd h (by decide)) (fun a w' hA => run_ext (hA.ev rfl) rfl) ?_; clear hA; intro a hA
            refine d_takef (i := 9) (L' := #[tT,tT,tT,tT,tT,tT,tT,tT,tT,tT,tT,fF,fF]) rfl (by kernel_rfl) rfl (fun _ _ _ h => h) hA (by decide) (fun h => absurd h (by decide)) (fun a w' hA => run_ext (hA.ev rfl) rfl) ?_; clear hA; intro a hA
            refine d_one (i := 11) (L' := #[tT,tT,tT,tT,tT,tT,tT,tT,tT,tT,tT,tT,fF]) (by kernel_rfl) rfl rfl (e_store (g := g1080) (off := 0) (cur := (pLink.enc Link.z)) (cs' := (pLink.enc r1064.1)) hM (.s .z) Try.sizeOf53 hA rfl (by simp [add_mk]) rfl (agg_size _ _) (agg_one _ _) (Nat.le_of_ble_eq_true (enc_fitL _ _ rfl)) (spl_all (by first | rfl | (simp [Value.cells, Pl.len]; done) | (simp [Value.cells, Pl.len]; rfl))) ?_)
            clear hM hA; intro w1084  hM hE  a hA
            refine ⟨fun h => absurd h (by decide), ?_⟩
            refine d_takef (i := 12) (L' := #[tT,tT,tT,tT,tT,tT,tT,tT,tT,tT,tT,tT,tT]) rfl (by kernel_rfl) rfl (fun _ _ _ h => h) hA (by decide) (fun h => absurd h (by decide)) (fun a w' hA => run_assign (hA.ev rfl)) ?_; clear hA; intro a hA
            refine d_done (by kernel_rfl) ?_
            exact ⟨r1061.2.At_, r1064.1, r1064.2, g1080, Option.some.inj H1058, (hM.sel [2, 3, 0, 1] rfl (by decide)), (((((((hA.nil.cons (hA.get 12 _ rfl)).cons (hA.get 11 _ rfl)).cons (hA.get 10 _ rfl)).cons (hA.get 9 _ rfl)).cons (hA.get 8 _ rfl)).cons (hA.get 3 _ rfl)).cons (hA.get 1 _ rfl))⟩
        · have hM := hM.sel [2, 0, 1] rfl (by decide)
          refine d_op (i := 4) (L' := #[fF,tT,tT,tT,tT,fF,fF,fF,fF,fF,fF,fF,fF]) rfl rfl (st_call Try.call35 hA [(.pointer (some (⟨g568, 0, none⟩))), (.int .i64 1048576)] rfl (by decide) (mill_Deck_Next.calls _ (lightclientmill_Deck.mk draws_2 x985) _ _ _ _ _ _ ((RoV.mk (hM.roC (Ms := [_]) hr2) (Eq.refl draws_2.length) hc2)) (hM.front (Ms := [_])) H1062) ?_)
          clear hA; rintro _ w1085 ⟨rfl, hMc⟩ a hA
          have hM := hM.call (Ms := [_]) hMc
          clear hMc; simp only [List.cons_append, List.nil_append] at hM
          refine ⟨fun h => absurd h (by decide), ?_⟩
          refine d_takef (i := 5) (L' := #[fF,tT,tT,tT,tT,tT,fF,fF,fF,fF,fF,fF,fF]) rfl (by kernel_rfl) rfl (fun _ _ _ h => h) hA (by decide) (fun h => absurd h (by decide)) (fun a w' hA => run_conv Try.underlying3 Try.underlying22 (hA.ev rfl)) ?_; clear hA; intro a hA
          refine d_many (is := [0, 10]) (by kernel_rfl) (by decide) ⟨?_, ?_, trivial⟩
          · refine d_op (i := 0) (L' := #[tT,tT,tT,tT,tT,tT,fF,fF,fF,fF,fF,fF,fF]) rfl rfl (stv hA (by decide) (run_ld (hA.ev rfl) (run_loadW Try.isAgg41 Try.sizeOf41 (by simp [Pl.len]; try rfl) (hM.box (.s .z)))) ?_)
            clear hA; intro a hA
            refine ⟨fun h => absurd h (by decide), ?_⟩
            refine d_many (is := [6, 10]) (by kernel_rfl) (by decide) ⟨?_, ?_, trivial⟩
            · refine d_op (i := 6) (L' := #[tT,tT,tT,tT,tT,tT,tT,fF,fF,fF,fF,fF,fF]) rfl rfl (st_call Try.call27 hA [(.agg (List.flatten [pHash.enc b_0.Salt, [(.slice A0_1 b_0.Heard.length c0_1)], [(.slice A0_2 b_0.Tried.length c0_2)]]).toArray), (.slice A1 anchors_1.length c1), (.slice A981 xs983.length c982), (.int .u64 (IntKind.u64.wrap r1061.1))] rfl (by decide) (connect_Choose.calls _ (Book.mk b_0.Salt b_0.Heard b_0.Tried) _ _ _ _ _ _ _ _ _ _ ((RoV.mk (hM.roC (Ms := []) hr0_1) (Eq.refl b_0.Heard.length) hc0_1)) ((RoV.mk (hM.roC (Ms := []) hr0_2) (Eq.refl b_0.Tried.length) hc0_2)) ((RoV.mk (hM.roC (Ms := []) hr1) (Eq.refl anchors_1.length) hc1)) ((hM.roV (p := pLink) (Ms := []) (.s (.s .z)))) (hM.front (Ms := [])) H1065) ?_)
              clear hA; rintro _ w1086 ⟨rfl, hMc⟩ a hA
              have hE := hMc.below; have hM := hM.call (Ms := []) hMc
              clear hMc; simp only [List.cons_append, List.nil_append] at hM
              refine ⟨fun h => absurd h (by decide), ?_⟩
              refine d_takef (i := 7) (L' := #[tT,tT,tT,tT,tT,tT,tT,tT,fF,fF,fF,fF,fF]) rfl (by kernel_rfl) rfl (fun _ _ _ h => h) hA (by decide) (fun h => absurd h (by decide)) (fun a w' hA => run_move (hA.ev rfl)) ?_; clear hA; intro a hA
              refine d_takef (i := 8) (L' := #[tT,tT,tT,tT,tT,tT,tT,tT,tT,fF,fF,fF,fF]) rfl (by kernel_rfl) rfl (fun _ _ _ h => h) hA (by decide) (fun h => absurd h (by decide)) (fun a w' hA => run_ext (hA.ev rfl) rfl) ?_; clear hA; intro a hA
              refine d_takef (i := 9) (L' := #[tT,tT,tT,tT,tT,tT,tT,tT,tT,tT,fF,fF,fF]) rfl (by kernel_rfl) rfl (fun _ _ _ h => h) hA (by decide) (fun h => absurd h (by decide)) (fun a w' hA => run_ext (hA.ev rfl) rfl) ?_; clear hA; intro a hA
              refine d_one (i := 10) (L' := #[tT,tT,tT,tT,tT,tT,tT,tT,tT,tT,tT,fF,fF]) (by kernel_rfl) rfl rfl (e_alloc (cs := (pLink.enc Link.z)) hM zero53 rfl hA (by decide) ?_)
              clear hM hA; intro w1088 g1087 hM hE  a hA
              refine ⟨fun h => absurd h (by decide), ?_⟩
              refine d_one (i := 11) (L' := #[tT,tT,tT,tT,tT,tT,tT,tT,tT,tT,tT,tT,fF]) (by kernel_rfl) rfl rfl (e_store (g := g1087) (off := 0) (cur := (pLink.enc Link.z)) (cs' := (pLink.enc r1064.1)) hM .z Try.sizeOf53 hA rfl (by simp [add_mk]) rfl (agg_size _ _) (agg_one _ _) (Nat.le_of_ble_eq_true (enc_fitL _ _ rfl)) (spl_all (by first | rfl | (simp [Value.cells, Pl.len]; done) | (simp [Value.cells, Pl.len]; rfl))) ?_)
              clear hM hA; intro w1089  hM hE  a hA
              refine ⟨fun h => absurd h (by decide), ?_⟩
              refine d_takef (i := 12) (L' := #[tT,tT,tT,tT,tT,tT,tT,tT,tT,tT,tT,tT,tT]) rfl (by kernel_rfl) rfl (fun _ _ _ h => h) hA (by decide) (fun h => absurd h (by decide)) (fun a w' hA => run_assign (hA.ev rfl)) ?_; clear hA; intro a hA
              refine d_done (by kernel_rfl) ?_
              exact ⟨r1061.2.At_, r1064.1, r1064.2, g1087, Option.some.inj H1058, (hM.sel [2, 3, 1, 0] rfl (by decide)), (((((((hA.nil.cons (hA.get 12 _ rfl)).cons (hA.get 11 _ rfl)).cons (hA.get 10 _ rfl)).cons (hA.get 9 _ rfl)).cons (hA.get 8 _ rfl)).cons (hA.get 3 _ rfl)).cons (hA.get 1 _ rfl))⟩
            · refine d_op (i := 10) (L' := #[tT,tT,tT,tT,tT,tT,fF,fF,fF,fF,tT,fF,fF]) rfl rfl (e_alloc (cs := (pLink.enc Link.z)) hM zero53 rfl hA (by decide) ?_)
              clear hM hA; intro w1091 g1090 hM hE  a hA
              refine ⟨fun h => absurd h (by decide), ?_⟩
              refine d_one (i := 6) (L' := #[tT,tT,tT,tT,tT,tT,tT,fF,fF,fF,tT,fF,fF]) (by kernel_rfl) rfl rfl (st_call Try.call27 hA [(.agg (List.flatten [pHash.enc b_0.Salt, [(.slice A0_1 b_0.Heard.length c0_1)], [(.slice A0_2 b_0.Tried.length c0_2)]]).toArray), (.slice A1 anchors_1.length c1), (.slice A981 xs983.length c982), (.int .u64 (IntKind.u64.wrap r1061.1))] rfl (by decide) (connect_Choose.calls _ (Book.mk b_0.Salt b_0.Heard b_0.Tried) _ _ _ _ _ _ _ _ _ _ ((RoV.mk (hM.roC (Ms := []) hr0_1) (Eq.refl b_0.Heard.length) hc0_1)) ((RoV.mk (hM.roC (Ms := []) hr0_2) (Eq.refl b_0.Tried.length) hc0_2)) ((RoV.mk (hM.roC (Ms := []) hr1) (Eq.refl anchors_1.length) hc1)) ((hM.roV (p := pLink) (Ms := []) (.s (.s (.s .z))))) (hM.front (Ms := [])) H1065) ?_)
              clear hA; rintro _ w1092 ⟨rfl, hMc⟩ a hA
              have hE := hMc.below; have hM := hM.call (Ms := []) hMc
              clear hMc; simp only [List.cons_append, List.nil_append] at hM
              refine ⟨fun h => absurd h (by decide), ?_⟩
              refine d_takef (i := 7) (L' := #[tT,tT,tT,tT,tT,tT,tT,tT,fF,fF,tT,fF,fF]) rfl (by kernel_rfl) rfl (fun _ _ _ h => h) hA (by decide) (fun h => absurd h (by decide)) (fun a w' hA => run_move (hA.ev rfl)) ?_; clear hA; intro a hA
              refine d_takef (i := 8) (L' := #[tT,tT,tT,tT,tT,tT,tT,tT,tT,fF,tT,fF,fF]) rfl (by kernel_rfl) rfl (fun _ _ _ h => h) hA (by decide) (fun h => absurd h (by decide)) (fun a w' hA => run_ext (hA.ev rfl) rfl) ?_; clear hA; intro a hA
              refine d_takef (i := 9) (L' := #[tT,tT,tT,tT,tT,tT,tT,tT,tT,tT,tT,fF,fF]) rfl (by kernel_rfl) rfl (fun _ _ _ h => h) hA (by decide) (fun h => absurd h (by decide)) (fun a w' hA => run_ext (hA.ev rfl) rfl) ?_; clear hA; intro a hA
              refine d_one (i := 11) (L' := #[tT,tT,tT,tT,tT,tT,tT,tT,tT,tT,tT,tT,fF]) (by kernel_rfl) rfl rfl (e_store (g := g1090) (off := 0) (cur := (pLink.enc Link.z)) (cs' := (pLink.enc r1064.1)) hM .z Try.sizeOf53 hA rfl (by simp [add_mk]) rfl (agg_size _ _) (agg_one _ _) (Nat.le_of_ble_eq_true (enc_fitL _ _ rfl)) (spl_all (by first | rfl | (simp [Value.cells, Pl.len]; done) | (simp [Value.cells, Pl.len]; rfl))) ?_)
              clear hM hA; intro w1093  hM hE  a hA
              refine ⟨fun h => absurd h (by decide), ?_⟩
              refine d_takef (i := 12) (L' := #[tT,tT,tT,tT,tT,tT,tT,tT,tT,tT,tT,tT,tT]) rfl (by kernel_rfl) rfl (fun _ _ _ h => h) hA (by decide) (fun h => absurd h (by decide)) (fun a w' hA => run_assign (hA.ev rfl)) ?_; clear hA; intro a hA
              refine d_done (by kernel_rfl) ?_
              exact ⟨r1061.2.At_, r1064.1, r1064.2, g1090, Option.some.inj H1058, (hM.sel [2, 3, 1, 0] rfl (by decide)), (((((((hA.nil.cons (hA.get 12 _ rfl)).cons (hA.get 11 _ rfl)).cons (hA.get 10 _ rfl)).cons (hA.get 9 _ rfl)).cons (hA.get 8 _ rfl)).cons (hA.get 3 _ rfl)).cons (hA.get 1 _ rfl))⟩
          · refine d_op (i := 10) (L' := #[fF,tT,tT,tT,tT,tT,fF,fF,fF,fF,tT,fF,fF]) rfl rfl (e_alloc (cs := (pLink.enc Link.z)) hM zero53 rfl hA (by decide) ?_)
            clear hM hA; intro w1095 g1094 hM hE  a hA
            refine ⟨fun h => absurd h (by decide), ?_⟩
            refine d_one (i := 0) (L' := #[tT,tT,tT,tT,tT,tT,fF,fF,fF,fF,tT,fF,fF]) (by kernel_rfl) rfl rfl (stv hA (by decide) (run_ld (hA.ev rfl) (run_loadW Try.isAgg41 Try.sizeOf41 (by simp [Pl.len]; try rfl) (hM.box (.s (.s .z))))) ?_)
            clear hA; intro a hA
            refine ⟨fun h => absurd h (by decide), ?_⟩
            refine d_one (i := 6) (L' := #[tT,tT,tT,tT,tT,tT,tT,fF,fF,fF,tT,fF,fF]) (by kernel_rfl) rfl rfl (st_call Try.call27 hA [(.agg (List.flatten [pHash.enc b_0.Salt, [(.slice A0_1 b_0.Heard.length c0_1)], [(.slice A0_2 b_0.Tried.length c0_2)]]).toArray), (.slice A1 anchors_1.length c1), (.slice A981 xs983.length c982), (.int .u64 (IntKind.u64.wrap r1061.1))] rfl (by decide) (connect_Choose.calls _ (Book.mk b_0.Salt b_0.Heard b_0.Tried) _ _ _ _ _ _ _ _ _ _ ((RoV.mk (hM.roC (Ms := []) hr0_1) (Eq.refl b_0.Heard.length) hc0_1)) ((RoV.mk (hM.roC (Ms := []) hr0_2) (Eq.refl b_0.Tried.length) hc0_2)) ((RoV.mk (hM.roC (Ms := []) hr1) (Eq.refl anchors_1.length) hc1)) ((hM.roV (p := pLink) (Ms := []) (.s (.s (.s .z))))) (hM.front (Ms := [])) H1065) ?_)
            clear hA; rintro _ w1096 ⟨rfl, hMc⟩ a hA
            have hE := hMc.below; have hM := hM.call (Ms := []) hMc
            clear hMc; simp only [List.cons_append, List.nil_append] at hM
            refine ⟨fun h => absurd h (by decide), ?_⟩
            refine d_takef (i := 7) (L' := #[tT,tT,tT,tT,tT,tT,tT,tT,fF,fF,tT,fF,fF]) rfl (by kernel_rfl) rfl (fun _ _ _ h => h) hA (by decide) (fun h => absurd h (by decide)) (fun a w' hA => run_move (hA.ev rfl)) ?_; clear hA; intro a hA
            refine d_takef (i := 8) (L' := #[tT,tT,tT,tT,tT,tT,tT,tT,tT,fF,tT,fF,fF]) rfl (by kernel_rfl) rfl (fun _ _ _ h => h) hA (by decide) (fun h => absurd h (by decide)) (fun a w' hA => run_ext (hA.ev rfl) rfl) ?_; clear hA; intro a hA
            refine d_takef (i := 9) (L' := #[tT,tT,tT,tT,tT,tT,tT,tT,tT,tT,tT,fF,fF]) rfl (by kernel_rfl) rfl (fun _ _ _ h => h) hA (by decide) (fun h => absurd h (by decide)) (fun a w' hA => run_ext (hA.ev rfl) rfl) ?_; clear hA; intro a hA
            refine d_one (i := 11) (L' := #[tT,tT,tT,tT,tT,tT,tT,tT,tT,tT,tT,tT,fF]) (by kernel_rfl) rfl rfl (e_store (g := g1094) (off := 0) (cur := (pLink.enc Link.z)) (cs' := (pLink.enc r1064.1)) hM .z Try.sizeOf53 hA rfl (by simp [add_mk]) rfl (agg_size _ _) (agg_one _ _) (Nat.le_of_ble_eq_true (enc_fitL _ _ rfl)) (spl_all (by first | rfl | (simp [Value.cells, Pl.len]; done) | (simp [Value.cells, Pl.len]; rfl))) ?_)
            clear hM hA; intro w1097  hM hE  a hA
            refine ⟨fun h => absurd h (by decide), ?_⟩
            refine d_takef (i := 12) (L' := #[tT,tT,tT,tT,tT,tT,tT,tT,tT,tT,tT,tT,tT]) rfl (by kernel_rfl) rfl (fun _ _ _ h => h) hA (by decide) (fun h => absurd h (by decide)) (fun a w' hA => run_assign (hA.ev rfl)) ?_; clear hA; intro a hA
            refine d_done (by kernel_rfl) ?_
            exact ⟨r1061.2.At_, r1064.1, r1064.2, g1094, Option.some.inj H1058, (hM.sel [2, 3, 1, 0] rfl (by decide)), (((((((hA.nil.cons (hA.get 12 _ rfl)).cons (hA.get 11 _ rfl)).cons (hA.get 10 _ rfl)).cons (hA.get 9 _ rfl)).cons (hA.get 8 _ rfl)).cons (hA.get 3 _ rfl)).cons (hA.get 1 _ rfl))⟩
        · refine d_op (i := 10) (L' := #[fF,tT,tT,tT,fF,fF,fF,fF,fF,fF,tT,fF,fF]) rfl rfl (e_alloc (cs := (pLink.enc Link.z)) hM zero53 rfl hA (by decide) ?_)
          clear hM hA; intro w1099 g1098 hM hE  a hA
          replace hS := hS.trans (hE.mono hS.size)
          refine ⟨fun _ => hS, ?_⟩
          refine d_many (is := [0, 4]) (by kernel_rfl) (by decide) ⟨?_, ?_, trivial⟩
          · refine d_op (i := 0) (L' := #[tT,tT,tT,tT,fF,fF,fF,fF,fF,fF,tT,fF,fF]) rfl rfl (stv hA (by decide) (run_ld (hA.ev rfl) (run_loadW Try.isAgg41 Try.sizeOf41 (by simp [Pl.len]; try rfl) (hM.box (.s .z)))) ?_)
            clear hA; intro a hA
            refine ⟨fun _ => hS, ?_⟩
            have hM := hM.sel [3, 0, 1, 2] rfl (by decide)
            refine d_one (i := 4) (L' := #[tT,tT,tT,tT,tT,fF,fF,fF,fF,fF,tT,fF,fF]) (by kernel_rfl) rfl rfl (st_call Try.call35 hA [(.pointer (some (⟨g568, 0, none⟩))), (.int .i64 1048576)] rfl (by decide) (mill_Deck_Next.calls _ (lightclientmill_Deck.mk draws_2 x985) _ _ _ _ _ _ ((RoV.mk (hM.roC (Ms := [_]) hr2) (Eq.refl draws_2.length) hc2)) (hM.front (Ms := [_])) H1062) ?_)
            clear hA; rintro _ w1100 ⟨rfl, hMc⟩ a hA
            have hM := hM.call (Ms := [_]) hMc
            clear hMc; simp only [List.cons_append, List.nil_append] at hM
            refine ⟨fun h => absurd h (by decide), ?_⟩
            refine d_takef (i := 5) (L' := #[tT,tT,tT,tT,tT,tT,fF,fF,fF,fF,tT,fF,fF]) rfl (by kernel_rfl) rfl (fun _ _ _ h => h) hA (by decide) (fun h => absurd h (by decide)) (fun a w' hA => run_conv Try.underlying3 Try.underlying22 (hA.ev rfl)) ?_; clear hA; intro a hA
            refine d_one (i := 6) (L' := #[tT,tT,tT,tT,tT,tT,tT,fF,fF,fF,tT,fF,fF]) (by kernel_rfl) rfl rfl (st_call Try.call27 hA [(.agg (List.flatten [pHash.enc b_0.Salt, [(.slice A0_1 b_0.Heard.length c0_1)], [(.slice A0_2 b_0.Tried.length c0_2)]]).toArray), (.slice A1 anchors_1.length c1), (.slice A981 xs983.length c982), (.int .u64 (IntKind.u64.wrap r1061.1))] rfl (by decide) (connect_Choose.calls _ (Book.mk b_0.Salt b_0.Heard b_0.Tried) _ _ _ _ _ _ _ _ _ _ ((RoV.mk (hM.roC (Ms := []) hr0_1) (Eq.refl b_0.Heard.length) hc0_1)) ((RoV.mk (hM.roC (Ms := []) hr0_2) (Eq.refl b_0.Tried.length) hc0_2)) ((RoV.mk (hM.roC (Ms := []) hr1) (Eq.refl anchors_1.length) hc1)) ((hM.roV (p := pLink) (Ms := []) (.s (.s (.s .z))))) (hM.front (Ms := [])) H1065) ?_)
            clear hA; rintro _ w1101 ⟨rfl, hMc⟩ a hA
            have hE := hMc.below; have hM := hM.call (Ms := []) hMc
            clear hMc; simp only [List.cons_append, List.nil_append] at hM
            refine ⟨fun h => absurd h (by decide), ?_⟩
            refine d_takef (i := 7) (L' := #[tT,tT,tT,tT,tT,tT,tT,tT,fF,fF,tT,fF,fF]) rfl (by kernel_rfl) rfl (fun _ _ _ h => h) hA (by decide) (fun h => absurd h (by decide)) (fun a w' hA => run_move (hA.ev rfl)) ?_; clear hA; intro a hA
            refine d_takef (i := 8) (L' := #[tT,tT,tT,tT,tT,tT,tT,tT,tT,fF,tT,fF,fF]) rfl (by kernel_rfl) rfl (fun _ _ _ h => h) hA (by decide) (fun h => absurd h (by decide)) (fun a w' hA => run_ext (hA.ev rfl) rfl) ?_; clear hA; intro a hA
            refine d_takef (i := 9) (L' := #[tT,tT,tT,tT,tT,tT,tT,tT,tT,tT,tT,fF,fF]) rfl (by kernel_rfl) rfl (fun _ _ _ h => h) hA (by decide) (fun h => absurd h (by decide)) (fun a w' hA => run_ext (hA.ev rfl) rfl) ?_; clear hA; intro a hA
            refine d_one (i := 11) (L' := #[tT,tT,tT,tT,tT,tT,tT,tT,tT,tT,tT,tT,fF]) (by kernel_rfl) rfl rfl (e_store (g := g1098) (off := 0) (cur := (pLink.enc Link.z)) (cs' := (pLink.enc r1064.1)) hM (.s .z) Try.sizeOf53 hA rfl (by simp [add_mk]) rfl (agg_size _ _) (agg_one _ _) (Nat.le_of_ble_eq_true (enc_fitL _ _ rfl)) (spl_all (by first | rfl | (simp [Value.cells, Pl.len]; done) | (simp [Value.cells, Pl.len]; rfl))) ?_)
            clear hM hA; intro w1102  hM hE  a hA
            refine ⟨fun h => absurd h (by decide), ?_⟩
            refine d_takef (i := 12) (L' := #[tT,tT,tT,tT,tT,tT,tT,tT,tT,tT,tT,tT,tT]) rfl (by kernel_rfl) rfl (fun _ _ _ h => h) hA (by decide) (fun h => absurd h (by decide)) (fun a w' hA => run_assign (hA.ev rfl)) ?_; clear hA; intro a hA
            refine d_done (by kernel_rfl) ?_
            exact ⟨r1061.2.At_, r1064.1, r1064.2, g1098, Option.some.inj H1058, (hM.sel [2, 3, 0, 1] rfl (by decide)), (((((((hA.nil.cons (hA.get 12 _ rfl)).cons (hA.get 11 _ rfl)).cons (hA.get 10 _ rfl)).cons (hA.get 9 _ rfl)).cons (hA.get 8 _ rfl)).cons (hA.get 3 _ rfl)).cons (hA.get 1 _ rfl))⟩
          · have hM := hM.sel [3, 0, 1, 2] rfl (by decide)
            refine d_op (i := 4) (L' := #[fF,tT,tT,tT,tT,fF,fF,fF,fF,fF,tT,fF,fF]) rfl rfl (st_call Try.call35 hA [(.pointer (some (⟨g568, 0, none⟩))), (.int .i64 1048576)] rfl (by decide) (mill_Deck_Next.calls _ (lightclientmill_Deck.mk draws_2 x985) _ _ _ _ _ _ ((RoV.mk (hM.roC (Ms := [_]) hr2) (Eq.refl draws_2.length) hc2)) (hM.front (Ms := [_])) H1062) ?_)
            clear hA; rintro _ w1103 ⟨rfl, hMc⟩ a hA
            have hM := hM.call (Ms := [_]) hMc
            clear hMc; simp only [List.cons_append, List.nil_append] at hM
            refine ⟨fun h => absurd h (by decide), ?_⟩
            refine d_takef (i := 5) (L' := #[fF,tT,tT,tT,tT,tT,fF,fF,fF,fF,tT,fF,fF]) rfl (by kernel_rfl) rfl (fun _ _ _ h => h) hA (by decide) (fun h => absurd h (by decide)) (fun a w' hA => run_conv Try.underlying3 Try.underlying22 (hA.ev rfl)) ?_; clear hA; intro a hA
            refine d_one (i := 0) (L' := #[tT,tT,tT,tT,tT,tT,fF,fF,fF,fF,tT,fF,fF]) (by kernel_rfl) rfl rfl (stv hA (by decide) (run_ld (hA.ev rfl) (run_loadW Try.isAgg41 Try.sizeOf41 (by simp [Pl.len]; try rfl) (hM.box (.s (.s .z))))) ?_)
            clear hA; intro a hA
            refine ⟨fun h => absurd h (by decide), ?_⟩
            refine d_one (i := 6) (L' := #[tT,tT,tT,tT,tT,tT,tT,fF,fF,fF,tT,fF,fF]) (by kernel_rfl) rfl rfl (st_call Try.call27 hA [(.agg (List.flatten [pHash.enc b_0.Salt, [(.slice A0_1 b_0.Heard.length c0_1)], [(.slice A0_2 b_0.Tried.length c0_2)]]).toArray), (.slice A1 anchors_1.length c1), (.slice A981 xs983.length c982), (.int .u64 (IntKind.u64.wrap r1061.1))] rfl (by decide) (connect_Choose.calls _ (Book.mk b_0.Salt b_0.Heard b_0.Tried) _ _ _ _ _ _ _ _ _ _ ((RoV.mk (hM.roC (Ms := []) hr0_1) (Eq.refl b_0.Heard.length) hc0_1)) ((RoV.mk (hM.roC (Ms := []) hr0_2) (Eq.refl b_0.Tried.length) hc0_2)) ((RoV.mk (hM.roC (Ms := []) hr1) (Eq.refl anchors_1.length) hc1)) ((hM.roV (p := pLink) (Ms := []) (.s (.s (.s .z))))) (hM.front (Ms := [])) H1065) ?_)
            clear hA; rintro _ w1104 ⟨rfl, hMc⟩ a hA
            have hE := hMc.below; have hM := hM.call (Ms := []) hMc
            clear hMc; simp only [List.cons_append, List.nil_append] at hM
            refine ⟨fun h => absurd h (by decide), ?_⟩
            refine d_takef (i := 7) (L' := #[tT,tT,tT,tT,tT,tT,tT,tT,fF,fF,tT,fF,fF]) rfl (by kernel_rfl) rfl (fun _ _ _ h => h) hA (by decide) (fun h => absurd h (by decide)) (fun a w' hA => run_move (hA.ev rfl)) ?_; clear hA; intro a hA
            refine d_takef (i := 8) (L' := #[tT,tT,tT,tT,tT,tT,tT,tT,tT,fF,tT,fF,fF]) rfl (by kernel_rfl) rfl (fun _ _ _ h => h) hA (by decide) (fun h => absurd h (by decide)) (fun a w' hA => run_ext (hA.ev rfl) rfl) ?_; clear hA; intro a hA
            refine d_takef (i := 9) (L' := #[tT,tT,tT,tT,tT,tT,tT,tT,tT,tT,tT,fF,fF]) rfl (by kernel_rfl) rfl (fun _ _ _ h => h) hA (by decide) (fun h => absurd h (by decide)) (fun a w' hA => run_ext (hA.ev rfl) rfl) ?_; clear hA; intro a hA
            refine d_one (i := 11) (L' := #[tT,tT,tT,tT,tT,tT,tT,tT,tT,tT,tT,tT,fF]) (by kernel_rfl) rfl rfl (e_store (g := g1098) (off := 0) (cur := (pLink.enc Link.z)) (cs' := (pLink.enc r1064.1)) hM (.s .z) Try.sizeOf53 hA rfl (by simp [add_mk]) rfl (agg_size _ _) (agg_one _ _) (Nat.le_of_ble_eq_true (enc_fitL _ _ rfl)) (spl_all (by first | rfl | (simp [Value.cells, Pl.len]; done) | (simp [Value.cells, Pl.len]; rfl))) ?_)
            clear hM hA; intro w1105  hM hE  a hA
            refine ⟨fun h => absurd h (by decide), ?_⟩
            refine d_takef (i := 12) (L' := #[tT,tT,tT,tT,tT,tT,tT,tT,tT,tT,tT,tT,tT]) rfl (by kernel_rfl) rfl (fun _ _ _ h => h) hA (by decide) (fun h => absurd h (by decide)) (fun a w' hA => run_assign (hA.ev rfl)) ?_; clear hA; intro a hA
            refine d_done (by kernel_rfl) ?_
            exact ⟨r1061.2.At_, r1064.1, r1064.2, g1098, Option.some.inj H1058, (hM.sel [2, 3, 0, 1] rfl (by decide)), (((((((hA.nil.cons (hA.get 12 _ rfl)).cons (hA.get 11 _ rfl)).cons (hA.get 10 _ rfl)).cons (hA.get 9 _ rfl)).cons (hA.get 8 _ rfl)).cons (hA.get 3 _ rfl)).cons (hA.get 1 _ rfl))⟩
      clear hM hA
      rintro a w1106 ⟨x1050, x1055, e1057, g1054, rfl, hM, hA⟩
      try dsimp only at H994
      refine TN ?_
      refine wp_seq ?_
      refine wp_seq ?_
      refine wp_region_lit ?_
      refine L1 (stv hA (by decide) (run_move (hA.ev rfl)) ?_)
      clear hA; intro a hA
      refine L1 (stv hA (by decide) (run_bin (hA.ev rfl) (hA.ev rfl) (bin_neq _ _ _ _)) ?_)
      clear hA; intro a hA
      refine LQ ?_
      refine TN ?_
      refine tcond (b := (e1057 != 0)) hA rfl (fun hb1107 => ?_) (fun hb1107 => ?_)
      · replace H994 := ite_t hb1107 H994
        refine wp_seq ?_
        obtain ⟨o1113, H1112, H994⟩ := Option.bind_eq_some_iff.1 H994
        refine cutC (fun a w => ∃ (t1111 : Bool), t1111 = o1113 ∧ Mem F w0 w [.row 53 pLink.sz (.slice A981 xs983.length c982) (pLink.flat xs983)] ∧ Has 51 [(6, (.slice A981 xs983.length c982)), (7, (.bool t1111))] a) ?_ ?_
        · refine wp_region_lit ?_
          refine L1 (stv hA (by decide) (run_move (hA.ev rfl)) ?_)
          clear hA; intro a hA
          refine L1 (stv hA (by decide) (run_move (hA.ev rfl)) ?_)
          clear hA; intro a hA
          refine L1 (stv hA (by decide) (run_bin (hA.ev rfl) (hA.ev rfl) (bin_eql _ _ _ _)) ?_)
          clear hA; intro a hA
          refine L1 (stv hA (by decide) (run_move (hA.ev rfl)) ?_)
          clear hA; intro a hA
          refine bsplit (b := (e1057 == 390)) (fun hb1114 => ?_) (fun hb1114 => ?_)
          · replace H1112 := ite_t hb1114 H1112
            have hA := hA.re (t := 36) rfl (congrArg Value.bool hb1114)
            refine L1 (gate_off rfl (by decide) rfl hA (by decide) rfl rfl ?_); clear hA; intro a hA
            refine L1 (gate_off rfl (by decide) rfl hA (by decide) rfl rfl ?_); clear hA; intro a hA
            refine L1 (stv hA (by decide) (run_pick (hA.ev rfl) (fun _ => hA.ev rfl) (fun h => Bool.noConfusion h)) ?_)
            clear hA; intro a hA
            refine L1 (stv hA (by decide) (run_assign (hA.ev rfl)) ?_)
            clear hA; intro a hA
            refine L1 (stv hA (by decide) (run_assign (hA.ev rfl)) ?_)
            clear hA; intro a hA
            refine LQ ?_
            exact ⟨true, Option.some.inj H1112, (hM.sel [1] rfl (by decide)), ((hA.nil.cons (hA.get 7 _ rfl)).cons (hA.get 6 _ rfl))⟩
          · replace H1112 := ite_f hb1114 H1112
            have hA := hA.re (t := 36) rfl (congrArg Value.bool hb1114)
            refine L1 (gate_on rfl rfl hA (by decide) rfl (stv hA (by decide) (run_move (hA.ev rfl)) ?_))
            clear hA; intro a hA
            refine L1 (gate_on rfl rfl hA (by decide) rfl (stv hA (by decide) (run_bin (hA.ev rfl) (hA.ev rfl) (bin_eql _ _ _ _)) ?_))
            clear hA; intro a hA
            refine L1 (stv hA (by decide) (run_pick (hA.ev rfl) (fun h => Bool.noConfusion h) (fun _ => hA.ev rfl)) ?_)
            clear hA; intro a hA
            refine L1 (stv hA (by decide) (run_assign (hA.ev rfl)) ?_)
            clear hA; intro a hA
            refine L1 (stv hA (by decide) (run_assign (hA.ev rfl)) ?_)
            clear hA; intro a hA
            refine LQ ?_
            exact ⟨(e1057 == 380), Option.some.inj H1112, (hM.sel [1] rfl (by decide)), ((hA.nil.cons (hA.get 7 _ rfl)).cons (hA.get 6 _ rfl))⟩
        clear hM hA
        rintro a w1115 ⟨t1111, rfl, hM, hA⟩
        try dsimp only at H994
        refine TN ?_
        refine wp_ret ?_
        obtain rfl := Option.some.inj H994
        dsimp only at H
        obtain rfl := Option.some.inj H
        refine TR ?_
        refine BR ?_
        refine TR ?_
        refine TR ?_
        refine BR ?_
        refine TR ?_
        refine TR ?_
        exact ret_post2 (fn := Try.f23) hA rfl rfl rfl ⟨_, rfl, (.slice A981 xs983.length c982), rfl, hM⟩
      · replace H994 := ite_f hb1107 H994
        refine wp_skip ?_
        refine TN ?_
        refine wp_seq ?_
        refine wp_region_lit ?_
        refine L1 (stv hA (by decide) (run_move (hA.ev rfl)) ?_)
        clear hA; intro a hA
        refine L1 (stv hA (by decide) (run_ld (hA.ev rfl) (run_loadP Try.isAgg53 Try.sizeOf53 (hM.box (.s (.s (.s .z)))))) ?_)
        clear hA; intro a hA
        obtain ⟨r1116, H1117, H994⟩ := Option.bind_eq_some_iff.1 H994
        refine L1 (st_call Try.call45 hA [(.slice A981 xs983.length c982), (.agg (pLink.enc x1055).toArray)] rfl (by decide) (connect_Open.calls _ _ _ _ _ _ _ ((hM.roV (p := pLink) (Ms := []) (.s .z))) (hM.front (Ms := [])) H1117) ?_)
        clear hA; rintro _ w1118 ⟨v1119, rfl, hMc⟩ a hA
        have hE := hMc.below; have hM := hM.call (Ms := []) hMc
        clear hMc; simp only [List.cons_append, List.nil_append] at hM
        obtain ⟨A1121, c1122, rfl⟩ := RowOk.form (hM.row (p := pLink) .z)
        refine L1 (stv hA (by decide) (run_move (hA.ev rfl)) ?_)
        clear hA; intro a hA
        refine L1 (stv hA (by decide) (run_ext (hA.ev rfl) rfl) ?_)
        clear hA; intro a hA
        refine L1 (stv hA (by decide) (run_ext (hA.ev rfl) rfl) ?_)
        clear hA; intro a hA
        refine L1 (stv hA (by decide) (run_assign (hA.ev rfl)) ?_)
        clear hA; intro a hA
        refine L1 (stv hA (by decide) (run_assign (hA.ev rfl)) ?_)
        clear hA; intro a hA
        refine LQ ?_
        refine TN ?_
        refine wp_seq ?_
        refine wp_seq ?_
        refine wp_region_lit ?_
        refine L1 (stv hA (by decide) (run_move (hA.ev rfl)) ?_)
        clear hA; intro a hA
        refine L1 (stv hA (by decide) (run_bin (hA.ev rfl) (hA.ev rfl) (bin_neq _ _ _ _)) ?_)
        clear hA; intro a hA
        refine LQ ?_
        refine TN ?_
        refine tcond (b := (r1116.2 != 0)) hA rfl (fun hb1123 => ?_) (fun hb1123 => ?_)
        · replace H994 := ite_t hb1123 H994
          refine wp_seq ?_
          refine wp_region_lit ?_
          refine L1 (stv hA (by decide) (run_move (hA.ev rfl)) ?_)
          clear hA; intro a hA
          refine L1 (stv hA (by decide) (run_assign (hA.ev rfl)) ?_)
          clear hA; intro a hA
          refine L1 (stv hA (by decide) (run_assign (hA.ev rfl)) ?_)
          clear hA; intro a hA
          refine LQ ?_
          refine TN ?_
          refine wp_ret ?_
          obtain rfl := Option.some.inj H994
          dsimp only at H
          obtain rfl := Option.some.inj H
          refine TR ?_
          refine BR ?_
          refine TR ?_
          refine TR ?_
          refine BR ?_
          refine TR ?_
          refine TR ?_
          exact ret_post2 (fn := Try.f23) hA rfl rfl rfl ⟨_, rfl, (.slice A981 xs983.length c982), rfl, (hM.sel [2] rfl (by decide))⟩
        · replace H994 := ite_f hb1123 H994
          refine wp_skip ?_
          refine TN ?_
          refine wp_region_lit ?_
          refine L1 (stv hA (by decide) (run_move (hA.ev rfl)) ?_)
          clear hA; intro a hA
          refine L1 (stv hA (by decide) (run_assign (hA.ev rfl)) ?_)
          clear hA; intro a hA
          refine LQ ?_
          refine BN ?_
          refine TN ?_
          refine wp_region_lit ?_
          refine L1 (stv hA (by decide) (run_move (hA.ev rfl)) ?_)
          clear hA; intro a hA
          refine L1 (stv hA (by decide) (run_bin (hA.ev rfl) (hA.ev rfl) (bin_add _ _ _ _)) ?_)
          clear hA; intro a hA
          refine L1 (stv hA (by decide) (run_assign (hA.ev rfl)) ?_)
          clear hA; intro a hA
          refine LQ ?_
          exact ⟨_, Nat.lt_succ_self m997, r1116.1, x1050, IntKind.i64.wrap (t987 + 1), (.slice A1121 r1116.1.length c1122), H994, (hM.sel [1, 0, 3] rfl (by decide)), (((((hA.nil.cons (hA.get 10 _ rfl)).cons (hA.get 9 _ rfl)).cons (hA.get 8 _ rfl)).cons (hA.get 3 _ rfl)).cons (hA.get 1 _ rfl))⟩
    · replace H994 := ite_f hb999 H994
      refine wp_exit ?_
      refine TX ?_
      refine TX ?_
      refine BX ?_
      exact ⟨xs983, (.slice A981 xs983.length c982), Option.some.inj H994, (hM.sel [1] rfl (by decide)), (hA.nil.cons (hA.get 8 _ rfl))⟩
  clear hM hA
  rintro a w1124 ⟨xs993, v990, rfl, hM, hA⟩
  try dsimp only at H
  obtain ⟨A991, c992, rfl⟩ := RowOk.form (hM.row (p := pLink) .z)
  refine TN ?_
  refine wp_seq ?_
  refine wp_region_lit ?_
  refine L1 (stv hA (by decide) (run_move (hA.ev rfl)) ?_)
  clear hA; intro a hA
  refine L1 (stv hA (by decide) (run_assign (hA.ev rfl)) ?_)
  clear hA; intro a hA
  refine L1 (stv hA (by decide) (run_assign (hA.ev rfl)) ?_)
  clear hA; intro a hA
  refine LQ ?_
  refine TN ?_
  refine wp_ret ?_
  obtain rfl := Option.some.inj H
  exact ret_post2 (fn := Try.f23) hA rfl rfl rfl ⟨_, rfl, (.slice A991 xs993.length c992), rfl, hM⟩

def law39_ConnectSpreads.l1 (r796 : ((List Link) × Bool)) (t1309 : Int) : Nat → Int → Option (Out Bool (Unit))
  | 0, _ => none
  | k + 1, t1429 => (if (decide (t1429 < ((t1309.toNat : Nat) : Int))) = true then (if 0 ≤ t1429 ∧ t1429 < ((t1309.toNat : Nat) : Int) then ((addrbook_Group.f k ((r796.1.getD t1309.toNat Link.z).Addr_)).bind fun r1453 => ((addrbook_Group.f k (((r796.1.take t1309.toNat).getD t1429.toNat Link.z).Addr_)).bind fun r1456 => (if (r1453 == r1456) = true then (some (.ret false)) else (law39_ConnectSpreads.l1 r796 t1309 k (IntKind.i64.wrap (t1429 + 1)))))) else none) else (some (.go ())))
def law39_ConnectSpreads.l0 (r796 : ((List Link) × Bool)) : Nat → Int → Int → Option (Out Bool (Int))
  | 0, _, _ => none
  | k + 1, feelers1305, t1309 => (if (decide (t1309 < ((r796.1.length : Nat) : Int))) = true then (if 0 ≤ t1309 ∧ t1309 < ((r796.1.length : Nat) : Int) then (if 0 ≤ t1309 ∧ t1309 ≤ ((r796.1.length : Nat) : Int) then (Option.bind (α := Out Bool (Unit)) (law39_ConnectSpreads.l1 r796 t1309 k 0) (fun o => match o with | .ret r => some (.ret r) | .go _ => (Option.bind (α := Int) (if (((r796.1.getD t1309.toNat Link.z).Kind) == 3) = true then (some (IntKind.i64.wrap (feelers1305 + 1))) else (some feelers1305)) (fun feelers1465 => (law39_ConnectSpreads.l0 r796 k feelers1465 (IntKind.i64.wrap (t1309 + 1))))))) else none) else none) else (some (.go feelers1305)))
def law39_ConnectSpreads.f (k : Nat) (l_0 : (List Int)) (draws_1 : (List Int)) : Option Bool := ((law39_sane.f k ).bind fun r763 => (if (!r763) = true then (some false) else ((mill_New.f k l_0).bind fun r767 => ((mill_Book.f k (lightclientmill_Deck.mk l_0 r767.At_)).bind fun r772 => ((mill_Addr.f k (lightclientmill_Deck.mk l_0 r772.2.At_)).bind fun r787 => ((mill_Addr.f k (lightclientmill_Deck.mk l_0 r787.2.At_)).bind fun r790 => ((law39_grow.f k (Book.mk r772.1.Salt r772.1.Heard r772.1.Tried) [r787.1, r790.1] draws_1).bind fun r796 => (Option.bind (α := Bool) (if (!r796.2) = true then (some true) else (if (decide (((r796.1.length : Nat) : Int) > 8)) = true then (some true) else (some (((r796.1.length : Nat) : Int) == 0)))) (fun t808 => (if t808 = true then (some false) else (Option.bind (α := Out Bool (Int)) (law39_ConnectSpreads.l0 r796 k 0 0) (fun o => match o with | .ret r => some r | .go feelers1313 => (Option.bind (α := Bool) (if (decide (feelers1313 ≤ 1)) = true then (if 0 ≤ (0 : Int) ∧ (0 : Int) < ((r796.1.length : Nat) : Int) then (if (((r796.1.getD (0 : Int).toNat Link.z).Kind) == 1) = true then (if 0 ≤ (0 : Int) ∧ (0 : Int) < ((r796.1.length : Nat) : Int) then (if 0 ≤ (0 : Int) ∧ (0 : Int) < ((2 : Nat) : Int) then (if (((r796.1.getD (0 : Int).toNat Link.z).Addr_) == ([r787.1, r790.1].getD (0 : Int).toNat NAddr.z)) = true then ((connect_Sound.f k r796.1).bind fun r1521 => (some r1521)) else (some false)) else none) else none) else (some false)) else none) else (some false)) (fun t1498 => (some t1498)))))))))))))))
set_option maxHeartbeats 2000000 in
set_option maxRecDepth 100000 in
theorem law39_ConnectSpreads.calls (k : Nat) (l_0 : (List Int)) (draws_1 : (List Int)) (F : List (Option Nat)) (v0 : Value) (v1 : Value) (r : Bool) (w0 : World) (h0 : RoV F (Pl.int .i64) w0 v0 l_0) (h1 : RoV F (Pl.int .i64) w0 v1 draws_1) (hM : Mem F w0 w0 []) (H : law39_ConnectSpreads.f k l_0 draws_1 = some r) :
    Calls Try.prog 7 #[v0, v1] w0 fun e w' => ∃ v, e = .returned v ∧ v = (.bool r) ∧ Mem F w0 w' [] := by
  unfold law39_ConnectSpreads.f at H
  obtain ⟨A0, c0, rfl, hr0, hc0⟩ := h0
  obtain ⟨A1, c1, rfl, hr1, hc1⟩ := h1
  refine enterL (n := 97) [(.slice A0 l_0.length c0), (.slice A1 draws_1.length c1)] Try.func7 rfl rfl rfl ?_
  intro a hA
  refine wp_seq ?_
  refine wp_region_lit ?_
  refine L1 (stv hA (by decide) (run_assign (hA.ev rfl)) ?_)
  clear hA; intro a hA
  refine LQ ?_
  refine TN ?_
  refine wp_seq ?_
  refine wp_seq ?_
  refine wp_region_lit ?_
  obtain ⟨r763, H764, H⟩ := Option.bind_eq_some_iff.1 H
  refine L1 (st_call Try.call19 hA [] rfl (by decide) (law39_sane.calls _ _ _ _ (hM.front (Ms := [])) H764) ?_)
  clear hA; rintro _ w765 ⟨rfl, hMc⟩ a hA
  have hE := hMc.below; have hM := hM.call (Ms := []) hMc
  clear hMc; simp only [List.cons_append, List.nil_append] at hM
  refine L1 (stv hA (by decide) (run_not (hA.ev rfl)) ?_)
  clear hA; intro a hA
  refine LQ ?_
  refine TN ?_
  refine tcond (b := (!r763)) hA rfl (fun hb766 => ?_) (fun hb766 => ?_)
  · replace H := ite_t hb766 H
    refine wp_seq ?_
    refine wp_region_lit ?_
    refine L1 (stv hA (by decide) (run_assign (hA.ev rfl)) ?_)
    clear hA; intro a hA
    refine LQ ?_
    refine TN ?_
    refine wp_ret ?_
    obtain rfl := Option.some.inj H
    refine TR ?_
    exact ret_post1 (fn := Try.f7) hA rfl rfl ⟨_, rfl, rfl, hM⟩
  · replace H := ite_f hb766 H
    refine wp_skip ?_
    refine TN ?_
    refine wp_seq ?_
    refine wp_region_lit ?_
    refine L1 (stv hA (by decide) (run_move (hA.ev rfl)) ?_)
    clear hA; intro a hA
    obtain ⟨r767, H768, H⟩ := Option.bind_eq_some_iff.1 H
    refine L1 (st_call Try.call20 hA [(.slice A0 l_0.length c0)] rfl (by decide) (mill_New.calls _ _ _ _ _ _ ((RoV.mk (hM.roC (Ms := []) hr0) (Eq.refl l_0.length) hc0)) (hM.front (Ms := [])) H768) ?_)
    clear hA; rintro _ w769 ⟨g770, rfl, hMc⟩ a hA
    have hE := hMc.below; have hM := hM.call (Ms := []) hMc
    clear hMc; simp only [List.cons_append, List.nil_append] at hM
    refine L1 (stv hA (by decide) (run_assign (hA.ev rfl)) ?_)
    clear hA; intro a hA
    refine LQ ?_
    refine TN ?_
    refine wp_seq ?_
    refine wp_region_lit ?_
    refine L1 (stv hA (by decide) (run_move (hA.ev rfl)) ?_)
    clear hA; intro a hA
    obtain ⟨r772, H773, H⟩ := Option.bind_eq_some_iff.1 H
    refine L1 (st_call Try.call21 hA [(.pointer (some (⟨g770, 0, none⟩)))] rfl (by decide) (mill_Book.calls _ (lightclientmill_Deck.mk l_0 r767.At_) _ _ _ _ _ ((RoV.mk (hM.roC (Ms := [_]) hr0) (Eq.refl l_0.length) hc0)) (hM.front (Ms := [_])) H773) ?_)
    clear hA; rintro _ w774 ⟨v775, v776, rfl, hMc⟩ a hA
    have hM := hM.call (Ms := [_]) hMc
    clear hMc; simp only [List.cons_append, List.nil_append] at hM
    obtain ⟨A778, c779, rfl⟩ := RowOk.form (hM.row (p := pPlace) (.s .z))
    obtain ⟨A781, c782, rfl⟩ := RowOk.form (hM.row (p := pPlace) (.s (.s .z)))
    refine L1 (e_alloc (cs := (List.flatten [pHash.enc (Vector.replicate 32 0 : Vector Int 32), [(.slice none 0 0)], [(.slice none 0 0)]])) hM zero41 rfl hA (by decide) ?_)
    clear hM hA; intro w784 g783 hM hE  a hA
    refine L1 (e_store (g := g783) (off := 0) (cur := (List.flatten [pHash.enc (Vector.replicate 32 0 : Vector Int 32), [(.slice none 0 0)], [(.slice none 0 0)]])) (cs' := (List.flatten [pHash.enc r772.1.Salt, [(.slice A778 r772.1.Heard.length c779)], [(.slice A781 r772.1.Tried.length c782)]])) hM .z Try.sizeOf41 hA rfl (by simp [add_mk]) rfl (by first | rfl | (simp [Value.cells, Pl.len]; done) | (simp [Value.cells, Pl.len]; rfl)) (one_flat (one_cons (Pl.one _ _) (one_cons (by simp [Value.oneCell']) (one_cons (by simp [Value.oneCell']) one_nil)))) (by first | exact Nat.le_of_ble_eq_true rfl | (simp [Pl.len]; done) | (simp [Pl.len]; decide)) (spl_all (by first | rfl | (simp [Value.cells, Pl.len]; done) | (simp [Value.cells, Pl.len]; rfl))) ?_)
    clear hM hA; intro w786  hM hE  a hA
    refine LQ ?_
    refine TN ?_
    refine wp_seq ?_
    refine wp_region_lit ?_
    refine L1 (stv hA (by decide) (run_move (hA.ev rfl)) ?_)
    clear hA; intro a hA
    have hM := hM.sel [1, 0, 2, 3] rfl (by decide)
    obtain ⟨r787, H788, H⟩ := Option.bind_eq_some_iff.1 H
    refine L1 (st_call Try.call22 hA [(.pointer (some (⟨g770, 0, none⟩)))] rfl (by decide) (mill_Addr.calls _ (lightclientmill_Deck.mk l_0 r772.2.At_) _ _ _ _ _ ((RoV.mk (hM.roC (Ms := [_]) hr0) (Eq.refl l_0.length) hc0)) (hM.front (Ms := [_])) H788) ?_)
    clear hA; rintro _ w789 ⟨rfl, hMc⟩ a hA
    have hM := hM.call (Ms := [_]) hMc
    clear hMc; simp only [List.cons_append, List.nil_append] at hM
    refine L1 (stv hA (by decide) (run_move (hA.ev rfl)) ?_)
    clear hA; intro a hA
    obtain ⟨r790, H791, H⟩ := Option.bind_eq_some_iff.1 H
    refine L1 (st_call Try.call22 hA [(.pointer (some (⟨g770, 0, none⟩)))] rfl (by decide) (mill_Addr.calls _ (lightclientmill_Deck.mk l_0 r787.2.At_) _ _ _ _ _ ((RoV.mk (hM.roC (Ms := [_]) hr0) (Eq.refl l_0.length) hc0)) (hM.front (Ms := [_])) H791) ?_)
    clear hA; rintro _ w792 ⟨rfl, hMc⟩ a hA
    have hM := hM.call (Ms := [_]) hMc
    clear hMc; simp only [List.cons_append, List.nil_append] at hM
    refine L1 (e_litN [r787.1, r790.1] [(.agg (pNAddr.enc r787.1).toArray), (.agg (pNAddr.enc r790.1).toArray)] elt48 hM rfl (by decide) hA rfl rfl (List.cons_ne_nil _ _) (by decide) ?_)
    clear hM hA; intro w794 g793 hM hE  a hA
    refine L1 (stv hA (by decide) (run_assign (hA.ev rfl)) ?_)
    clear hA; intro a hA
    refine LQ ?_
    refine TN ?_
    refine wp_seq ?_
    refine wp_region_lit ?_
    refine L1 (stv hA (by decide) (run_ld (hA.ev rfl) (run_loadW Try.isAgg41 Try.sizeOf41 (by simp [Pl.len]; try rfl) (hM.box (.s (.s .z))))) ?_)
    clear hA; intro a hA
    refine L1 (stv hA (by decide) (run_move (hA.ev rfl)) ?_)
    clear hA; intro a hA
    refine L1 (stv hA (by decide) (run_move (hA.ev rfl)) ?_)
    clear hA; intro a hA
    obtain ⟨r796, H797, H⟩ := Option.bind_eq_some_iff.1 H
    refine L1 (st_call Try.call23 hA [(.agg (List.flatten [pHash.enc r772.1.Salt, [(.slice A778 r772.1.Heard.length c779)], [(.slice A781 r772.1.Tried.length c782)]]).toArray), (.slice (some ⟨g793, 0, none⟩) 2 2), (.slice A1 draws_1.length c1)] rfl (by decide) (law39_grow.calls _ (Book.mk r772.1.Salt r772.1.Heard r772.1.Tried) _ _ _ _ _ _ _ _ _ ((hM.roV (p := pPlace) (Ms := []) (.s (.s (.s .z))))) ((hM.roV (p := pPlace) (Ms := []) (.s (.s (.s (.s .z)))))) ((hM.roV (p := pNAddr) (Ms := []) .z)) ((RoV.mk (hM.roC (Ms := []) hr1) (Eq.refl draws_1.length) hc1)) (hM.front (Ms := [])) H797) ?_)
    clear hA; rintro _ w798 ⟨v799, rfl, hMc⟩ a hA
    have hE := hMc.below; have hM := hM.call (Ms := []) hMc
    clear hMc; simp only [List.cons_append, List.nil_append] at hM
    obtain ⟨A801, c802, rfl⟩ := RowOk.form (hM.row (p := pLink) .z)
    refine L1 (stv hA (by decide) (run_move (hA.ev rfl)) ?_)
    clear hA; intro a hA
    refine L1 (stv hA (by decide) (run_ext (hA.ev rfl) rfl) ?_)
    clear hA; intro a hA
    refine L1 (stv hA (by decide) (run_ext (hA.ev rfl) rfl) ?_)
    clear hA; intro a hA
    refine L1 (stv hA (by decide) (run_assign (hA.ev rfl)) ?_)
    clear hA; intro a hA
    refine L1 (stv hA (by decide) (run_assign (hA.ev rfl)) ?_)
    clear hA; intro a hA
    refine LQ ?_
    refine TN ?_
    refine wp_seq ?_
    refine wp_seq ?_
    obtain ⟨o810, H809, H⟩ := Option.bind_eq_some_iff.1 H
    refine cutC (fun a w => ∃ (t808 : Bool), t808 = o810 ∧ Mem F w0 w [.row 46 pNAddr.sz (.slice (some ⟨g793, 0, none⟩) 2 2) (pNAddr.flat [r787.1, r790.1]), .row 53 pLink.sz (.slice A801 r796.1.length c802) (pLink.flat r796.1)] ∧ Has 97 [(7, (.slice (some ⟨g793, 0, none⟩) 2 2)), (8, (.slice A801 r796.1.length c802)), (44, (.bool t808))] a) ?_ ?_
    · refine wp_region_lit ?_
      refine L1 (stv hA (by decide) (run_move (hA.ev rfl)) ?_)
      clear hA; intro a hA
      refine L1 (stv hA (by decide) (run_not (hA.ev rfl)) ?_)
      clear hA; intro a hA
      refine L1 (stv hA (by decide) (run_move (hA.ev rfl)) ?_)
      clear hA; intro a hA
      refine bsplit (b := (!r796.2)) (fun hb811 => ?_) (fun hb811 => ?_)
      · replace H809 := ite_t hb811 H809
        have hA := hA.re (t := 35) rfl (congrArg Value.bool hb811)
        refine L1 (gate_off rfl (by decide) rfl hA (by decide) rfl rfl ?_); clear hA; intro a hA
        refine L1 (gate_off rfl (by decide) rfl hA (by decide) rfl rfl ?_); clear hA; intro a hA
        refine L1 (gate_off rfl (by decide) rfl hA (by decide) rfl rfl ?_); clear hA; intro a hA
        refine L1 (stv hA (by decide) (run_pick (hA.ev rfl) (fun _ => hA.ev rfl) (fun h => Bool.noConfusion h)) ?_)
        clear hA; intro a hA
        refine L1 (stv hA (by decide) (run_move (hA.ev rfl)) ?_)
        clear hA; intro a hA
        refine L1 (gate_off rfl (by decide) rfl hA (by decide) rfl rfl ?_); clear hA; intro a hA
        refine L1 (gate_off rfl (by decide) rfl hA (by decide) rfl rfl ?_); clear hA; intro a hA
        refine L1 (gate_off rfl (by decide) rfl hA (by decide) rfl rfl ?_); clear hA; intro a hA
        refine L1 (stv hA (by decide) (run_pick (hA.ev rfl) (fun _ => hA.ev rfl) (fun h => Bool.noConfusion h)) ?_)
        clear hA; intro a hA
        refine LQ ?_
        exact ⟨true, Option.some.inj H809, (hM.sel [1, 0] rfl (by decide)), (((hA.nil.cons (hA.get 44 _ rfl)).cons (hA.get 8 _ rfl)).cons (hA.get 7 _ rfl))⟩
      · replace H809 := ite_f hb811 H809
        have hA := hA.re (t := 35) rfl (congrArg Value.bool hb811)
        refine L1 (gate_on rfl rfl hA (by decide) rfl (stv hA (by decide) (run_move (hA.ev rfl)) ?_))
        clear hA; intro a hA
        refine L1 (gate_on rfl rfl hA (by decide) rfl (stv hA (by decide) (run_len_slice Try.underlying49 (hA.ev rfl)) ?_))
        clear hA; intro a hA
        refine L1 (gate_on rfl rfl hA (by decide) rfl (stv hA (by decide) (run_bin (hA.ev rfl) (hA.ev rfl) (bin_gtr _ _ _ _)) ?_))
        clear hA; intro a hA
        refine L1 (stv hA (by decide) (run_pick (hA.ev rfl) (fun h => Bool.noConfusion h) (fun _ => hA.ev rfl)) ?_)
        clear hA; intro a hA
        refine L1 (stv hA (by decide) (run_move (hA.ev rfl)) ?_)
        clear hA; intro a hA
        refine bsplit (b := (decide (((r796.1.length : Nat) : Int) > 8))) (fun hb812 => ?_) (fun hb812 => ?_)
        · replace H809 := ite_t hb812 H809
          have hA := hA.re (t := 40) rfl (congrArg Value.bool hb812)
          refine L1 (gate_off rfl (by decide) rfl hA (by decide) rfl rfl ?_); clear hA; intro a hA
          refine L1 (gate_off rfl (by decide) rfl hA (by decide) rfl rfl ?_); clear hA; intro a hA
          refine L1 (gate_off rfl (by decide) rfl hA (by decide) rfl rfl ?_); clear hA; intro a hA
          refine L1 (stv hA (by decide) (run_pick (hA.ev rfl) (fun _ => hA.ev rfl) (fun h => Bool.noConfusion h)) ?_)
          clear hA; intro a hA
          refine LQ ?_
          exact ⟨true, Option.some.inj H809, (hM.sel [1, 0] rfl (by decide)), (((hA.nil.cons (hA.get 44 _ rfl)).cons (hA.get 8 _ rfl)).cons (hA.get 7 _ rfl))⟩
        · replace H809 := ite_f hb812 H809
          have hA := hA.re (t := 40) rfl (congrArg Value.bool hb812)
          refine L1 (gate_on rfl rfl hA (by decide) rfl (stv hA (by decide) (run_move (hA.ev rfl)) ?_))
          clear hA; intro a hA
          refine L1 (gate_on rfl rfl hA (by decide) rfl (stv hA (by decide) (run_len_slice Try.underlying49 (hA.ev rfl)) ?_))
          clear hA; intro a hA
          refine L1 (gate_on rfl rfl hA (by decide) rfl (stv hA (by decide) (run_bin (hA.ev rfl) (hA.ev rfl) (bin_eql _ _ _ _)) ?_))
          clear hA; intro a hA
          refine L1 (stv hA (by decide) (run_pick (hA.ev rfl) (fun h => Bool.noConfusion h) (fun _ => hA.ev rfl)) ?_)
          clear hA; intro a hA
          refine LQ ?_
          exact ⟨(((r796.1.length : Nat) : Int) == 0), Option.some.inj H809, (hM.sel [1, 0] rfl (by decide)), (((hA.nil.cons (hA.get 44 _ rfl)).cons (hA.get 8 _ rfl)).cons (hA.get 7 _ rfl))⟩
    clear hM hA
    rintro a w813 ⟨t808, rfl, hM, hA⟩
    try dsimp only at H
    refine TN ?_
    refine tcond (b := t808) hA rfl (fun hb814 => ?_) (fun hb814 => ?_)
    · replace H := ite_t hb814 H
      refine wp_seq ?_
      refine wp_region_lit ?_
      refine L1 (stv hA (by decide) (run_assign (hA.ev rfl)) ?_)
      clear hA; intro a hA
      refine LQ ?_
      refine TN ?_
      refine wp_ret ?_
      obtain rfl := Option.some.inj H
      refine TR ?_
      exact ret_post1 (fn := Try.f7) hA rfl rfl ⟨_, rfl, rfl, (hM.sel [] rfl (by decide))⟩
    · replace H := ite_f hb814 H
      refine wp_skip ?_
      refine TN ?_
      refine wp_seq ?_
      refine wp_region_lit ?_
      refine L1 (stv hA (by decide) (run_assign (hA.ev rfl)) ?_)
      clear hA; intro a hA
      refine LQ ?_
      refine TN ?_
      refine wp_seq ?_
      refine wp_seq ?_
      refine wp_region_lit ?_
      refine L1 (stv hA (by decide) (run_move (hA.ev rfl)) ?_)
      clear hA; intro a hA
      refine L1 (stv hA (by decide) (run_len_slice Try.underlying49 (hA.ev rfl)) ?_)
      clear hA; intro a hA
      refine L1 (stv hA (by decide) (run_move (hA.ev rfl)) ?_)
      clear hA; intro a hA
      refine LQ ?_
      refine TN ?_
      obtain ⟨o1315, H1314, H⟩ := Option.bind_eq_some_iff.1 H
      refine cutC (fun a w => ∃ (feelers1313 : Int), (.go feelers1313) = o1315 ∧ Mem F w0 w [.row 46 pNAddr.sz (.slice (some ⟨g793, 0, none⟩) 2 2) (pNAddr.flat [r787.1, r790.1]), .row 53 pLink.sz (.slice A801 r796.1.length c802) (pLink.flat r796.1)] ∧ Has 97 [(7, (.slice (some ⟨g793, 0, none⟩) 2 2)), (8, (.slice A801 r796.1.length c802)), (10, (.int .i64 feelers1313))] a) ?_ ?_
      · refine wp_block ?_
        refine wp_loop_ghost (fun m a w => ∃ (feelers1305 : Int) (t1309 : Int), law39_ConnectSpreads.l0 r796 m feelers1305 t1309 = some o1315 ∧ Mem F w0 w [.row 46 pNAddr.sz (.slice (some ⟨g793, 0, none⟩) 2 2) (pNAddr.flat [r787.1, r790.1]), .row 53 pLink.sz (.slice A801 r796.1.length c802) (pLink.flat r796.1)] ∧ Has 97 [(7, (.slice (some ⟨g793, 0, none⟩) 2 2)), (8, (.slice A801 r796.1.length c802)), (10, (.int .i64 feelers1305)), (45, (.slice A801 r796.1.length c802)), (46, (.int .i64 ((r796.1.length : Nat) : Int))), (47, (.int .i64 t1309))] a) k ⟨0, 0, H1314, hM, ((((((hA.nil.cons (hA.get 47 _ rfl)).cons (hA.get 46 _ rfl)).cons (hA.get 45 _ rfl)).cons (hA.get 10 _ rfl)).cons (hA.get 8 _ rfl)).cons (hA.get 7 _ rfl))⟩ ?_
        clear hM hA; rintro m1316 a w1317 ⟨feelers1305, t1309, H1314, hM, hA⟩
        cases m1316 with
        | zero => exact absurd H1314 (by simp [law39_ConnectSpreads.l0])
        | succ m1316 =>
        rw [law39_ConnectSpreads.l0] at H1314
        refine wp_seq ?_
        refine wp_region_lit ?_
        refine L1 (stv hA (by decide) (run_bin (hA.ev rfl) (hA.ev rfl) (bin_lss _ _ _ _)) ?_)
        clear hA; intro a hA
        refine LQ ?_
        refine TN ?_
        refine wp_seq ?_
        refine tcond (b := (decide (t1309 < ((r796.1.length : Nat) : Int)))) hA rfl (fun hb1318 => ?_) (fun hb1318 => ?_)
        · replace H1314 := ite_t hb1318 H1314
          refine wp_skip ?_
          refine TN ?_
          refine wp_seq ?_
          refine wp_block ?_
          refine wp_seq ?_
          refine wp_region_lit ?_
          refine L1 (stv hA (by decide) (run_move (hA.ev rfl)) ?_)
          clear hA; intro a hA
          obtain ⟨⟨hi1319, hj1320⟩, H1314⟩ := ite_some H1314
          obtain ⟨ad1321, hq1322, hat1323⟩ := Row.elem' (p := pLink) (RowOk.row (hM.row (p := pLink) (.s .z))) (RowOk.len (hM.row (p := pLink) (.s .z))) Link.z t1309 hi1319 hj1320
          refine L1 (stv hA (by decide) (run_idx Try.underlying49 Try.sizeOf53 (hA.ev rfl) hq1322 (hA.ev rfl) hi1319 hj1320) ?_)
          clear hA; intro a hA
          refine L1 (stv hA (by decide) (run_ld (hA.ev rfl) (run_loadP Try.isAgg53 Try.sizeOf53 hat1323)) ?_)
          clear hA; intro a hA
          refine L1 (e_alloc (cs := (pLink.enc Link.z)) hM zero53 rfl hA (by decide) ?_)
          clear hM hA; intro w1325 g1324 hM hE  a hA
          refine L1 (stv hA (by decide) (run_assign (hA.ev rfl)) ?_)
          clear hA; intro a hA
          refine L1 (e_store (g := g1324) (off := 0) (cur := (pLink.enc Link.z)) (cs' := (pLink.enc (r796.1.getD t1309.toNat Link.z))) hM .z Try.sizeOf53 hA rfl (by simp [add_mk]) rfl (agg_size _ _) (agg_one _ _) (Nat.le_of_ble_eq_true (enc_fitL _ _ rfl)) (spl_all (by first | rfl | (simp [Value.cells, Pl.len]; done) | (simp [Value.cells, Pl.len]; rfl))) ?_)
          clear hM hA; intro w1327  hM hE  a hA
          refine LQ ?_
          refine TN ?_
          refine wp_seq ?_
          refine wp_seq ?_
          refine wp_region_lit ?_
          refine L1 (stv hA (by decide) (run_move (hA.ev rfl)) ?_)
          clear hA; intro a hA
          refine L1 (stv hA (by decide) (run_move (hA.ev rfl)) ?_)
          clear hA; intro a hA
          obtain ⟨⟨hi1328, hj1329⟩, H1314⟩ := ite_some H1314
          refine L1 (stv hA (by decide) (run_hi Try.underlying49 Try.sizeOf53 (RowOk.cap (hM.row (p := pLink) (.s (.s .z)))) hi1328 hj1329 (hA.ev rfl) (hA.ev rfl)) ?_)
          clear hA; intro a hA
          refine L1 (stv hA (by decide) (run_len_slice Try.underlying49 (hA.ev rfl)) ?_)
          clear hA; intro a hA
          refine L1 (stv hA (by decide) (run_move (hA.ev rfl)) ?_)
          clear hA; intro a hA
          refine LQ ?_
          refine TN ?_
          obtain ⟨o1438, H1437, H1314⟩ := Option.bind_eq_some_iff.1 H1314
          refine cutC (fun a w => (.go ()) = o1438 ∧ Mem F w0 w [.row 46 pNAddr.sz (.slice (some ⟨g793, 0, none⟩) 2 2) (pNAddr.flat [r787.1, r790.1]), .row 53 pLink.sz (.slice A801 r796.1.length c802) (pLink.flat r796.1), .box g1324 53 (pLink.enc (r796.1.getD t1309.toNat Link.z))] ∧ Has 97 [(7, (.slice (some ⟨g793, 0, none⟩) 2 2)), (8, (.slice A801 r796.1.length c802)), (10, (.int .i64 feelers1305)), (12, (.pointer (some (⟨g1324, 0, none⟩)))), (45, (.slice A801 r796.1.length c802)), (46, (.int .i64 ((r796.1.length : Nat) : Int))), (47, (.int .i64 t1309))] a) ?_ ?_
          · refine wp_block ?_
            refine wp_loop_ghost (fun m a w => ∃ (t1429 : Int), law39_ConnectSpreads.l1 r796 t1309 m t1429 = some o1438 ∧ Mem F w0 w [.row 46 pNAddr.sz (.slice (some ⟨g793, 0, none⟩) 2 2) (pNAddr.flat [r787.1, r790.1]), .row 53 pLink.sz (.slice A801 r796.1.length c802) (pLink.flat r796.1), .box g1324 53 (pLink.enc (r796.1.getD t1309.toNat Link.z))] ∧ Has 97 [(7, (.slice (some ⟨g793, 0, none⟩) 2 2)), (8, (.slice A801 r796.1.length c802)), (10, (.int .i64 feelers1305)), (12, (.pointer (some (⟨g1324, 0, none⟩)))), (45, (.slice A801 r796.1.length c802)), (46, (.int .i64 ((r796.1.length : Nat) : Int))), (47, (.int .i64 t1309)), (54, (.slice A801 t1309.toNat c802)), (55, (.int .i64 ((t1309.toNat : Nat) : Int))), (56, (.int .i64 t1429))] a) m1316 ⟨0, H1437, (hM.sel [1, 2, 0] rfl (by decide)), ((((((((((hA.nil.cons (hA.get 56 _ rfl)).cons (hA.get 55 _ rfl)).cons (hA.get 54 _ rfl)).cons (hA.get 47 _ rfl)).cons (hA.get 46 _ rfl)).cons (hA.get 45 _ rfl)).cons (hA.get 12 _ rfl)).cons (hA.get 10 _ rfl)).cons (hA.get 8 _ rfl)).cons (hA.get 7 _ rfl))⟩ ?_
            clear hM hA; rintro m1439 a w1440 ⟨t1429, H1437, hM, hA⟩
            cases m1439 with
            | zero => exact absurd H1437 (by simp [law39_ConnectSpreads.l1])
            | succ m1439 =>
            rw [law39_ConnectSpreads.l1] at H1437
            refine wp_seq ?_
            refine wp_region_lit ?_
            refine L1 (stv hA (by decide) (run_bin (hA.ev rfl) (hA.ev rfl) (bin_lss _ _ _ _)) ?_)
            clear hA; intro a hA
            refine LQ ?_
            refine TN ?_
            refine wp_seq ?_
            refine tcond (b := (decide (t1429 < ((t1309.toNat : Nat) : Int)))) hA rfl (fun hb1441 => ?_) (fun hb1441 => ?_)
            · replace H1437 := ite_t hb1441 H1437
              refine wp_skip ?_
              refine TN ?_
              refine wp_seq ?_
              refine wp_block ?_
              refine wp_seq ?_
              refine wp_region_lit ?_
              obtain ⟨⟨hi1442, hj1443⟩, H1437⟩ := ite_some H1437
              obtain ⟨ad1444, hq1445, hat1446⟩ := Row.elem' (p := pLink) (Row.take (RowOk.row (hM.row (p := pLink) (.s .z))) t1309.toNat) (len_take (RowOk.len (hM.row (p := pLink) (.s .z))) (by omega)) Link.z t1429 hi1442 hj1443
              refine L1 (stv hA (by decide) (run_idx Try.underlying49 Try.sizeOf53 (hA.ev rfl) hq1445 (hA.ev rfl) hi1442 hj1443) ?_)
              clear hA; intro a hA
              refine L1 (stv hA (by decide) (run_ld (hA.ev rfl) (run_loadP Try.isAgg53 Try.sizeOf53 hat1446)) ?_)
              clear hA; intro a hA
              refine L1 (e_alloc (cs := (pLink.enc Link.z)) hM zero53 rfl hA (by decide) ?_)
              clear hM hA; intro w1448 g1447 hM hE  a hA
              refine L1 (e_store (g := g1447) (off := 0) (cur := (pLink.enc Link.z)) (cs' := (pLink.enc ((r796.1.take t1309.toNat).getD t1429.toNat Link.z))) hM .z Try.sizeOf53 hA rfl (by simp [add_mk]) rfl (agg_size _ _) (agg_one _ _) (Nat.le_of_ble_eq_true (enc_fitL _ _ rfl)) (spl_all (by first | rfl | (simp [Value.cells, Pl.len]; done) | (simp [Value.cells, Pl.len]; rfl))) ?_)
              clear hM hA; intro w1450  hM hE  a hA
              refine LQ ?_
              refine TN ?_
              refine wp_seq ?_
              refine draw (fun w' => Below w1450.heap.size w1450 w') [] rfl ?_
              intro w1451 hw hS; replace hM := hM.ext hS; clear hw
              refine d_takef (i := 0) (L' := #[tT,fF,fF,fF,fF,fF,fF]) rfl (by kernel_rfl) rfl (fun _ _ _ h => h) hA (by decide) (fun _ => hS) (fun a w' hA => run_field' Try.underlying53 rfl rfl Try.sizeOf46 (by decide) (hA.ev rfl)) ?_; clear hA; intro a hA
              refine rebase hS ?_; clear hS; intro hS
              refine d_take (i := 1) (L' := #[tT,tT,fF,fF,fF,fF,fF]) rfl (by kernel_rfl) rfl (fun _ _ _ h => h) hA (by decide) rfl hS (fun a w' hA hS' => run_ld (hA.ev rfl) (run_loadP Try.isAgg46 Try.sizeOf46 ((Link.at_Addr_ (hM.box (.s (.s (.s .z))))).extB hS'))) ?_; clear hA; intro a hA
              refine d_takef (i := 3) (L' := #[tT,tT,fF,tT,fF,fF,fF]) rfl (by kernel_rfl) rfl (fun _ _ _ h => h) hA (by decide) (fun _ => hS) (fun a w' hA => run_field' Try.underlying53 rfl rfl Try.sizeOf46 (by decide) (hA.ev rfl)) ?_; clear hA; intro a hA
              refine d_take (i := 4) (L' := #[tT,tT,fF,tT,tT,fF,fF]) rfl (by kernel_rfl) rfl (fun _ _ _ h => h) hA (by decide) rfl hS (fun a w' hA hS' => run_ld (hA.ev rfl) (run_loadP Try.isAgg46 Try.sizeOf46 ((Link.at_Addr_ (hM.box .z)).extB hS'))) ?_; clear hA; intro a hA
              obtain ⟨r1453, H1454, H1437⟩ := Option.bind_eq_some_iff.1 H1437
              refine d_one (i := 2) (L' := #[tT,tT,tT,tT,tT,fF,fF]) (by kernel_rfl) rfl rfl (st_call Try.call24 hA [(.agg (pNAddr.enc ((r796.1.getD t1309.toNat Link.z).Addr_)).toArray)] rfl (by decide) (addrbook_Group.calls _ _ _ _ _ (hM.front (Ms := [])) H1454) ?_)
              clear hA; rintro _ w1455 ⟨rfl, hMc⟩ a hA
              have hE := hMc.below; have hM := hM.call (Ms := []) hMc
              clear hMc; simp only [List.cons_append, List.nil_append] at hM
              replace hS := hS.trans (hE.mono hS.size)
              refine ⟨fun _ => hS, ?_⟩
              obtain ⟨r1456, H1457, H1437⟩ := Option.bind_eq_some_iff.1 H1437
              refine d_one (i := 5) (L' := #[tT,tT,tT,tT,tT,tT,fF]) (by kernel_rfl) rfl rfl (st_call Try.call24 hA [(.agg (pNAddr.enc (((r796.1.take t1309.toNat).getD t1429.toNat Link.z).Addr_)).toArray)] rfl (by decide) (addrbook_Group.calls _ _ _ _ _ (hM.front (Ms := [])) H1457) ?_)
              clear hA; rintro _ w1458 ⟨rfl, hMc⟩ a hA
              have hE := hMc.below; have hM := hM.call (Ms := []) hMc
              clear hMc; simp only [List.cons_append, List.nil_append] at hM
              replace hS := hS.trans (hE.mono hS.size)
              refine ⟨fun _ => hS, ?_⟩
              refine d_takef (i := 6) (L' := #[tT,tT,tT,tT,tT,tT,tT]) rfl (by kernel_rfl) rfl (fun _ _ _ h => h) hA (by decide) (fun _ => hS) (fun a w' hA => run_bin (hA.ev rfl) (hA.ev rfl) (bin_eql _ _ _ _)) ?_; clear hA; intro a hA
              refine d_done (by kernel_rfl) ?_
              refine TN ?_
              refine tcond (b := (r1453 == r1456)) hA rfl (fun hb1459 => ?_) (fun hb1459 => ?_)
              · replace H1437 := ite_t hb1459 H1437
                refine wp_seq ?_
                refine wp_region_lit ?_
                refine L1 (stv hA (by decide) (run_assign (hA.ev rfl)) ?_)
                clear hA; intro a hA
                refine LQ ?_
                refine TN ?_
                refine wp_ret ?_
                obtain rfl := Option.some.inj H1437
                dsimp only at H1314
                obtain rfl := Option.some.inj H1314
                dsimp only at H
                obtain rfl := Option.some.inj H
                refine BR ?_
                refine TR ?_
                refine TR ?_
                refine BR ?_
                refine TR ?_
                refine TR ?_
                refine BR ?_
                refine TR ?_
                refine TR ?_
                refine BR ?_
                refine TR ?_
                refine TR ?_
                exact ret_post1 (fn := Try.f7) hA rfl rfl ⟨_, rfl, rfl, (hM.sel [] rfl (by decide))⟩
              · replace H1437 := ite_f hb1459 H1437
                refine wp_skip ?_
                refine BN ?_
                refine TN ?_
                refine wp_region_lit ?_
                refine L1 (stv hA (by decide) (run_bin (hA.ev rfl) (hA.ev rfl) (bin_add _ _ _ _)) ?_)
                clear hA; intro a hA
                refine L1 (stv hA (by decide) (run_move (hA.ev rfl)) ?_)
                clear hA; intro a hA
                refine LQ ?_
                exact ⟨_, Nat.lt_succ_self m1439, IntKind.i64.wrap (t1429 + 1), H1437, (hM.sel [1, 2, 3] rfl (by decide)), ((((((((((hA.nil.cons (hA.get 56 _ rfl)).cons (hA.get 55 _ rfl)).cons (hA.get 54 _ rfl)).cons (hA.get 47 _ rfl)).cons (hA.get 46 _ rfl)).cons (hA.get 45 _ rfl)).cons (hA.get 12 _ rfl)).cons (hA.get 10 _ rfl)).cons (hA.get 8 _ rfl)).cons (hA.get 7 _ rfl))⟩
            · replace H1437 := ite_f hb1441 H1437
              refine wp_exit ?_
              refine TX ?_
              refine TX ?_
              refine BX ?_
              exact ⟨Option.some.inj H1437, hM, (((((((hA.nil.cons (hA.get 47 _ rfl)).cons (hA.get 46 _ rfl)).cons (hA.get 45 _ rfl)).cons (hA.get 12 _ rfl)).cons (hA.get 10 _ rfl)).cons (hA.get 8 _ rfl)).cons (hA.get 7 _ rfl))⟩
          clear hM hA
          rintro a w1460 ⟨rfl, hM, hA⟩
          try dsimp only at H1314
          refine TN ?_
          refine wp_seq ?_
          refine wp_region_lit ?_
          refine L1 (stv hA (by decide) (run_field' Try.underlying53 rfl rfl Try.sizeOf3 (by decide) (hA.ev rfl)) ?_)
          clear hA; intro a hA
          refine L1 (stv hA (by decide) (run_ld (hA.ev rfl) (run_loadS Try.isAgg3 (Link.at_Kind (hM.box (.s (.s .z)))))) ?_)
          clear hA; intro a hA
          refine L1 (stv hA (by decide) (run_bin (hA.ev rfl) (hA.ev rfl) (bin_eql _ _ _ _)) ?_)
          clear hA; intro a hA
          refine LQ ?_
          refine TN ?_
          obtain ⟨o1470, H1469, H1314⟩ := Option.bind_eq_some_iff.1 H1314
          refine cutC (fun a w => ∃ (feelers1465 : Int), feelers1465 = o1470 ∧ Mem F w0 w [.row 46 pNAddr.sz (.slice (some ⟨g793, 0, none⟩) 2 2) (pNAddr.flat [r787.1, r790.1]), .row 53 pLink.sz (.slice A801 r796.1.length c802) (pLink.flat r796.1)] ∧ Has 97 [(7, (.slice (some ⟨g793, 0, none⟩) 2 2)), (8, (.slice A801 r796.1.length c802)), (10, (.int .i64 feelers1465)), (45, (.slice A801 r796.1.length c802)), (46, (.int .i64 ((r796.1.length : Nat) : Int))), (47, (.int .i64 t1309))] a) ?_ ?_
          · refine tcond (b := (((r796.1.getD t1309.toNat Link.z).Kind) == 3)) hA rfl (fun hb1471 => ?_) (fun hb1471 => ?_)
            · replace H1469 := ite_t hb1471 H1469
              refine wp_region_lit ?_
              refine L1 (stv hA (by decide) (run_move (hA.ev rfl)) ?_)
              clear hA; intro a hA
              refine L1 (stv hA (by decide) (run_bin (hA.ev rfl) (hA.ev rfl) (bin_add _ _ _ _)) ?_)
              clear hA; intro a hA
              refine L1 (stv hA (by decide) (run_assign (hA.ev rfl)) ?_)
              clear hA; intro a hA
              refine LQ ?_
              exact ⟨IntKind.i64.wrap (feelers1305 + 1), Option.some.inj H1469, (hM.sel [0, 1] rfl (by decide)), ((((((hA.nil.cons (hA.get 47 _ rfl)).cons (hA.get 46 _ rfl)).cons (hA.get 45 _ rfl)).cons (hA.get 10 _ rfl)).cons (hA.get 8 _ rfl)).cons (hA.get 7 _ rfl))⟩
            · replace H1469 := ite_f hb1471 H1469
              refine wp_skip ?_
              exact ⟨feelers1305, Option.some.inj H1469, (hM.sel [0, 1] rfl (by decide)), ((((((hA.nil.cons (hA.get 47 _ rfl)).cons (hA.get 46 _ rfl)).cons (hA.get 45 _ rfl)).cons (hA.get 10 _ rfl)).cons (hA.get 8 _ rfl)).cons (hA.get 7 _ rfl))⟩
          clear hM hA
          rintro a w1472 ⟨feelers1465, rfl, hM, hA⟩
          try dsimp only at H1314
          refine BN ?_
          refine TN ?_
          refine wp_region_lit ?_
          refine L1 (stv hA (by decide) (run_bin (hA.ev rfl) (hA.ev rfl) (bin_add _ _ _ _)) ?_)
          clear hA; intro a hA
          refine L1 (stv hA (by decide) (run_move (hA.ev rfl)) ?_)
          clear hA; intro a hA
          refine LQ ?_
          exact ⟨_, Nat.lt_succ_self m1316, feelers1465, IntKind.i64.wrap (t1309 + 1), H1314, hM, ((((((hA.nil.cons (hA.get 47 _ rfl)).cons (hA.get 46 _ rfl)).cons (hA.get 45 _ rfl)).cons (hA.get 10 _ rfl)).cons (hA.get 8 _ rfl)).cons (hA.get 7 _ rfl))⟩
        · replace H1314 := ite_f hb1318 H1314
          refine wp_exit ?_
          refine TX ?_
          refine TX ?_
          refine BX ?_
          exact ⟨feelers1305, Option.some.inj H1314, hM, (((hA.nil.cons (hA.get 10 _ rfl)).cons (hA.get 8 _ rfl)).cons (hA.get 7 _ rfl))⟩
      clear hM hA
      rintro a w1473 ⟨feelers1313, rfl, hM, hA⟩
      try dsimp only at H
      refine TN ?_
      refine wp_seq ?_
      obtain ⟨o1500, H1499, H⟩ := Option.bind_eq_some_iff.1 H
      refine cutC (fun a w => ∃ (t1498 : Bool), t1498 = o1500 ∧ Mem F w0 w [] ∧ Has 97 [(4, (.bool t1498))] a) ?_ ?_
      · refine draw (fun w' => Below w1473.heap.size w1473 w') [] rfl ?_
        intro w1501 hw hS; replace hM := hM.ext hS; clear hw
        refine d_takef (i := 0) (L' := #[tT,fF,fF,fF,fF,fF,fF,fF,fF,fF,fF,fF,fF,fF,fF,fF,fF,fF,fF,fF,fF,fF,fF,fF]) rfl (by kernel_rfl) rfl (fun _ _ _ h => h) hA (by decide) (fun _ => hS) (fun a w' hA => run_move (hA.ev rfl)) ?_; clear hA; intro a hA
        refine d_takef (i := 1) (L' := #[tT,tT,fF,fF,fF,fF,fF,fF,fF,fF,fF,fF,fF,fF,fF,fF,fF,fF,fF,fF,fF,fF,fF,fF]) rfl (by kernel_rfl) rfl (fun _ _ _ h => h) hA (by decide) (fun _ => hS) (fun a w' hA => run_bin (hA.ev rfl) (hA.ev rfl) (bin_leq _ _ _ _)) ?_; clear hA; intro a hA
        refine d_takef (i := 2) (L' := #[tT,tT,tT,fF,fF,fF,fF,fF,fF,fF,fF,fF,fF,fF,fF,fF,fF,fF,fF,fF,fF,fF,fF,fF]) rfl (by kernel_rfl) rfl (fun _ _ _ h => h) hA (by decide) (fun _ => hS) (fun a w' hA => run_move (hA.ev rfl)) ?_; clear hA; intro a hA
        refine bsplit (b := (decide (feelers1313 ≤ 1))) (fun hb1503 => ?_) (fun hb1503 => ?_)
        · replace H1499 := ite_t hb1503 H1499
          have hA := hA.re (t := 76) rfl (congrArg Value.bool hb1503)
          refine d_takegf (i := 3) (L' := #[tT,tT,tT,tT,fF,fF,fF,fF,fF,fF,fF,fF,fF,fF,fF,fF,fF,fF,fF,fF,fF,fF,fF,fF]) rfl (by kernel_rfl) rfl (fun _ _ _ h => h) rfl hA (by decide) (by decide) rfl (fun _ => hS) (fun a w' hA => run_move (hA.ev rfl)) ?_; clear hA; intro a hA
          obtain ⟨⟨hi1504, hj1505⟩, H1499⟩ := ite_some H1499
          obtain ⟨ad1506, hq1507, hat1508⟩ := Row.elem' (p := pLink) (RowOk.row (hM.row (p := pLink) (.s .z))) (RowOk.len (hM.row (p := pLink) (.s .z))) Link.z (0 : Int) hi1504 hj1505
          refine d_takegf (i := 4) (L' := #[tT,tT,tT,tT,tT,fF,fF,fF,fF,fF,fF,fF,fF,fF,fF,fF,fF,fF,fF,fF,fF,fF,fF,fF]) rfl (by kernel_rfl) rfl (fun _ _ _ h => h) rfl hA (by decide) (by decide) rfl (fun _ => hS) (fun a w' hA => run_idx Try.underlying49 Try.sizeOf53 (hA.ev rfl) hq1507 (hA.ev rfl) hi1504 hj1505) ?_; clear hA; intro a hA
          refine d_takegf (i := 5) (L' := #[tT,tT,tT,tT,tT,tT,fF,fF,fF,fF,fF,fF,fF,fF,fF,fF,fF,fF,fF,fF,fF,fF,fF,fF]) rfl (by kernel_rfl) rfl (fun _ _ _ h => h) rfl hA (by decide) (by decide) rfl (fun _ => hS) (fun a w' hA => run_field' Try.underlying53 rfl rfl Try.sizeOf3 (by decide) (hA.ev rfl)) ?_; clear hA; intro a hA
          refine rebase hS ?_; clear hS; intro hS
          refine d_takeg (i := 6) (L' := #[tT,tT,tT,tT,tT,tT,tT,fF,fF,fF,fF,fF,fF,fF,fF,fF,fF,fF,fF,fF,fF,fF,fF,fF]) rfl (by kernel_rfl) rfl (fun _ _ _ h => h) rfl hA (by decide) (by decide) rfl rfl hS (fun a w' hA hS' => run_ld (hA.ev rfl) (run_loadS Try.isAgg3 ((Link.at_Kind (hat1508)).extB hS'))) ?_; clear hA; intro a hA
          refine d_takegf (i := 7) (L' := #[tT,tT,tT,tT,tT,tT,tT,tT,fF,fF,fF,fF,fF,fF,fF,fF,fF,fF,fF,fF,fF,fF,fF,fF]) rfl (by kernel_rfl) rfl (fun _ _ _ h => h) rfl hA (by decide) (by decide) rfl (fun _ => hS) (fun a w' hA => run_bin (hA.ev rfl) (hA.ev rfl) (bin_eql _ _ _ _)) ?_; clear hA; intro a hA
          refine d_takef (i := 8) (L' := #[tT,tT,tT,tT,tT,tT,tT,tT,tT,fF,fF,fF,fF,fF,fF,fF,fF,fF,fF,fF,fF,fF,fF,fF]) rfl (by kernel_rfl) rfl (fun _ _ _ h => h) hA (by decide) (fun _ => hS) (fun a w' hA => run_pick (hA.ev rfl) (fun _ => hA.ev rfl) (fun h => Bool.noConfusion h)) ?_; clear hA; intro a hA
          refine d_takef (i := 9) (L' := #[tT,tT,tT,tT,tT,tT,tT,tT,tT,tT,fF,fF,fF,fF,fF,fF,fF,fF,fF,fF,fF,fF,fF,fF]) rfl (by kernel_rfl) rfl (fun _ _ _ h => h) hA (by decide) (fun _ => hS) (fun a w' hA => run_move (hA.ev rfl)) ?_; clear hA; intro a hA
          refine bsplit (b := (((r796.1.getD (0 : Int).toNat Link.z).Kind) == 1)) (fun hb1509 => ?_) (fun hb1509 => ?_)
          · replace H1499 := ite_t hb1509 H1499
            have hA := hA.re (t := 83) rfl (congrArg Value.bool hb1509)
            refine d_takegf (i := 10) (L' := #[tT,tT,tT,tT,tT,tT,tT,tT,tT,tT,tT,fF,fF,fF,fF,fF,fF,fF,fF,fF,fF,fF,fF,fF]) rfl (by kernel_rfl) rfl (fun _ _ _ h => h) rfl hA (by decide) (by decide) rfl (fun _ => hS) (fun a w' hA => run_move (hA.ev rfl)) ?_; clear hA; intro a hA
            obtain ⟨⟨hi1510, hj1511⟩, H1499⟩ := ite_some H1499
            obtain ⟨ad1512, hq1513, hat1514⟩ := Row.elem' (p := pLink) (RowOk.row (hM.row (p := pLink) (.s .z))) (RowOk.len (hM.row (p := pLink) (.s .z))) Link.z (0 : Int) hi1510 hj1511
            refine d_takegf (i := 11) (L' := #[tT,tT,tT,tT,tT,tT,tT,tT,tT,tT,tT,tT,fF,fF,fF,fF,fF,fF,fF,fF,fF,fF,fF,fF]) rfl (by kernel_rfl) rfl (fun _ _ _ h => h) rfl hA (by decide) (by decide) rfl (fun _ => hS) (fun a w' hA => run_idx Try.underlying49 Try.sizeOf53 (hA.ev rfl) hq1513 (hA.ev rfl) hi1510 hj1511) ?_; clear hA; intro a hA
            refine d_takegf (i := 12) (L' := #[tT,tT,tT,tT,tT,tT,tT,tT,tT,tT,tT,tT,tT,fF,fF,fF,fF,fF,fF,fF,fF,fF,fF,fF]) rfl (by kernel_rfl) rfl (fun _ _ _ h => h) rfl hA (by decide) (by decide) rfl (fun _ => hS) (fun a w' hA => run_field' Try.underlying53 rfl rfl Try.sizeOf46 (by decide) (hA.ev rfl)) ?_; clear hA; intro a hA
            refine d_takeg (i := 13) (L' := #[tT,tT,tT,tT,tT,tT,tT,tT,tT,tT,tT,tT,tT,tT,fF,fF,fF,fF,fF,fF,fF,fF,fF,fF]) rfl (by kernel_rfl) rfl (fun _ _ _ h => h) rfl hA (by decide) (by decide) rfl rfl hS (fun a w' hA hS' => run_ld (hA.ev rfl) (run_loadP Try.isAgg46 Try.sizeOf46 ((Link.at_Addr_ (hat1514)).extB hS'))) ?_; clear hA; intro a hA
            refine d_takegf (i := 14) (L' := #[tT,tT,tT,tT,tT,tT,tT,tT,tT,tT,tT,tT,tT,tT,tT,fF,fF,fF,fF,fF,fF,fF,fF,fF]) rfl (by kernel_rfl) rfl (fun _ _ _ h => h) rfl hA (by decide) (by decide) rfl (fun _ => hS) (fun a w' hA => run_move (hA.ev rfl)) ?_; clear hA; intro a hA
            obtain ⟨⟨hi1515, hj1516⟩, H1499⟩ := ite_some H1499
            obtain ⟨ad1517, hq1518, hat1519⟩ := Row.elem' (p := pNAddr) (RowOk.row (hM.row (p := pNAddr) .z)) (RowOk.len (hM.row (p := pNAddr) .z)) NAddr.z (0 : Int) hi1515 hj1516
            refine d_takegf (i := 15) (L' := #[tT,tT,tT,tT,tT,tT,tT,tT,tT,tT,tT,tT,tT,tT,tT,tT,fF,fF,fF,fF,fF,fF,fF,fF]) rfl (by kernel_rfl) rfl (fun _ _ _ h => h) rfl hA (by decide) (by decide) rfl (fun _ => hS) (fun a w' hA => run_idx Try.underlying48 Try.sizeOf46 (hA.ev rfl) hq1518 (hA.ev rfl) hi1515 hj1516) ?_; clear hA; intro a hA
            refine d_takeg (i := 16) (L' := #[tT,tT,tT,tT,tT,tT,tT,tT,tT,tT,tT,tT,tT,tT,tT,tT,tT,fF,fF,fF,fF,fF,fF,fF]) rfl (by kernel_rfl) rfl (fun _ _ _ h => h) rfl hA (by decide) (by decide) rfl rfl hS (fun a w' hA hS' => run_ld (hA.ev rfl) (run_loadP Try.isAgg46 Try.sizeOf46 ((hat1519).extB hS'))) ?_; clear hA; intro a hA
            refine d_takegf (i := 17) (L' := #[tT,tT,tT,tT,tT,tT,tT,tT,tT,tT,tT,tT,tT,tT,tT,tT,tT,tT,fF,fF,fF,fF,fF,fF]) rfl (by kernel_rfl) rfl (fun _ _ _ h => h) rfl hA (by decide) (by decide) rfl (fun _ => hS) (fun a w' hA => run_aggeql eq_NAddr rfl (by kernel_rfl) (hA.ev rfl) (hA.ev rfl)) ?_; clear hA; intro a hA
            refine d_takef (i := 18) (L' := #[tT,tT,tT,tT,tT,tT,tT,tT,tT,tT,tT,tT,tT,tT,tT,tT,tT,tT,tT,fF,fF,fF,fF,fF]) rfl (by kernel_rfl) rfl (fun _ _ _ h => h) hA (by decide) (fun _ => hS) (fun a w' hA => run_pick (hA.ev rfl) (fun _ => hA.ev rfl) (fun h => Bool.noConfusion h)) ?_; clear hA; intro a hA
            refine d_takef (i := 19) (L' := #[tT,tT,tT,tT,tT,tT,tT,tT,tT,tT,tT,tT,tT,tT,tT,tT,tT,tT,tT,tT,fF,fF,fF,fF]) rfl (by kernel_rfl) rfl (fun _ _ _ h => h) hA (by decide) (fun _ => hS) (fun a w' hA => run_move (hA.ev rfl)) ?_; clear hA; intro a hA
            refine bsplit (b := (((r796.1.getD (0 : Int).toNat Link.z).Addr_) == ([r787.1, r790.1].getD (0 : Int).toNat NAddr.z))) (fun hb1520 => ?_) (fun hb1520 => ?_)
            · replace H1499 := ite_t hb1520 H1499
              have hA := hA.re (t := 93) rfl (congrArg Value.bool hb1520)
              refine d_takegf (i := 20) (L' := #[tT,tT,tT,tT,tT,tT,tT,tT,tT,tT,tT,tT,tT,tT,tT,tT,tT,tT,tT,tT,tT,fF,fF,fF]) rfl (by kernel_rfl) rfl (fun _ _ _ h => h) rfl hA (by decide) (by decide) rfl (fun _ => hS) (fun a w' hA => run_move (hA.ev rfl)) ?_; clear hA; intro a hA
              obtain ⟨r1521, H1522, H1499⟩ := Option.bind_eq_some_iff.1 H1499
              refine d_one (i := 21) (L' := #[tT,tT,tT,tT,tT,tT,tT,tT,tT,tT,tT,tT,tT,tT,tT,tT,tT,tT,tT,tT,tT,tT,fF,fF]) (by kernel_rfl) rfl rfl (gate_on rfl rfl hA (by decide) rfl (st_call Try.call25 hA [(.slice A801 r796.1.length c802)] rfl (by decide) (connect_Sound.calls _ _ _ _ _ _ ((hM.roV (p := pLink) (Ms := []) (.s .z))) (hM.front (Ms := [])) H1522) ?_))
              clear hA; rintro _ w1523 ⟨rfl, hMc⟩ a hA
              have hE := hMc.below; have hM := hM.call (Ms := []) hMc
              clear hMc; simp only [List.cons_append, List.nil_append] at hM
              replace hS := hS.trans (hE.mono hS.size)
              refine ⟨fun _ => hS, ?_⟩
              refine d_takef (i := 22) (L' := #[tT,tT,tT,tT,tT,tT,tT,tT,tT,tT,tT,tT,tT,tT,tT,tT,tT,tT,tT,tT,tT,tT,tT,fF]) rfl (by kernel_rfl) rfl (fun _ _ _ h => h) hA (by decide) (fun _ => hS) (fun a w' hA => run_pick (hA.ev rfl) (fun _ => hA.ev rfl) (fun h => Bool.noConfusion h)) ?_; clear hA; intro a hA
              refine d_takef (i := 23) (L' := #[tT,tT,tT,tT,tT,tT,tT,tT,tT,tT,tT,tT,tT,tT,tT,tT,tT,tT,tT,tT,tT,tT,tT,tT]) rfl (by kernel_rfl) rfl (fun _ _ _ h => h) hA (by decide) (fun _ => hS) (fun a w' hA => run_assign (hA.ev rfl)) ?_; clear hA; intro a hA
              refine d_done (by kernel_rfl) ?_
              exact ⟨r1521, Option.some.inj H1499, (hM.sel [] rfl (by decide)), (hA.nil.cons (hA.get 4 _ rfl))⟩
            · replace H1499 := ite_f hb1520 H1499
              have hA := hA.re (t := 93) rfl (congrArg Value.bool hb1520)
              refine d_skip (i := 20) (L' := #[tT,tT,tT,tT,tT,tT,tT,tT,tT,tT,tT,tT,tT,tT,tT,tT,tT,tT,tT,tT,tT,fF,fF,fF]) rfl (by kernel_rfl) rfl (fun _ _ _ h => h) rfl hA (by decide) (by decide) rfl rfl (fun _ => hS) ?_; clear hA; intro a hA
              refine d_one (i := 21) (L' := #[tT,tT,tT,tT,tT,tT,tT,tT,tT,tT,tT,tT,tT,tT,tT,tT,tT,tT,tT,tT,tT,tT,fF,fF]) (by kernel_rfl) rfl rfl (gate_off rfl (by decide) rfl hA (by decide) rfl rfl ?_); clear hA; intro a hA
              refine ⟨fun _ => hS, ?_⟩
              refine d_takef (i := 22) (L' := #[tT,tT,tT,tT,tT,tT,tT,tT,tT,tT,tT,tT,tT,tT,tT,tT,tT,tT,tT,tT,tT,tT,tT,fF]) rfl (by kernel_rfl) rfl (fun _ _ _ h => h) hA (by decide) (fun _ => hS) (fun a w' hA => run_pick (hA.ev rfl) (fun h => Bool.noConfusion h) (fun _ => hA.ev rfl)) ?_; clear hA; intro a hA
              refine d_takef (i := 23) (L' := #[tT,tT,tT,tT,tT,tT,tT,tT,tT,tT,tT,tT,tT,tT,tT,tT,tT,tT,tT,tT,tT,tT,tT,tT]) rfl (by kernel_rfl) rfl (fun _ _ _ h => h) hA (by decide) (fun _ => hS) (fun a w' hA => run_assign (hA.ev rfl)) ?_; clear hA; intro a hA
              refine d_done (by kernel_rfl) ?_
              exact ⟨false, Option.some.inj H1499, (hM.sel [] rfl (by decide)), (hA.nil.cons (hA.get 4 _ rfl))⟩
          · replace H1499 := ite_f hb1509 H1499
            have hA := hA.re (t := 83) rfl (congrArg Value.bool hb1509)
            refine d_skip (i := 10) (L' := #[tT,tT,tT,tT,tT,tT,tT,tT,tT,tT,tT,fF,fF,fF,fF,fF,fF,fF,fF,fF,fF,fF,fF,fF]) rfl (by kernel_rfl) rfl (fun _ _ _ h => h) rfl hA (by decide) (by decide) rfl rfl (fun _ => hS) ?_; clear hA; intro a hA
            refine d_skip (i := 11) (L' := #[tT,tT,tT,tT,tT,tT,tT,tT,tT,tT,tT,tT,fF,fF,fF,fF,fF,fF,fF,fF,fF,fF,fF,fF]) rfl (by kernel_rfl) rfl (fun _ _ _ h => h) rfl hA (by decide) (by decide) rfl rfl (fun _ => hS) ?_; clear hA; intro a hA
            refine d_skip (i := 12) (L' := #[tT,tT,tT,tT,tT,tT,tT,tT,tT,tT,tT,tT,tT,fF,fF,fF,fF,fF,fF,fF,fF,fF,fF,fF]) rfl (by kernel_rfl) rfl (fun _ _ _ h => h) rfl hA (by decide) (by decide) rfl rfl (fun _ => hS) ?_; clear hA; intro a hA
            refine d_skip (i := 13) (L' := #[tT,tT,tT,tT,tT,tT,tT,tT,tT,tT,tT,tT,tT,tT,fF,fF,fF,fF,fF,fF,fF,fF,fF,fF]) rfl (by kernel_rfl) rfl (fun _ _ _ h => h) rfl hA (by decide) (by decide) rfl rfl (fun _ => hS) ?_; clear hA; intro a hA
            refine d_skip (i := 14) (L' := #[tT,tT,tT,tT,tT,tT,tT,tT,tT,tT,tT,tT,tT,tT,tT,fF,fF,fF,fF,fF,fF,fF,fF,fF]) rfl (by kernel_rfl) rfl (fun _ _ _ h => h) rfl hA (by decide) (by decide) rfl rfl (fun _ => hS) ?_; clear hA; intro a hA
            refine d_skip (i := 15) (L' := #[tT,tT,tT,tT,tT,tT,tT,tT,tT,tT,tT,tT,tT,tT,tT,tT,fF,fF,fF,fF,fF,fF,fF,fF]) rfl (by kernel_rfl) rfl (fun _ _ _ h => h) rfl hA (by decide) (by decide) rfl rfl (fun _ => hS) ?_; clear hA; intro a hA
            refine d_skip (i := 16) (L' := #[tT,tT,tT,tT,tT,tT,tT,tT,tT,tT,tT,tT,tT,tT,tT,tT,tT,fF,fF,fF,fF,fF,fF,fF]) rfl (by kernel_rfl) rfl (fun _ _ _ h => h) rfl hA (by decide) (by decide) rfl rfl (fun _ => hS) ?_; clear hA; intro a hA
            refine d_skip (i := 17) (L' := #[tT,tT,tT,tT,tT,tT,tT,tT,tT,tT,tT,tT,tT,tT,tT,tT,tT,tT,fF,fF,fF,fF,fF,fF]) rfl (by kernel_rfl) rfl (fun _ _ _ h => h) rfl hA (by decide) (by decide) rfl rfl (fun _ => hS) ?_; clear hA; intro a hA
            refine d_takef (i := 18) (L' := #[tT,tT,tT,tT,tT,tT,tT,tT,tT,tT,tT,tT,tT,tT,tT,tT,tT,tT,tT,fF,fF,fF,fF,fF]) rfl (by kernel_rfl) rfl (fun _ _ _ h => h) hA (by decide) (fun _ => hS) (fun a w' hA => run_pick (hA.ev rfl) (fun h => Bool.noConfusion h) (fun _ => hA.ev rfl)) ?_; clear hA; intro a hA
            refine d_takef (i := 19) (L' := #[tT,tT,tT,tT,tT,tT,tT,tT,tT,tT,tT,tT,tT,tT,tT,tT,tT,tT,tT,tT,fF,fF,fF,fF]) rfl (by kernel_rfl) rfl (fun _ _ _ h => h) hA (by decide) (fun _ => hS) (fun a w' hA => run_move (hA.ev rfl)) ?_; clear hA; intro a hA
            refine d_skip (i := 20) (L' := #[tT,tT,tT,tT,tT,tT,tT,tT,tT,tT,tT,tT,tT,tT,tT,tT,tT,tT,tT,tT,tT,fF,fF,fF]) rfl (by kernel_rfl) rfl (fun _ _ _ h => h) rfl hA (by decide) (by decide) rfl rfl (fun _ => hS) ?_; clear hA; intro a hA
            refine d_one (i := 21) (L' := #[tT,tT,tT,tT,tT,tT,tT,tT,tT,tT,tT,tT,tT,tT,tT,tT,tT,tT,tT,tT,tT,tT,fF,fF]) (by kernel_rfl) rfl rfl (gate_off rfl (by decide) rfl hA (by decide) rfl rfl ?_); clear hA; intro a hA
            refine ⟨fun _ => hS, ?_⟩
            refine d_takef (i := 22) (L' := #[tT,tT,tT,tT,tT,tT,tT,tT,tT,tT,tT,tT,tT,tT,tT,tT,tT,tT,tT,tT,tT,tT,tT,fF]) rfl (by kernel_rfl) rfl (fun _ _ _ h => h) hA (by decide) (fun _ => hS) (fun a w' hA => run_pick (hA.ev rfl) (fun h => Bool.noConfusion h) (fun _ => hA.ev rfl)) ?_; clear hA; intro a hA
            refine d_takef (i := 23) (L' := #[tT,tT,tT,tT,tT,tT,tT,tT,tT,tT,tT,tT,tT,tT,tT,tT,tT,tT,tT,tT,tT,tT,tT,tT]) rfl (by kernel_rfl) rfl (fun _ _ _ h => h) hA (by decide) (fun _ => hS) (fun a w' hA => run_assign (hA.ev rfl)) ?_; clear hA; intro a hA
            refine d_done (by kernel_rfl) ?_
            exact ⟨false, Option.some.inj H1499, (hM.sel [] rfl (by decide)), (hA.nil.cons (hA.get 4 _ rfl))⟩
        · replace H1499 := ite_f hb1503 H1499
          have hA := hA.re (t := 76) rfl (congrArg Value.bool hb1503)
          refine d_skip (i := 3) (L' := #[tT,tT,tT,tT,fF,fF,fF,fF,fF,fF,fF,fF,fF,fF,fF,fF,fF,fF,fF,fF,fF,fF,fF,fF]) rfl (by kernel_rfl) rfl (fun _ _ _ h => h) rfl hA (by decide) (by decide) rfl rfl (fun _ => hS) ?_; clear hA; intro a hA
          refine d_skip (i := 4) (L' := #[tT,tT,tT,tT,tT,fF,fF,fF,fF,fF,fF,fF,fF,fF,fF,fF,fF,fF,fF,fF,fF,fF,fF,fF]) rfl (by kernel_rfl) rfl (fun _ _ _ h => h) rfl hA (by decide) (by decide) rfl rfl (fun _ => hS) ?_; clear hA; intro a hA
          refine d_skip (i := 5) (L' := #[tT,tT,tT,tT,tT,tT,fF,fF,fF,fF,fF,fF,fF,fF,fF,fF,fF,fF,fF,fF,fF,fF,fF,fF]) rfl (by kernel_rfl) rfl (fun _ _ _ h => h) rfl hA (by decide) (by decide) rfl rfl (fun _ => hS) ?_; clear hA; intro a hA
          refine d_skip (i := 6) (L' := #[tT,tT,tT,tT,tT,tT,tT,fF,fF,fF,fF,fF,fF,fF,fF,fF,fF,fF,fF,fF,fF,fF,fF,fF]) rfl (by kernel_rfl) rfl (fun _ _ _ h => h) rfl hA (by decide) (by decide) rfl rfl (fun _ => hS) ?_; clear hA; intro a hA
          refine d_skip (i := 7) (L' := #[tT,tT,tT,tT,tT,tT,tT,tT,fF,fF,fF,fF,fF,fF,fF,fF,fF,fF,fF,fF,fF,fF,fF,fF]) rfl (by kernel_rfl) rfl (fun _ _ _ h => h) rfl hA (by decide) (by decide) rfl rfl (fun _ => hS) ?_; clear hA; intro a hA
          refine d_takef (i := 8) (L' := #[tT,tT,tT,tT,tT,tT,tT,tT,tT,fF,fF,fF,fF,fF,fF,fF,fF,fF,fF,fF,fF,fF,fF,fF]) rfl (by kernel_rfl) rfl (fun _ _ _ h => h) hA (by decide) (fun _ => hS) (fun a w' hA => run_pick (hA.ev rfl) (fun h => Bool.noConfusion h) (fun _ => hA.ev rfl)) ?_; clear hA; intro a hA
          refine d_takef (i := 9) (L' := #[tT,tT,tT,tT,tT,tT,tT,tT,tT,tT,fF,fF,fF,fF,fF,fF,fF,fF,fF,fF,fF,fF,fF,fF]) rfl (by kernel_rfl) rfl (fun _ _ _ h => h) hA (by decide) (fun _ => hS) (fun a w' hA => run_move (hA.ev rfl)) ?_; clear hA; intro a hA
          refine d_skip (i := 10) (L' := #[tT,tT,tT,tT,tT,tT,tT,tT,tT,tT,tT,fF,fF,fF,fF,fF,fF,fF,fF,fF,fF,fF,fF,fF]) rfl (by kernel_rfl) rfl (fun _ _ _ h => h) rfl hA (by decide) (by decide) rfl rfl (fun _ => hS) ?_; clear hA; intro a hA
          refine d_skip (i := 11) (L' := #[tT,tT,tT,tT,tT,tT,tT,tT,tT,tT,tT,tT,fF,fF,fF,fF,fF,fF,fF,fF,fF,fF,fF,fF]) rfl (by kernel_rfl) rfl (fun _ _ _ h => h) rfl hA (by decide) (by decide) rfl rfl (fun _ => hS) ?_; clear hA; intro a hA
          refine d_skip (i := 12) (L' := #[tT,tT,tT,tT,tT,tT,tT,tT,tT,tT,tT,tT,tT,fF,fF,fF,fF,fF,fF,fF,fF,fF,fF,fF]) rfl (by kernel_rfl) rfl (fun _ _ _ h => h) rfl hA (by decide) (by decide) rfl rfl (fun _ => hS) ?_; clear hA; intro a hA
          refine d_skip (i := 13) (L' := #[tT,tT,tT,tT,tT,tT,tT,tT,tT,tT,tT,tT,tT,tT,fF,fF,fF,fF,fF,fF,fF,fF,fF,fF]) rfl (by kernel_rfl) rfl (fun _ _ _ h => h) rfl hA (by decide) (by decide) rfl rfl (fun _ => hS) ?_; clear hA; intro a hA
          refine d_skip (i := 14) (L' := #[tT,tT,tT,tT,tT,tT,tT,tT,tT,tT,tT,tT,tT,tT,tT,fF,fF,fF,fF,fF,fF,fF,fF,fF]) rfl (by kernel_rfl) rfl (fun _ _ _ h => h) rfl hA (by decide) (by decide) rfl rfl (fun _ => hS) ?_; clear hA; intro a hA
          refine d_skip (i := 15) (L' := #[tT,tT,tT,tT,tT,tT,tT,tT,tT,tT,tT,tT,tT,tT,tT,tT,fF,fF,fF,fF,fF,fF,fF,fF]) rfl (by kernel_rfl) rfl (fun _ _ _ h => h) rfl hA (by decide) (by decide) rfl rfl (fun _ => hS) ?_; clear hA; intro a hA
          refine d_skip (i := 16) (L' := #[tT,tT,tT,tT,tT,tT,tT,tT,tT,tT,tT,tT,tT,tT,tT,tT,tT,fF,fF,fF,fF,fF,fF,fF]) rfl (by kernel_rfl) rfl (fun _ _ _ h => h) rfl hA (by decide) (by decide) rfl rfl (fun _ => hS) ?_; clear hA; intro a hA
          refine d_skip (i := 17) (L' := #[tT,tT,tT,tT,tT,tT,tT,tT,tT,tT,tT,tT,tT,tT,tT,tT,tT,tT,fF,fF,fF,fF,fF,fF]) rfl (by kernel_rfl) rfl (fun _ _ _ h => h) rfl hA (by decide) (by decide) rfl rfl (fun _ => hS) ?_; clear hA; intro a hA
          refine d_takef (i := 18) (L' := #[tT,tT,tT,tT,tT,tT,tT,tT,tT,tT,tT,tT,tT,tT,tT,tT,tT,tT,tT,fF,fF,fF,fF,fF]) rfl (by kernel_rfl) rfl (fun _ _ _ h => h) hA (by decide) (fun _ => hS) (fun a w' hA => run_pick (hA.ev rfl) (fun h => Bool.noConfusion h) (fun _ => hA.ev rfl)) ?_; clear hA; intro a hA
          refine d_takef (i := 19) (L' := #[tT,tT,tT,tT,tT,tT,tT,tT,tT,tT,tT,tT,tT,tT,tT,tT,tT,tT,tT,tT,fF,fF,fF,fF]) rfl (by kernel_rfl) rfl (fun _ _ _ h => h) hA (by decide) (fun _ => hS) (fun a w' hA => run_move (hA.ev rfl)) ?_; clear hA; intro a hA
          refine d_skip (i := 20) (L' := #[tT,tT,tT,tT,tT,tT,tT,tT,tT,tT,tT,tT,tT,tT,tT,tT,tT,tT,tT,tT,tT,fF,fF,fF]) rfl (by kernel_rfl) rfl (fun _ _ _ h => h) rfl hA (by decide) (by decide) rfl rfl (fun _ => hS) ?_; clear hA; intro a hA
          refine d_one (i := 21) (L' := #[tT,tT,tT,tT,tT,tT,tT,tT,tT,tT,tT,tT,tT,tT,tT,tT,tT,tT,tT,tT,tT,tT,fF,fF]) (by kernel_rfl) rfl rfl (gate_off rfl (by decide) rfl hA (by decide) rfl rfl ?_); clear hA; intro a hA
          refine ⟨fun _ => hS, ?_⟩
          refine d_takef (i := 22) (L' := #[tT,tT,tT,tT,tT,tT,tT,tT,tT,tT,tT,tT,tT,tT,tT,tT,tT,tT,tT,tT,tT,tT,tT,fF]) rfl (by kernel_rfl) rfl (fun _ _ _ h => h) hA (by decide) (fun _ => hS) (fun a w' hA => run_pick (hA.ev rfl) (fun h => Bool.noConfusion h) (fun _ => hA.ev rfl)) ?_; clear hA; intro a hA
          refine d_takef (i := 23) (L' := #[tT,tT,tT,tT,tT,tT,tT,tT,tT,tT,tT,tT,tT,tT,tT,tT,tT,tT,tT,tT,tT,tT,tT,tT]) rfl (by kernel_rfl) rfl (fun _ _ _ h => h) hA (by decide) (fun _ => hS) (fun a w' hA => run_assign (hA.ev rfl)) ?_; clear hA; intro a hA
          refine d_done (by kernel_rfl) ?_
          exact ⟨false, Option.some.inj H1499, (hM.sel [] rfl (by decide)), (hA.nil.cons (hA.get 4 _ rfl))⟩
      clear hM hA
      rintro a w1524 ⟨t1498, rfl, hM, hA⟩
      try dsimp only at H
      refine TN ?_
      refine wp_ret ?_
      obtain rfl := Option.some.inj H
      exact ret_post1 (fn := Try.f7) hA rfl rfl ⟨_, rfl, rfl, hM⟩

end Go.Proofs.Ytoogcdmdbogkeaa.G
