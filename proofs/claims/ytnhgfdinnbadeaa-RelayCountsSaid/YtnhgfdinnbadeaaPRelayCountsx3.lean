-- PRINTED BY print.sh 35421559b90ae4d0a3588c463048766b98c2df88dd9212a6774a882060cdf62d: not written by this session
import Derived.Test.YtnhgfdinnbadeaaPRelayCountsx0
import Derived.Test.YtnhgfdinnbadeaaPRelayCountsx1
import Derived.Test.YtnhgfdinnbadeaaPRelayCountsx2
namespace Go.Proofs.Ytnhgfdinnbadeaa.PRelayCounts
open Go.RowKit Go.Proofs.YtnhgfdinnbadeaaW.PrintWords Go.Proofs.YtnhgfdinnbadeaaW.PrintLast Go.Proofs.YtnhgfdinnbadeaaW.PrintMore
attribute [local go_sem] max2_int min2_int max_two min_two max_three min_three max_four min_four   -- for this text's walks alone
set_option linter.unusedVariables false
set_option linter.unusedSimpArgs false

/-! ### lightclientlaw40_RelayCounts: function 4 -/
mutual
def lightclientlaw40_RelayCounts.l0 : Nat → List Int → List Bool → List Bool → Int → Int → Int → Int → Int → Int → Option (Bool)
  | 0, _, _, _, _, _, _, _, _, _ => none
  | k + 1, x7, x8, x9, x10, x11, x12, x13, x39, x40 => if x40 < x39 then ((relay_Walk.f k x7 x8 x40).bind fun t173 => ((relay_Seen.f k t173 x9).bind fun bt176 => (if bt176.1 ≥ 0 then (if bt176.1 < (t173.length : Int) then (if 0 ≤ bt176.1 then (if (rd t173 bt176.1) = x10 then (lightclientlaw40_RelayCounts.j1 k x7 x8 x9 x10 x11 x12 x13 t173 x39 x40 (bt176.2 == x11)) else (lightclientlaw40_RelayCounts.j1 k x7 x8 x9 x10 x11 x12 x13 t173 x39 x40 false)) else (none)) else (lightclientlaw40_RelayCounts.j1 k x7 x8 x9 x10 x11 x12 x13 t173 x39 x40 false)) else (lightclientlaw40_RelayCounts.j1 k x7 x8 x9 x10 x11 x12 x13 t173 x39 x40 false)))) else (some (x12 == x13))
def lightclientlaw40_RelayCounts.j1 : Nat → List Int → List Bool → List Bool → Int → Int → Int → Int → List Int → Int → Int → Bool → Option (Bool)
  | 0, _, _, _, _, _, _, _, _, _, _, _ => none
  | k + 1, x7, x8, x9, x10, x11, x12, x13, x15, x39, x40, x73 => if x73 = true then (lightclientlaw40_RelayCounts.j2 k x7 x8 x9 x10 x11 (wrap64 (x12 + 1)) x13 x15 x39 x40) else (lightclientlaw40_RelayCounts.j2 k x7 x8 x9 x10 x11 x12 x13 x15 x39 x40)
def lightclientlaw40_RelayCounts.j2 : Nat → List Int → List Bool → List Bool → Int → Int → Int → Int → List Int → Int → Int → Option (Bool)
  | 0, _, _, _, _, _, _, _, _, _, _ => none
  | k + 1, x7, x8, x9, x10, x11, x12, x13, x15, x39, x40 => lightclientlaw40_RelayCounts.l1 k x7 x8 x9 x10 x11 x12 x13 x15 1 x39 x40
def lightclientlaw40_RelayCounts.l1 : Nat → List Int → List Bool → List Bool → Int → Int → Int → Int → List Int → Int → Int → Int → Option (Bool)
  | 0, _, _, _, _, _, _, _, _, _, _, _ => none
  | k + 1, x7, x8, x9, x10, x11, x12, x13, x15, x18, x39, x40 => if x18 < (x15.length : Int) then (if 0 ≤ x18 then (if (rd x15 x18) = x10 then (if 0 ≤ (wrap64 (x18 - 1)) then (if (wrap64 (x18 - 1)) < (x15.length : Int) then (lightclientlaw40_RelayCounts.j4 k x7 x8 x9 x10 x11 x12 x13 x15 x18 x39 x40 ((rd x15 (wrap64 (x18 - 1))) == x11)) else (none)) else (none)) else (lightclientlaw40_RelayCounts.j4 k x7 x8 x9 x10 x11 x12 x13 x15 x18 x39 x40 false)) else (none)) else (lightclientlaw40_RelayCounts.l0 k x7 x8 x9 x10 x11 x12 x13 x39 (wrap64 (x40 + 1)))
def lightclientlaw40_RelayCounts.j4 : Nat → List Int → List Bool → List Bool → Int → Int → Int → Int → List Int → Int → Int → Int → Bool → Option (Bool)
  | 0, _, _, _, _, _, _, _, _, _, _, _, _ => none
  | k + 1, x7, x8, x9, x10, x11, x12, x13, x15, x18, x39, x40, x96 => if x96 = true then (if 0 ≤ x18 then (if x18 < (x15.length : Int) then (if 0 ≤ (rd x15 x18) then (if (rd x15 x18) < (x9.length : Int) then (if rdOf false x9 (rd x15 x18) = true then (lightclientlaw40_RelayCounts.l0 k x7 x8 x9 x10 x11 x12 (wrap64 (x13 + 1)) x39 (wrap64 (x40 + 1))) else (lightclientlaw40_RelayCounts.l1 k x7 x8 x9 x10 x11 x12 (wrap64 (x13 + 1)) x15 (wrap64 (x18 + 1)) x39 x40)) else (none)) else (none)) else (none)) else (none)) else (if 0 ≤ x18 then (if x18 < (x15.length : Int) then (if 0 ≤ (rd x15 x18) then (if (rd x15 x18) < (x9.length : Int) then (if rdOf false x9 (rd x15 x18) = true then (lightclientlaw40_RelayCounts.l0 k x7 x8 x9 x10 x11 x12 x13 x39 (wrap64 (x40 + 1))) else (lightclientlaw40_RelayCounts.l1 k x7 x8 x9 x10 x11 x12 x13 x15 (wrap64 (x18 + 1)) x39 x40)) else (none)) else (none)) else (none)) else (none))
end
def lightclientlaw40_RelayCounts.f (k : Nat) (l0 : List Int) (a1 : Int) (a2 : Int) : Option (Bool) := (lightclientlaw40_sane.f k).bind fun t160 => (if t160 = true then ((lightclientlaw40_graph.f k l0).bind fun bt161 => ((lightclientmill_Mod.f a1 (bt161.1.length : Int)).bind fun t170 => ((lightclientmill_Mod.f a2 (bt161.1.length : Int)).bind fun t171 => (if 0 ≤ t170 then (if t170 < (bt161.2.2.length : Int) then (lightclientlaw40_RelayCounts.l0 k bt161.1 bt161.2.1 (bt161.2.2.set (t170 : Int).toNat true) t170 t171 0 0 (bt161.1.length : Int) 0) else (none)) else (none))))) else (some false))
theorem lightclientlaw40_RelayCounts.mono_l : ∀ k, (∀ y0 y1 y2 y3 y4 y5 y6 y7 y8, LeO (lightclientlaw40_RelayCounts.l0 k y0 y1 y2 y3 y4 y5 y6 y7 y8) (lightclientlaw40_RelayCounts.l0 (k + 1) y0 y1 y2 y3 y4 y5 y6 y7 y8)) ∧ (∀ y0 y1 y2 y3 y4 y5 y6 y7 y8 y9 y10, LeO (lightclientlaw40_RelayCounts.j1 k y0 y1 y2 y3 y4 y5 y6 y7 y8 y9 y10) (lightclientlaw40_RelayCounts.j1 (k + 1) y0 y1 y2 y3 y4 y5 y6 y7 y8 y9 y10)) ∧ (∀ y0 y1 y2 y3 y4 y5 y6 y7 y8 y9, LeO (lightclientlaw40_RelayCounts.j2 k y0 y1 y2 y3 y4 y5 y6 y7 y8 y9) (lightclientlaw40_RelayCounts.j2 (k + 1) y0 y1 y2 y3 y4 y5 y6 y7 y8 y9)) ∧ (∀ y0 y1 y2 y3 y4 y5 y6 y7 y8 y9 y10, LeO (lightclientlaw40_RelayCounts.l1 k y0 y1 y2 y3 y4 y5 y6 y7 y8 y9 y10) (lightclientlaw40_RelayCounts.l1 (k + 1) y0 y1 y2 y3 y4 y5 y6 y7 y8 y9 y10)) ∧ (∀ y0 y1 y2 y3 y4 y5 y6 y7 y8 y9 y10 y11, LeO (lightclientlaw40_RelayCounts.j4 k y0 y1 y2 y3 y4 y5 y6 y7 y8 y9 y10 y11) (lightclientlaw40_RelayCounts.j4 (k + 1) y0 y1 y2 y3 y4 y5 y6 y7 y8 y9 y10 y11))
  | 0 => ⟨fun _ _ _ _ _ _ _ _ _ r h => by simp [lightclientlaw40_RelayCounts.l0] at h, fun _ _ _ _ _ _ _ _ _ _ _ r h => by simp [lightclientlaw40_RelayCounts.j1] at h, fun _ _ _ _ _ _ _ _ _ _ r h => by simp [lightclientlaw40_RelayCounts.j2] at h, fun _ _ _ _ _ _ _ _ _ _ _ r h => by simp [lightclientlaw40_RelayCounts.l1] at h, fun _ _ _ _ _ _ _ _ _ _ _ _ r h => by simp [lightclientlaw40_RelayCounts.j4] at h⟩
  | k + 1 => by
    obtain ⟨ih0, ih1, ih2, ih3, ih4⟩ := lightclientlaw40_RelayCounts.mono_l k
    refine ⟨?_, ?_, ?_, ?_, ?_⟩
    · intro y0 y1 y2 y3 y4 y5 y6 y7 y8
      unfold lightclientlaw40_RelayCounts.l0
      repeat' first
      | (with_reducible exact ih0 _ _ _ _ _ _ _ _ _)
      | (with_reducible exact ih1 _ _ _ _ _ _ _ _ _ _ _)
      | (with_reducible exact ih2 _ _ _ _ _ _ _ _ _ _)
      | (with_reducible exact ih3 _ _ _ _ _ _ _ _ _ _ _)
      | (with_reducible exact ih4 _ _ _ _ _ _ _ _ _ _ _ _)
      | (with_reducible exact lightclientlaw40_graph.mono _ _)
      | (with_reducible exact lightclientlaw40_sane.mono _)
      | (with_reducible exact relay_Seen.mono _ _ _)
      | (with_reducible exact relay_Walk.mono _ _ _ _)
      | (with_reducible exact LeO.refl _)
      | (with_reducible exact LeO.none _)
      | (with_reducible refine LeO.ite ?_ ?_)
      | (with_reducible refine LeO.bind ?_ (fun _ => ?_))
      | exact ih0 _ _ _ _ _ _ _ _ _
      | exact ih1 _ _ _ _ _ _ _ _ _ _ _
      | exact ih2 _ _ _ _ _ _ _ _ _ _
      | exact ih3 _ _ _ _ _ _ _ _ _ _ _
      | exact ih4 _ _ _ _ _ _ _ _ _ _ _ _
      | exact lightclientlaw40_graph.mono _ _
      | exact lightclientlaw40_sane.mono _
      | exact relay_Seen.mono _ _ _
      | exact relay_Walk.mono _ _ _ _
      | exact LeO.none _
      | refine LeO.ite ?_ ?_
      | refine LeO.bind ?_ (fun _ => ?_)
    · intro y0 y1 y2 y3 y4 y5 y6 y7 y8 y9 y10
      unfold lightclientlaw40_RelayCounts.j1
      repeat' first
      | (with_reducible exact ih0 _ _ _ _ _ _ _ _ _)
      | (with_reducible exact ih1 _ _ _ _ _ _ _ _ _ _ _)
      | (with_reducible exact ih2 _ _ _ _ _ _ _ _ _ _)
      | (with_reducible exact ih3 _ _ _ _ _ _ _ _ _ _ _)
      | (with_reducible exact ih4 _ _ _ _ _ _ _ _ _ _ _ _)
      | (with_reducible exact lightclientlaw40_graph.mono _ _)
      | (with_reducible exact lightclientlaw40_sane.mono _)
      | (with_reducible exact relay_Seen.mono _ _ _)
      | (with_reducible exact relay_Walk.mono _ _ _ _)
      | (with_reducible exact LeO.refl _)
      | (with_reducible exact LeO.none _)
      | (with_reducible refine LeO.ite ?_ ?_)
      | (with_reducible refine LeO.bind ?_ (fun _ => ?_))
      | exact ih0 _ _ _ _ _ _ _ _ _
      | exact ih1 _ _ _ _ _ _ _ _ _ _ _
      | exact ih2 _ _ _ _ _ _ _ _ _ _
      | exact ih3 _ _ _ _ _ _ _ _ _ _ _
      | exact ih4 _ _ _ _ _ _ _ _ _ _ _ _
      | exact lightclientlaw40_graph.mono _ _
      | exact lightclientlaw40_sane.mono _
      | exact relay_Seen.mono _ _ _
      | exact relay_Walk.mono _ _ _ _
      | exact LeO.none _
      | refine LeO.ite ?_ ?_
      | refine LeO.bind ?_ (fun _ => ?_)
    · intro y0 y1 y2 y3 y4 y5 y6 y7 y8 y9
      unfold lightclientlaw40_RelayCounts.j2
      repeat' first
      | (with_reducible exact ih0 _ _ _ _ _ _ _ _ _)
      | (with_reducible exact ih1 _ _ _ _ _ _ _ _ _ _ _)
      | (with_reducible exact ih2 _ _ _ _ _ _ _ _ _ _)
      | (with_reducible exact ih3 _ _ _ _ _ _ _ _ _ _ _)
      | (with_reducible exact ih4 _ _ _ _ _ _ _ _ _ _ _ _)
      | (with_reducible exact lightclientlaw40_graph.mono _ _)
      | (with_reducible exact lightclientlaw40_sane.mono _)
      | (with_reducible exact relay_Seen.mono _ _ _)
      | (with_reducible exact relay_Walk.mono _ _ _ _)
      | (with_reducible exact LeO.refl _)
      | (with_reducible exact LeO.none _)
      | (with_reducible refine LeO.ite ?_ ?_)
      | (with_reducible refine LeO.bind ?_ (fun _ => ?_))
      | exact ih0 _ _ _ _ _ _ _ _ _
      | exact ih1 _ _ _ _ _ _ _ _ _ _ _
      | exact ih2 _ _ _ _ _ _ _ _ _ _
      | exact ih3 _ _ _ _ _ _ _ _ _ _ _
      | exact ih4 _ _ _ _ _ _ _ _ _ _ _ _
      | exact lightclientlaw40_graph.mono _ _
      | exact lightclientlaw40_sane.mono _
      | exact relay_Seen.mono _ _ _
      | exact relay_Walk.mono _ _ _ _
      | exact LeO.none _
      | refine LeO.ite ?_ ?_
      | refine LeO.bind ?_ (fun _ => ?_)
    · intro y0 y1 y2 y3 y4 y5 y6 y7 y8 y9 y10
      unfold lightclientlaw40_RelayCounts.l1
      repeat' first
      | (with_reducible exact ih0 _ _ _ _ _ _ _ _ _)
      | (with_reducible exact ih1 _ _ _ _ _ _ _ _ _ _ _)
      | (with_reducible exact ih2 _ _ _ _ _ _ _ _ _ _)
      | (with_reducible exact ih3 _ _ _ _ _ _ _ _ _ _ _)
      | (with_reducible exact ih4 _ _ _ _ _ _ _ _ _ _ _ _)
      | (with_reducible exact lightclientlaw40_graph.mono _ _)
      | (with_reducible exact lightclientlaw40_sane.mono _)
      | (with_reducible exact relay_Seen.mono _ _ _)
      | (with_reducible exact relay_Walk.mono _ _ _ _)
      | (with_reducible exact LeO.refl _)
      | (with_reducible exact LeO.none _)
      | (with_reducible refine LeO.ite ?_ ?_)
      | (with_reducible refine LeO.bind ?_ (fun _ => ?_))
      | exact ih0 _ _ _ _ _ _ _ _ _
      | exact ih1 _ _ _ _ _ _ _ _ _ _ _
      | exact ih2 _ _ _ _ _ _ _ _ _ _
      | exact ih3 _ _ _ _ _ _ _ _ _ _ _
      | exact ih4 _ _ _ _ _ _ _ _ _ _ _ _
      | exact lightclientlaw40_graph.mono _ _
      | exact lightclientlaw40_sane.mono _
      | exact relay_Seen.mono _ _ _
      | exact relay_Walk.mono _ _ _ _
      | exact LeO.none _
      | refine LeO.ite ?_ ?_
      | refine LeO.bind ?_ (fun _ => ?_)
    · intro y0 y1 y2 y3 y4 y5 y6 y7 y8 y9 y10 y11
      unfold lightclientlaw40_RelayCounts.j4
      repeat' first
      | (with_reducible exact ih0 _ _ _ _ _ _ _ _ _)
      | (with_reducible exact ih1 _ _ _ _ _ _ _ _ _ _ _)
      | (with_reducible exact ih2 _ _ _ _ _ _ _ _ _ _)
      | (with_reducible exact ih3 _ _ _ _ _ _ _ _ _ _ _)
      | (with_reducible exact ih4 _ _ _ _ _ _ _ _ _ _ _ _)
      | (with_reducible exact lightclientlaw40_graph.mono _ _)
      | (with_reducible exact lightclientlaw40_sane.mono _)
      | (with_reducible exact relay_Seen.mono _ _ _)
      | (with_reducible exact relay_Walk.mono _ _ _ _)
      | (with_reducible exact LeO.refl _)
      | (with_reducible exact LeO.none _)
      | (with_reducible refine LeO.ite ?_ ?_)
      | (with_reducible refine LeO.bind ?_ (fun _ => ?_))
      | exact ih0 _ _ _ _ _ _ _ _ _
      | exact ih1 _ _ _ _ _ _ _ _ _ _ _
      | exact ih2 _ _ _ _ _ _ _ _ _ _
      | exact ih3 _ _ _ _ _ _ _ _ _ _ _
      | exact ih4 _ _ _ _ _ _ _ _ _ _ _ _
      | exact lightclientlaw40_graph.mono _ _
      | exact lightclientlaw40_sane.mono _
      | exact relay_Seen.mono _ _ _
      | exact relay_Walk.mono _ _ _ _
      | exact LeO.none _
      | refine LeO.ite ?_ ?_
      | refine LeO.bind ?_ (fun _ => ?_)
theorem lightclientlaw40_RelayCounts.mono : ∀ a0 a1 a2 k, LeO (lightclientlaw40_RelayCounts.f k a0 a1 a2) (lightclientlaw40_RelayCounts.f (k + 1) a0 a1 a2) := by
  intro a0 a1 a2 k
  obtain ⟨ih0, ih1, ih2, ih3, ih4⟩ := lightclientlaw40_RelayCounts.mono_l k
  unfold lightclientlaw40_RelayCounts.f
  repeat' first
      | (with_reducible exact ih0 _ _ _ _ _ _ _ _ _)
      | (with_reducible exact ih1 _ _ _ _ _ _ _ _ _ _ _)
      | (with_reducible exact ih2 _ _ _ _ _ _ _ _ _ _)
      | (with_reducible exact ih3 _ _ _ _ _ _ _ _ _ _ _)
      | (with_reducible exact ih4 _ _ _ _ _ _ _ _ _ _ _ _)
      | (with_reducible exact lightclientlaw40_graph.mono _ _)
      | (with_reducible exact lightclientlaw40_sane.mono _)
      | (with_reducible exact relay_Seen.mono _ _ _)
      | (with_reducible exact relay_Walk.mono _ _ _ _)
      | (with_reducible exact LeO.refl _)
      | (with_reducible exact LeO.none _)
      | (with_reducible refine LeO.ite ?_ ?_)
      | (with_reducible refine LeO.bind ?_ (fun _ => ?_))
      | exact ih0 _ _ _ _ _ _ _ _ _
      | exact ih1 _ _ _ _ _ _ _ _ _ _ _
      | exact ih2 _ _ _ _ _ _ _ _ _ _
      | exact ih3 _ _ _ _ _ _ _ _ _ _ _
      | exact ih4 _ _ _ _ _ _ _ _ _ _ _ _
      | exact lightclientlaw40_graph.mono _ _
      | exact lightclientlaw40_sane.mono _
      | exact relay_Seen.mono _ _ _
      | exact relay_Walk.mono _ _ _ _
      | exact LeO.none _
      | refine LeO.ite ?_ ?_
      | refine LeO.bind ?_ (fun _ => ?_)
set_option maxHeartbeats 8000000 in
set_option maxRecDepth 100000 in
theorem lightclientlaw40_RelayCounts.calls (k : Nat) (A0 : Option Addr) (c0 : Nat) (l0 : List Int) (a1 : Int) (a2 : Int) (r : Bool) (w : World) (hr0 : Kd.C (Kd.int .i64) w A0 l0.length l0) (hc0 : l0.length ≤ c0) (h : lightclientlaw40_RelayCounts.f k l0 a1 a2 = some r) :
    Calls Try.prog 4 #[.slice A0 l0.length c0, .int .i64 a1, .int .i64 a2] w fun e w' => e = .returned (.bool r) ∧ Below w.heap.size w w' := by
  have HR0 := Aside0.mk hr0
  have HC0 := Aside0.mk hc0
  clear hr0 hc0
  have HB := Aside0.mk (Below.refl w.heap.size w)
  have H : ((lightclientlaw40_sane.f k).bind fun t160 => (if t160 = true then ((lightclientlaw40_graph.f k l0).bind fun bt161 => ((lightclientmill_Mod.f a1 (bt161.1.length : Int)).bind fun t170 => ((lightclientmill_Mod.f a2 (bt161.1.length : Int)).bind fun t171 => (if 0 ≤ t170 then (if t170 < (bt161.2.2.length : Int) then (lightclientlaw40_RelayCounts.l0 k bt161.1 bt161.2.1 (bt161.2.2.set (t170 : Int).toNat true) t170 t171 0 0 (bt161.1.length : Int) 0) else (none)) else (none))))) else (some false))) = some r := h
  clear h
  replace H := Option.bind_eq_some_iff.mp H
  obtain ⟨t160, A40, H⟩ := H
  replace H : (if t160 = true then ((lightclientlaw40_graph.f k l0).bind fun bt161 => ((lightclientmill_Mod.f a1 (bt161.1.length : Int)).bind fun t170 => ((lightclientmill_Mod.f a2 (bt161.1.length : Int)).bind fun t171 => (if 0 ≤ t170 then (if t170 < (bt161.2.2.length : Int) then (lightclientlaw40_RelayCounts.l0 k bt161.1 bt161.2.1 (bt161.2.2.set (t170 : Int).toNat true) t170 t171 0 0 (bt161.1.length : Int) 0) else (none)) else (none))))) else (some false)) = some r := H
  have A4 := Aside0.mk A40
  clear A40
  by_cases c5 : t160 = true
  · subst c5
    have H1 : ((lightclientlaw40_graph.f k l0).bind fun bt161 => ((lightclientmill_Mod.f a1 (bt161.1.length : Int)).bind fun t170 => ((lightclientmill_Mod.f a2 (bt161.1.length : Int)).bind fun t171 => (if 0 ≤ t170 then (if t170 < (bt161.2.2.length : Int) then (lightclientlaw40_RelayCounts.l0 k bt161.1 bt161.2.1 (bt161.2.2.set (t170 : Int).toNat true) t170 t171 0 0 (bt161.1.length : Int) 0) else (none)) else (none))))) = some r := by rw [if_pos rfl] at H; exact H
    clear H
    have H := H1
    clear H1
    replace H := Option.bind_eq_some_iff.mp H
    obtain ⟨⟨t161, t162, t163⟩, A60, H⟩ := H
    replace H : ((lightclientmill_Mod.f a1 (t161.length : Int)).bind fun t170 => ((lightclientmill_Mod.f a2 (t161.length : Int)).bind fun t171 => (if 0 ≤ t170 then (if t170 < (t163.length : Int) then (lightclientlaw40_RelayCounts.l0 k t161 t162 (t163.set (t170 : Int).toNat true) t170 t171 0 0 (t161.length : Int) 0) else (none)) else (none)))) = some r := H
    have A6 := Aside0.mk A60
    clear A60
    replace H := Option.bind_eq_some_iff.mp H
    obtain ⟨t170, A70, H⟩ := H
    replace H : ((lightclientmill_Mod.f a2 (t161.length : Int)).bind fun t171 => (if 0 ≤ t170 then (if t170 < (t163.length : Int) then (lightclientlaw40_RelayCounts.l0 k t161 t162 (t163.set (t170 : Int).toNat true) t170 t171 0 0 (t161.length : Int) 0) else (none)) else (none))) = some r := H
    have A7 := Aside0.mk A70
    clear A70
    replace H := Option.bind_eq_some_iff.mp H
    obtain ⟨t171, A80, H⟩ := H
    replace H : (if 0 ≤ t170 then (if t170 < (t163.length : Int) then (lightclientlaw40_RelayCounts.l0 k t161 t162 (t163.set (t170 : Int).toNat true) t170 t171 0 0 (t161.length : Int) 0) else (none)) else (none)) = some r := H
    have A8 := Aside0.mk A80
    clear A80
    by_cases c9 : 0 ≤ t170
    · rw [if_pos c9] at H
      have c9b0 : decide (0 ≤ t170) = true := decide_eq_true c9
      clear c9
      by_cases c10 : t170 < (t163.length : Int)
      · rw [if_pos c10] at H
        have c10b0 : decide (t170 < (t163.length : Int)) = true := decide_eq_true c10
        clear c10
        obtain ⟨y172, hy172⟩ : ∃ y_ : List Bool, y_ = (t163.set (t170 : Int).toNat true) := ⟨_, rfl⟩
        replace H : (lightclientlaw40_RelayCounts.l0 k t161 t162 y172 t170 t171 0 0 (t161.length : Int) 0) = some r := by first | (rw [hy172]; with_reducible exact H) | (have H2_ := (Option.bind_some _ _).symm.trans H; rw [hy172]; with_reducible exact H2_) | (have H2_ := (Option.bind_some _ _).symm.trans H; with_reducible exact H2_) | with_reducible exact H | (rw [hy172]; exact H) | exact H
        have Ny172 := Aside0.mk hy172
        clear hy172
        have H' := Aside0.mk H
        clear H
        go_enter Try.func4, Try.ntmps4
        go_wp2_with (first | ((with_reducible refine gate_callee (f := 7) rfl ?_); refine goesL_ (some 19) rfl rfl Try.func7 (by kernel_rfl) rfl #[] rfl (by (try simp only [List.map_toArray, List.map_cons, List.map_nil]); first | done | rfl | (simp only [List.length_drop, List.length_take]; rfl)) ?_; (with_reducible refine (lightclientlaw40_sane.calls k  true _ A4.out).mono ?_); rintro e w12 ⟨rfl, hb⟩; refine ⟨_, rfl, ?_⟩; have n0_ := Aside0.mk (below_step (by repeat (first | (with_reducible first | exact HB.out | apply below_alloc | apply pw_below_drewN | apply below_drew1) | exact HB.out)) hb); clear HB; have HB := n0_; clear n0_; (try clear hb); (try clear hb2); (try clear hk); (try clear hi)) | ((with_reducible refine gate_callee (f := 8) rfl ?_); refine goesL_ (some 23) rfl rfl Try.func8 (by kernel_rfl) rfl #[.slice A0 l0.length c0] rfl (by (try simp only [List.map_toArray, List.map_cons, List.map_nil]); first | done | rfl | (simp only [List.length_drop, List.length_take]; rfl)) ?_; (with_reducible refine (lightclientlaw40_graph.calls k _ _ l0 t161 t162 t163 _ ?side1 ?side2 A6.out).mono ?_); (case side1 => repeat (first | exact (Kd.C_below HR0.out HB.out) | (with_reducible refine Kd.C_alloc ?_ _) | (with_reducible refine Kd.C_drewN ?_ _) | (with_reducible refine Kd.C_drew ?_))); (case side2 => exact HC0.out); rintro e w13 ⟨v164, v166, v168, rfl, ho0, ho1, ho2, hb⟩; refine ⟨_, rfl, ?_⟩; have n0_ := Aside0.mk (Kd.R_lower ho0 (below_size (by repeat (first | (with_reducible first | exact HB.out | apply below_alloc | apply pw_below_drewN | apply below_drew1) | exact HB.out)))); have n1_ := Aside0.mk (Kd.R_lower ho1 (below_size (by repeat (first | (with_reducible first | exact HB.out | apply below_alloc | apply pw_below_drewN | apply below_drew1) | exact HB.out)))); have n2_ := Aside0.mk (Kd.R_lower ho2 (below_size (by repeat (first | (with_reducible first | exact HB.out | apply below_alloc | apply pw_below_drewN | apply below_drew1) | exact HB.out)))); have n3_ := Aside0.mk (below_step (by repeat (first | (with_reducible first | exact HB.out | apply below_alloc | apply pw_below_drewN | apply below_drew1) | exact HB.out)) hb); clear HB; have HO165 := n0_; have HO167 := n1_; have HO169 := n2_; have HB := n3_; clear n0_ n1_ n2_ n3_; (try clear hb); (try clear hb2); (try clear hk); (try clear hi); (try clear ho0); (try clear ho1); (try clear ho2); obtain ⟨Ao14, co14, eo14⟩ := Kd.R_slice HO165.out; subst eo14) | ((with_reducible refine gate_callee (f := 9) rfl ?_); refine goesL_ (some 30) rfl rfl Try.func9 (by kernel_rfl) rfl #[.int .i64 a1, .int .i64 (t161.length : Int)] rfl (by (try simp only [List.map_toArray, List.map_cons, List.map_nil]); first | done | rfl | (simp only [List.length_drop, List.length_take]; rfl)) ?_; (with_reducible refine (lightclientmill_Mod.calls a1 (t161.length : Int) t170 _ A7.out).mono ?_); rintro e w' ⟨rfl, ⟨nd, rfl⟩⟩; refine ⟨_, rfl, ?_⟩; (try (rw [drewN_self w13]; generalize hq_ : World.drewN w13 _ = w13; have n0_ : Aside0 (Kd.R (Kd.int .i64) 3 w13 w.heap.size (fun _ => True) (.slice Ao14 t161.length co14) t161) := ⟨by rw [← hq_]; exact (by (with_reducible repeat (first | apply Kd.R_alloc | apply Kd.R_drewN | apply Kd.R_drew)); exact HO165.out)⟩; have n1_ : Aside0 (Kd.R Kd.bool 4 w13 w.heap.size (fun k_ => some k_ ≠ (v168 : Value).ownBlock) v166 t162) := ⟨by rw [← hq_]; exact (by (with_reducible repeat (first | apply Kd.R_alloc | apply Kd.R_drewN | apply Kd.R_drew)); exact HO167.out)⟩; have n2_ : Aside0 (Kd.R Kd.bool 4 w13 w.heap.size (fun k_ => some k_ ≠ (v166 : Value).ownBlock) v168 t163) := ⟨by rw [← hq_]; exact (by (with_reducible repeat (first | apply Kd.R_alloc | apply Kd.R_drewN | apply Kd.R_drew)); exact HO169.out)⟩; have n3_ : Aside0 (Below w.heap.size w w13) := ⟨by rw [← hq_]; exact (by repeat (first | (with_reducible first | exact HB.out | apply below_alloc | apply pw_below_drewN | apply below_drew1) | exact HB.out))⟩; clear HO165 HO167 HO169 HB hq_; have HO165 := n0_; have HO167 := n1_; have HO169 := n2_; have HB := n3_; clear n0_ n1_ n2_ n3_))) | ((with_reducible refine gate_callee (f := 9) rfl ?_); refine goesL_ (some 34) rfl rfl Try.func9 (by kernel_rfl) rfl #[.int .i64 a2, .int .i64 (t161.length : Int)] rfl (by (try simp only [List.map_toArray, List.map_cons, List.map_nil]); first | done | rfl | (simp only [List.length_drop, List.length_take]; rfl)) ?_; (with_reducible refine (lightclientmill_Mod.calls a2 (t161.length : Int) t171 _ A8.out).mono ?_); rintro e w' ⟨rfl, ⟨nd, rfl⟩⟩; refine ⟨_, rfl, ?_⟩; (try (rw [drewN_self w13]; generalize hq_ : World.drewN w13 _ = w13; have n0_ : Aside0 (Kd.R (Kd.int .i64) 3 w13 w.heap.size (fun _ => True) (.slice Ao14 t161.length co14) t161) := ⟨by rw [← hq_]; exact (by (with_reducible repeat (first | apply Kd.R_alloc | apply Kd.R_drewN | apply Kd.R_drew)); exact HO165.out)⟩; have n1_ : Aside0 (Kd.R Kd.bool 4 w13 w.heap.size (fun k_ => some k_ ≠ (v168 : Value).ownBlock) v166 t162) := ⟨by rw [← hq_]; exact (by (with_reducible repeat (first | apply Kd.R_alloc | apply Kd.R_drewN | apply Kd.R_drew)); exact HO167.out)⟩; have n2_ : Aside0 (Kd.R Kd.bool 4 w13 w.heap.size (fun k_ => some k_ ≠ (v166 : Value).ownBlock) v168 t163) := ⟨by rw [← hq_]; exact (by (with_reducible repeat (first | apply Kd.R_alloc | apply Kd.R_drewN | apply Kd.R_drew)); exact HO169.out)⟩; have n3_ : Aside0 (Below w.heap.size w w13) := ⟨by rw [← hq_]; exact (by repeat (first | (with_reducible first | exact HB.out | apply below_alloc | apply pw_below_drewN | apply below_drew1) | exact HB.out))⟩; clear HO165 HO167 HO169 HB hq_; have HO165 := n0_; have HO167 := n1_; have HO169 := n2_; have HB := n3_; clear n0_ n1_ n2_ n3_)); have p11 : 0 ≤ (t170 : Int) := of_decide_eq_true (by first | (with_reducible assumption) | assumption); have q11 : (t170 : Int) < ((t163.length : Int) : Int) := of_decide_eq_true (by first | (with_reducible assumption) | assumption); obtain ⟨go11, co11, eo11, gb11, gl11, cl11, HG11⟩ := Kd.R_form HO169.out (by omega); (first | cases eo11 | (injection eo11 with ea_ en_ ec_; (first | subst ea_ | (injection ea_ with ea_; subst ea_)); subst ec_; clear en_)); have GB11 := Aside0.mk gb11; have GG11 := Aside0.mk HG11; clear gb11 gl11 HG11; obtain ⟨hx11_0, hf11_0⟩ := Kd.R_celln false HO169.out (t170 : Int) p11 q11; replace p11 := eq_true p11; replace q11 := eq_true q11; obtain ⟨hy15_, hz15_⟩ := Kd.R_celln false HO169.out (t170 : Int) (of_decide_eq_true (by first | (with_reducible assumption) | assumption)) (of_decide_eq_true (by first | (with_reducible assumption) | assumption)); have HP15 := Kd.R_putg HO169.out (t170 : Int) true) | ((with_reducible refine gate_store (t := 4) (p := 37) rfl ?_); refine store_event (t := 4) (p := 37) (v := ?vo_w16) (w1 := (w13.setCell ⟨go11, (t170 : Int).toNat, none⟩ (.bool true))) ?hg ?ho ?hn ?hr ?_; (case ho => rfl); (case hg => rfl); (case hn => rfl); (case hr => first | (go_simp; done) | (go_simp; rfl)); intro w16 hw; have hg : w13.grownBy w16 (some go11) := (by rw [hw]; exact HP15.2); have hp_ : Kd.R Kd.bool 4 w16 w.heap.size (fun k_ => some k_ ≠ (v166 : Value).ownBlock) (.slice (some ⟨go11, 0, none⟩) t163.length co11) y172 := (by rw [hw, Ny172.out]; exact HP15.1); clear HP15; have n0_ := Aside0.mk (Kd.R_over' (v := (.slice (some ⟨go11, 0, none⟩) t163.length co11)) (by (with_reducible repeat (first | apply Kd.R_alloc | apply Kd.R_drewN | apply Kd.R_drew)); exact HO165.out) (Kd.R_typed HO169.out) (by decide) hg); have n1_ := Aside0.mk (Kd.R_after (v := (.slice (some ⟨go11, 0, none⟩) t163.length co11)) (v1 := (.slice (some ⟨go11, 0, none⟩) t163.length co11)) (ok := (fun _ => True)) (by (with_reducible repeat (first | apply Kd.R_alloc | apply Kd.R_drewN | apply Kd.R_drew)); exact Kd.R_mono HO167.out (fun _ hk => ⟨trivial, hk⟩)) hg (.inl rfl)); have n2_ := Aside0.mk (hp_); have n3_ := Aside0.mk ((by rw [hw]; exact below_set (HB.out) GB11.out : Below w.heap.size w w16)); clear HO165; clear HO167; clear HO169; clear HB; have HO165 := n0_; have HO167 := n1_; have HO169 := n2_; have HB := n3_; clear n0_ n1_ n2_ n3_; clear hg hw hp_))
        go_loopg [12, 13, 40] k (fun kq v12 v13 v40 w' => ∃ (x12_1 : Int) (x13_1 : Int) (x40_1 : Int), v12 = .int .i64 x12_1 ∧ v13 = .int .i64 x13_1 ∧ v40 = .int .i64 x40_1 ∧ Aside0 (lightclientlaw40_RelayCounts.l0 kq t161 t162 y172 t170 t171 x12_1 x13_1 (t161.length : Int) x40_1 = some r) ∧ Aside0 (kq ≤ k) ∧ Aside0 (Kd.R (Kd.int .i64) 3 w' w.heap.size (fun _ => True) (.slice Ao14 t161.length co14) t161) ∧ Aside0 (Kd.R Kd.bool 4 w' w.heap.size (fun k_ => some k_ ≠ ((.slice (some ⟨go11, 0, none⟩) t163.length co11) : Value).ownBlock) v166 t162) ∧ Aside0 (Kd.R Kd.bool 4 w' w.heap.size (fun k_ => some k_ ≠ (v166 : Value).ownBlock) (.slice (some ⟨go11, 0, none⟩) t163.length co11) y172) ∧ Aside0 (Below w.heap.size w w'))
        case atStart => exact ⟨(0), (0), (0), (by first | rfl | (simp; done) | (simp [*]; done)), (by first | rfl | (simp; done) | (simp [*]; done)), (by first | rfl | (simp; done) | (simp [*]; done)), H', ⟨Nat.le_refl _⟩, ⟨by (with_reducible repeat (first | apply Kd.R_alloc | apply Kd.R_drewN | apply Kd.R_drew)); exact HO165.out⟩, ⟨by (with_reducible repeat (first | apply Kd.R_alloc | apply Kd.R_drewN | apply Kd.R_drew)); exact Kd.R_mono HO167.out (fun _ hk => hk.2)⟩, ⟨by (with_reducible repeat (first | apply Kd.R_alloc | apply Kd.R_drewN | apply Kd.R_drew)); exact HO169.out⟩, ⟨by repeat (first | (with_reducible first | exact HB.out | apply below_alloc | apply pw_below_drewN | apply below_drew1) | exact HB.out)⟩⟩
        case round =>
          clear H'
          try clear c1
          try clear p1
          try clear q1
          try clear hx1
          try clear p2
          try clear c4
          try clear c5
          try clear c7
          try clear c8
          try clear c9
          try clear c9b0
          try clear c10
          try clear c10b0
          try clear p11
          try clear q11
          try clear hx11
          try clear hf11
          try clear hx11_0
          try clear p11
          try clear q11
          obtain ⟨x12_1, x13_1, x40_1, rfl, rfl, rfl, HA, HK1, HO_7, HO_8, HO_9, HB⟩ := hrel
          have hl9_1 := (Kd.R_reads' HO_9.out).1
          rw [hl9_1] at HO_9
          (try simp only [hl9_1])
          (try simp only [hl9_1] at HO_7)
          (try simp only [hl9_1] at HO_8)
          cases gk with
          | zero => exact absurd HA.out (by simp [lightclientlaw40_RelayCounts.l0])
          | succ k1 =>
            have H := HA.out
            clear HA
            simp only [lightclientlaw40_RelayCounts.l0] at H
            by_cases c17 : x40_1 < (t161.length : Int)
            · rw [if_pos c17] at H
              have c17b0 : decide (x40_1 < (t161.length : Int)) = true := decide_eq_true c17
              clear c17
              replace H := Option.bind_eq_some_iff.mp H
              obtain ⟨t173, A180, H⟩ := H
              replace H : ((relay_Seen.f k1 t173 y172).bind fun bt176 => (if bt176.1 ≥ 0 then (if bt176.1 < (t173.length : Int) then (if 0 ≤ bt176.1 then (if (rd t173 bt176.1) = t170 then (lightclientlaw40_RelayCounts.j1 k1 t161 t162 y172 t170 t171 x12_1 x13_1 t173 (t161.length : Int) x40_1 (bt176.2 == t171)) else (lightclientlaw40_RelayCounts.j1 k1 t161 t162 y172 t170 t171 x12_1 x13_1 t173 (t161.length : Int) x40_1 false)) else (none)) else (lightclientlaw40_RelayCounts.j1 k1 t161 t162 y172 t170 t171 x12_1 x13_1 t173 (t161.length : Int) x40_1 false)) else (lightclientlaw40_RelayCounts.j1 k1 t161 t162 y172 t170 t171 x12_1 x13_1 t173 (t161.length : Int) x40_1 false))) = some r := H
              have A18 := Aside0.mk A180
              clear A180
              replace H := Option.bind_eq_some_iff.mp H
              obtain ⟨⟨t176, t177⟩, A190, H⟩ := H
              replace H : (if t176 ≥ 0 then (if t176 < (t173.length : Int) then (if 0 ≤ t176 then (if (rd t173 t176) = t170 then (lightclientlaw40_RelayCounts.j1 k1 t161 t162 y172 t170 t171 x12_1 x13_1 t173 (t161.length : Int) x40_1 (t177 == t171)) else (lightclientlaw40_RelayCounts.j1 k1 t161 t162 y172 t170 t171 x12_1 x13_1 t173 (t161.length : Int) x40_1 false)) else (none)) else (lightclientlaw40_RelayCounts.j1 k1 t161 t162 y172 t170 t171 x12_1 x13_1 t173 (t161.length : Int) x40_1 false)) else (lightclientlaw40_RelayCounts.j1 k1 t161 t162 y172 t170 t171 x12_1 x13_1 t173 (t161.length : Int) x40_1 false)) = some r := H
              have A19 := Aside0.mk A190
              clear A190
              have HC20 := Aside0.mk H
              clear H
              obtain ⟨Ao21, co21, eo21⟩ := Kd.R_slice HO_8.out
              subst eo21
              go_upto_region 12 with (first | ((with_reducible refine gate_callee (f := 10) rfl ?_); refine goesL_ (some 46) rfl rfl Try.func10 (by kernel_rfl) rfl #[.slice Ao14 t161.length co14, .slice Ao21 t162.length co21, .int .i64 x40_1] rfl (by (try simp only [List.map_toArray, List.map_cons, List.map_nil]); first | done | rfl | (simp only [List.length_drop, List.length_take]; rfl)) ?_; (with_reducible refine (relay_Walk.calls k1 _ _ t161 _ _ t162 x40_1 t173 _ ?side1 ?side2 ?side3 ?side4 A18.out).mono ?_); (case side1 => repeat (first | exact (Kd.R_reads' HO_7.out).2.2 | (with_reducible refine Kd.C_alloc ?_ _) | (with_reducible refine Kd.C_drewN ?_ _) | (with_reducible refine Kd.C_drew ?_))); (case side2 => exact (Kd.R_reads' HO_7.out).2.1); (case side3 => repeat (first | exact (Kd.R_reads' HO_8.out).2.2 | (with_reducible refine Kd.C_alloc ?_ _) | (with_reducible refine Kd.C_drewN ?_ _) | (with_reducible refine Kd.C_drew ?_))); (case side4 => exact (Kd.R_reads' HO_8.out).2.1); rintro e w22 ⟨v174, rfl, ho0, hb⟩; refine ⟨_, rfl, ?_⟩; have n0_ := Aside0.mk (Kd.R_elder' (by (with_reducible repeat (first | apply Kd.R_alloc | apply Kd.R_drewN | apply Kd.R_drew)); exact HO_7.out) (Kd.R_base ho0) hb); have n1_ := Aside0.mk (Kd.R_below (by (with_reducible repeat (first | apply Kd.R_alloc | apply Kd.R_drewN | apply Kd.R_drew)); exact HO_8.out) hb); have n2_ := Aside0.mk (Kd.R_below (by (with_reducible repeat (first | apply Kd.R_alloc | apply Kd.R_drewN | apply Kd.R_drew)); exact HO_9.out) hb); have n3_ := Aside0.mk (Kd.R_lower (Kd.R_new' ho0 (Kd.R_lt (by (with_reducible repeat (first | apply Kd.R_alloc | apply Kd.R_drewN | apply Kd.R_drew)); exact HO_7.out))) (below_size (by repeat (first | (with_reducible first | exact HB.out | apply below_alloc | apply pw_below_drewN | apply below_drew1) | exact HB.out)))); have n4_ := Aside0.mk (below_step (by repeat (first | (with_reducible first | exact HB.out | apply below_alloc | apply pw_below_drewN | apply below_drew1) | exact HB.out)) hb); clear HO_7; clear HO_8; clear HO_9; clear HB; have HO_7 := n0_; have HO_8 := n1_; have HO_9 := n2_; have HO175 := n3_; have HB := n4_; clear n0_ n1_ n2_ n3_ n4_; (try clear hb); (try clear hb2); (try clear hk); (try clear hi); (try clear ho0); obtain ⟨Ao23, co23, eo23⟩ := Kd.R_slice HO175.out; subst eo23) | ((with_reducible refine gate_callee (f := 11) rfl ?_); refine goesL_ (some 50) rfl rfl Try.func11 (by kernel_rfl) rfl #[.slice Ao23 t173.length co23, .slice (some ⟨go11, 0, none⟩) y172.length co11] rfl (by (try simp only [List.map_toArray, List.map_cons, List.map_nil]); first | done | rfl | (simp only [List.length_drop, List.length_take]; rfl)) ?_; (with_reducible refine (relay_Seen.calls k1 _ _ t173 _ _ y172 t176 t177 _ ?side1 ?side2 ?side3 ?side4 A19.out).mono ?_); (case side1 => repeat (first | exact (Kd.R_reads' HO175.out).2.2 | (with_reducible refine Kd.C_alloc ?_ _) | (with_reducible refine Kd.C_drewN ?_ _) | (with_reducible refine Kd.C_drew ?_))); (case side2 => exact (Kd.R_reads' HO175.out).2.1); (case side3 => repeat (first | exact (Kd.R_reads' HO_9.out).2.2 | (with_reducible refine Kd.C_alloc ?_ _) | (with_reducible refine Kd.C_drewN ?_ _) | (with_reducible refine Kd.C_drew ?_))); (case side4 => exact (Kd.R_reads' HO_9.out).2.1); rintro e w' ⟨rfl, ⟨nd, rfl⟩⟩; refine ⟨_, rfl, ?_⟩))
              (try simp only [Act.put, List.setIfInBounds_toArray, List.set_cons_zero, List.set_cons_succ])
              go_cut [73] (fun v73 wc => ∃ (kq : Nat) (x73_19 : Bool), v73 = .bool x73_19 ∧ Aside0 (lightclientlaw40_RelayCounts.j1 kq t161 t162 y172 t170 t171 x12_1 x13_1 t173 (t161.length : Int) x40_1 x73_19 = some r) ∧ Aside0 (kq ≤ k1) ∧ Aside0 (Kd.R (Kd.int .i64) 3 wc w.heap.size (fun k_ => some k_ ≠ ((.slice Ao23 t173.length co23) : Value).ownBlock) (.slice Ao14 t161.length co14) t161) ∧ Aside0 (Kd.R Kd.bool 4 wc w.heap.size (fun k_ => some k_ ≠ ((.slice (some ⟨go11, 0, none⟩) y172.length co11) : Value).ownBlock) (.slice Ao21 t162.length co21) t162) ∧ Aside0 (Kd.R Kd.bool 4 wc w.heap.size (fun k_ => some k_ ≠ ((.slice Ao21 t162.length co21) : Value).ownBlock) (.slice (some ⟨go11, 0, none⟩) y172.length co11) y172) ∧ Aside0 (Kd.R (Kd.int .i64) 3 wc w.heap.size (fun k_ => some k_ ≠ ((.slice Ao14 t161.length co14) : Value).ownBlock) (.slice Ao23 t173.length co23) t173) ∧ Aside0 (Below w.heap.size w wc))
              case first =>
                have H := HC20.out
                clear HC20
                by_cases c24 : t176 ≥ 0
                · rw [if_pos c24] at H
                  have c24b0 : decide (0 ≤ t176) = true := decide_eq_true c24
                  clear c24
                  (first | rw [c24b0] | (simp only [i64_w, i32_w]; rw [c24b0]) | skip)
                  by_cases c25 : t176 < (t173.length : Int)
                  · rw [if_pos c25] at H
                    have c25b0 : decide (t176 < (t173.length : Int)) = true := decide_eq_true c25
                    clear c25
                    by_cases c26 : 0 ≤ t176
                    · rw [if_pos c26] at H
                      have c26b0 : decide (0 ≤ t176) = true := decide_eq_true c26
                      clear c26
                      by_cases c27 : (rd t173 t176) = t170
                      · rw [if_pos c27] at H
                        have c27b0 : ((rd t173 t176) == t170) = true := beq_iff_eq.mpr c27
                        have c27b1 : ((rd t173 t176) != t170) = false := bne_eq_false_iff_eq.mpr c27
                        clear c27
                        have H' := Aside0.mk H
                        clear H
                        have p178 : 0 ≤ (t176 : Int) := of_decide_eq_true (by first | (with_reducible assumption) | assumption)
                        have q178 : t176 < (t173.length : Int) := of_decide_eq_true (by first | (with_reducible assumption) | assumption)
                        obtain ⟨ad178, e178, hx178_0⟩ := Kd.at_int (Kd.R_reads' HO175.out).2.2 t176 p178 q178
                        cases e178
                        replace p178 := eq_true p178
                        replace q178 := eq_true q178
                        go_wp2
                        go_meet
                        case rel => exact ⟨_, ((t177 == t171)), (by first | rfl | (simp; done) | (simp [*]; done)), H', ⟨by have := HK1.out; first | omega | exact Nat.le_refl _⟩, ⟨by (try simp only [hl9_1]); (with_reducible repeat (first | apply Kd.R_alloc | apply Kd.R_drewN | apply Kd.R_drew)); exact Kd.R_mono HO_7.out (fun _ hk => hk.2)⟩, ⟨by (try simp only [hl9_1]); (with_reducible repeat (first | apply Kd.R_alloc | apply Kd.R_drewN | apply Kd.R_drew)); exact HO_8.out⟩, ⟨by (try simp only [hl9_1]); (with_reducible repeat (first | apply Kd.R_alloc | apply Kd.R_drewN | apply Kd.R_drew)); exact HO_9.out⟩, ⟨by (try simp only [hl9_1]); (with_reducible repeat (first | apply Kd.R_alloc | apply Kd.R_drewN | apply Kd.R_drew)); exact Kd.R_mono HO175.out (fun _ hk => hk.2)⟩, ⟨by repeat (first | (with_reducible first | exact HB.out | apply below_alloc | apply pw_below_drewN | apply below_drew1) | exact HB.out)⟩⟩
                      · rw [if_neg c27] at H
                        have c27b0 : ((rd t173 t176) == t170) = false := beq_eq_false_iff_ne.mpr c27
                        have c27b1 : ((rd t173 t176) != t170) = true := bne_iff_ne.mpr c27
                        have H' := Aside0.mk H
                        clear H
                        have p178 : 0 ≤ (t176 : Int) := of_decide_eq_true (by first | (with_reducible assumption) | assumption)
                        have q178 : t176 < (t173.length : Int) := of_decide_eq_true (by first | (with_reducible assumption) | assumption)
                        obtain ⟨ad178, e178, hx178_0⟩ := Kd.at_int (Kd.R_reads' HO175.out).2.2 t176 p178 q178
                        cases e178
                        replace p178 := eq_true p178
                        replace q178 := eq_true q178
                        go_wp2
                        go_meet
                        case rel => exact ⟨_, (false), (by first | rfl | (simp; done) | (simp [*]; done)), H', ⟨by have := HK1.out; first | omega | exact Nat.le_refl _⟩, ⟨by (try simp only [hl9_1]); (with_reducible repeat (first | apply Kd.R_alloc | apply Kd.R_drewN | apply Kd.R_drew)); exact Kd.R_mono HO_7.out (fun _ hk => hk.2)⟩, ⟨by (try simp only [hl9_1]); (with_reducible repeat (first | apply Kd.R_alloc | apply Kd.R_drewN | apply Kd.R_drew)); exact HO_8.out⟩, ⟨by (try simp only [hl9_1]); (with_reducible repeat (first | apply Kd.R_alloc | apply Kd.R_drewN | apply Kd.R_drew)); exact HO_9.out⟩, ⟨by (try simp only [hl9_1]); (with_reducible repeat (first | apply Kd.R_alloc | apply Kd.R_drewN | apply Kd.R_drew)); exact Kd.R_mono HO175.out (fun _ hk => hk.2)⟩, ⟨by repeat (first | (with_reducible first | exact HB.out | apply below_alloc | apply pw_below_drewN | apply below_drew1) | exact HB.out)⟩⟩
                    · rw [if_neg c26] at H
                      exact absurd H (by simp)
                  · rw [if_neg c25] at H
                    have c25b0 : decide (t176 < (t173.length : Int)) = false := decide_eq_false c25
                    clear c25
                    have H' := Aside0.mk H
                    clear H
                    go_wp2
                    go_meet
                    case rel => exact ⟨_, (false), (by first | rfl | (simp; done) | (simp [*]; done)), H', ⟨by have := HK1.out; first | omega | exact Nat.le_refl _⟩, ⟨by (try simp only [hl9_1]); (with_reducible repeat (first | apply Kd.R_alloc | apply Kd.R_drewN | apply Kd.R_drew)); exact Kd.R_mono HO_7.out (fun _ hk => hk.2)⟩, ⟨by (try simp only [hl9_1]); (with_reducible repeat (first | apply Kd.R_alloc | apply Kd.R_drewN | apply Kd.R_drew)); exact HO_8.out⟩, ⟨by (try simp only [hl9_1]); (with_reducible repeat (first | apply Kd.R_alloc | apply Kd.R_drewN | apply Kd.R_drew)); exact HO_9.out⟩, ⟨by (try simp only [hl9_1]); (with_reducible repeat (first | apply Kd.R_alloc | apply Kd.R_drewN | apply Kd.R_drew)); exact Kd.R_mono HO175.out (fun _ hk => hk.2)⟩, ⟨by repeat (first | (with_reducible first | exact HB.out | apply below_alloc | apply pw_below_drewN | apply below_drew1) | exact HB.out)⟩⟩
                · rw [if_neg c24] at H
                  have c24b0 : decide (0 ≤ t176) = false := decide_eq_false c24
                  clear c24
                  (first | rw [c24b0] | (simp only [i64_w, i32_w]; rw [c24b0]) | skip)
                  have H' := Aside0.mk H
                  clear H
                  go_wp2
                  go_meet
                  case rel => exact ⟨_, (false), (by first | rfl | (simp; done) | (simp [*]; done)), H', ⟨by have := HK1.out; first | omega | exact Nat.le_refl _⟩, ⟨by (try simp only [hl9_1]); (with_reducible repeat (first | apply Kd.R_alloc | apply Kd.R_drewN | apply Kd.R_drew)); exact Kd.R_mono HO_7.out (fun _ hk => hk.2)⟩, ⟨by (try simp only [hl9_1]); (with_reducible repeat (first | apply Kd.R_alloc | apply Kd.R_drewN | apply Kd.R_drew)); exact HO_8.out⟩, ⟨by (try simp only [hl9_1]); (with_reducible repeat (first | apply Kd.R_alloc | apply Kd.R_drewN | apply Kd.R_drew)); exact HO_9.out⟩, ⟨by (try simp only [hl9_1]); (with_reducible repeat (first | apply Kd.R_alloc | apply Kd.R_drewN | apply Kd.R_drew)); exact Kd.R_mono HO175.out (fun _ hk => hk.2)⟩, ⟨by repeat (first | (with_reducible first | exact HB.out | apply below_alloc | apply pw_below_drewN | apply below_drew1) | exact HB.out)⟩⟩
              case rest =>
                clear HC20
                try clear c1
                try clear p1
                try clear q1
                try clear hx1
                try clear c2
                try clear p2
                try clear c4
                try clear c5
                try clear c7
                try clear c8
                try clear c9
                try clear c9b0
                try clear c10
                try clear c10b0
                try clear c11
                try clear p11
                try clear q11
                try clear hx11
                try clear hf11
                try clear c17
                try clear c17b0
                try clear p17
                try clear q17
                try clear hx17
                try clear c24
                try clear c24b0
                try clear c25
                try clear c25b0
                try clear c26
                try clear c26b0
                try clear c27
                try clear c27b0
                try clear c27b1
                try clear hx11_0
                try clear hx178_0
                try clear p1
                try clear p11
                try clear p178
                try clear p2
                try clear q1
                try clear q11
                try clear q178
                obtain ⟨kq, x73_19, rfl, HA, HJ19, HO_7, HO_8, HO_9, HO_15, HB⟩ := hcut
                cases kq with
                | zero => exact absurd HA.out (by simp [lightclientlaw40_RelayCounts.j1])
                | succ kj19 =>
                  have H := HA.out
                  clear HA
                  simp only [lightclientlaw40_RelayCounts.j1] at H
                  have HC28 := Aside0.mk H
                  clear H
                  go_upto_if 73 with (fail)
                  go_cut [12] (fun v12 wc => ∃ (kq : Nat) (x12_27 : Int), v12 = .int .i64 x12_27 ∧ Aside0 (lightclientlaw40_RelayCounts.j2 kq t161 t162 y172 t170 t171 x12_27 x13_1 t173 (t161.length : Int) x40_1 = some r) ∧ Aside0 (kq ≤ kj19) ∧ Aside0 (Kd.R (Kd.int .i64) 3 wc w.heap.size (fun k_ => some k_ ≠ ((.slice Ao23 t173.length co23) : Value).ownBlock) (.slice Ao14 t161.length co14) t161) ∧ Aside0 (Kd.R Kd.bool 4 wc w.heap.size (fun k_ => some k_ ≠ ((.slice (some ⟨go11, 0, none⟩) y172.length co11) : Value).ownBlock) (.slice Ao21 t162.length co21) t162) ∧ Aside0 (Kd.R Kd.bool 4 wc w.heap.size (fun k_ => some k_ ≠ ((.slice Ao21 t162.length co21) : Value).ownBlock) (.slice (some ⟨go11, 0, none⟩) y172.length co11) y172) ∧ Aside0 (Kd.R (Kd.int .i64) 3 wc w.heap.size (fun k_ => some k_ ≠ ((.slice Ao14 t161.length co14) : Value).ownBlock) (.slice Ao23 t173.length co23) t173) ∧ Aside0 (Below w.heap.size w wc))
                  case first =>
                    have H := HC28.out
                    clear HC28
                    by_cases c29 : x73_19 = true
                    · subst c29
                      have H1 : (lightclientlaw40_RelayCounts.j2 kj19 t161 t162 y172 t170 t171 (wrap64 (x12_1 + 1)) x13_1 t173 (t161.length : Int) x40_1) = some r := by rw [if_pos rfl] at H; exact H
                      clear H
                      have H := H1
                      clear H1
                      have H' := Aside0.mk H
                      clear H
                      go_wp2
                      go_meet
                      case rel => exact ⟨_, (wrap64 (x12_1 + 1)), (by first | rfl | (simp; done) | (simp [*]; done)), H', ⟨by have := HK1.out; have := HJ19.out; first | omega | exact Nat.le_refl _⟩, ⟨by (try simp only [hl9_1]); (with_reducible repeat (first | apply Kd.R_alloc | apply Kd.R_drewN | apply Kd.R_drew)); exact HO_7.out⟩, ⟨by (try simp only [hl9_1]); (with_reducible repeat (first | apply Kd.R_alloc | apply Kd.R_drewN | apply Kd.R_drew)); exact HO_8.out⟩, ⟨by (try simp only [hl9_1]); (with_reducible repeat (first | apply Kd.R_alloc | apply Kd.R_drewN | apply Kd.R_drew)); exact HO_9.out⟩, ⟨by (try simp only [hl9_1]); (with_reducible repeat (first | apply Kd.R_alloc | apply Kd.R_drewN | apply Kd.R_drew)); exact HO_15.out⟩, ⟨by repeat (first | (with_reducible first | exact HB.out | apply below_alloc | apply pw_below_drewN | apply below_drew1) | exact HB.out)⟩⟩
                    · replace c29 := Bool.eq_false_iff.mpr c29
                      subst c29
                      have H1 : (lightclientlaw40_RelayCounts.j2 kj19 t161 t162 y172 t170 t171 x12_1 x13_1 t173 (t161.length : Int) x40_1) = some r := by rw [if_neg (show ¬ (false = true) by decide)] at H; exact H
                      clear H
                      have H := H1
                      clear H1
                      have H' := Aside0.mk H
                      clear H
                      go_wp2
                      go_meet
                      case rel => exact ⟨_, (x12_1), (by first | rfl | (simp; done) | (simp [*]; done)), H', ⟨by have := HK1.out; have := HJ19.out; first | omega | exact Nat.le_refl _⟩, ⟨by (try simp only [hl9_1]); (with_reducible repeat (first | apply Kd.R_alloc | apply Kd.R_drewN | apply Kd.R_drew)); exact HO_7.out⟩, ⟨by (try simp only [hl9_1]); (with_reducible repeat (first | apply Kd.R_alloc | apply Kd.R_drewN | apply Kd.R_drew)); exact HO_8.out⟩, ⟨by (try simp only [hl9_1]); (with_reducible repeat (first | apply Kd.R_alloc | apply Kd.R_drewN | apply Kd.R_drew)); exact HO_9.out⟩, ⟨by (try simp only [hl9_1]); (with_reducible repeat (first | apply Kd.R_alloc | apply Kd.R_drewN | apply Kd.R_drew)); exact HO_15.out⟩, ⟨by repeat (first | (with_reducible first | exact HB.out | apply below_alloc | apply pw_below_drewN | apply below_drew1) | exact HB.out)⟩⟩
                  case rest =>
                    clear HC28
                    try clear c1
                    try clear p1
                    try clear q1
                    try clear hx1
                    try clear c2
                    try clear p2
                    try clear c4
                    try clear c5
                    try clear p6
                    try clear c7
                    try clear c8
                    try clear c9
                    try clear c9b0
                    try clear c10
                    try clear c10b0
                    try clear c11
                    try clear p11
                    try clear q11
                    try clear hx11
                    try clear hf11
                    try clear c17
                    try clear c17b0
                    try clear p17
                    try clear q17
                    try clear hx17
                    try clear c24
                    try clear c24b0
                    try clear c25
                    try clear c25b0
                    try clear c26
                    try clear c26b0
                    try clear c27
                    try clear c27b0
                    try clear c27b1
                    try clear c29
                    try clear hx11_0
                    try clear hx178_0
                    try clear p1
                    try clear p11
                    try clear p17
                    try clear p178
                    try clear p2
                    try clear q1
                    try clear q11
                    try clear q17
                    try clear q178
                    obtain ⟨kq, x12_27, rfl, HA, HJ27, HO_7, HO_8, HO_9, HO_15, HB⟩ := hcut
                    cases kq with
                    | zero => exact absurd HA.out (by simp [lightclientlaw40_RelayCounts.j2])
                    | succ kj27 =>
                      have H := HA.out
                      clear HA
                      simp only [lightclientlaw40_RelayCounts.j2] at H
                      have H' := Aside0.mk H
                      clear H
                      go_wp2
                      go_loopg [13, 18] kj27 (fun kq v13 v18 w' => ∃ (x13_4 : Int) (x18_4 : Int), v13 = .int .i64 x13_4 ∧ v18 = .int .i64 x18_4 ∧ Aside0 (lightclientlaw40_RelayCounts.l1 kq t161 t162 y172 t170 t171 x12_27 x13_4 t173 x18_4 (t161.length : Int) x40_1 = some r) ∧ Aside0 (kq ≤ kj27) ∧ Aside0 (Kd.R (Kd.int .i64) 3 w' w.heap.size (fun k_ => some k_ ≠ ((.slice Ao23 t173.length co23) : Value).ownBlock) (.slice Ao14 t161.length co14) t161) ∧ Aside0 (Kd.R Kd.bool 4 w' w.heap.size (fun k_ => some k_ ≠ ((.slice (some ⟨go11, 0, none⟩) y172.length co11) : Value).ownBlock) (.slice Ao21 t162.length co21) t162) ∧ Aside0 (Kd.R Kd.bool 4 w' w.heap.size (fun k_ => some k_ ≠ ((.slice Ao21 t162.length co21) : Value).ownBlock) (.slice (some ⟨go11, 0, none⟩) y172.length co11) y172) ∧ Aside0 (Kd.R (Kd.int .i64) 3 w' w.heap.size (fun k_ => some k_ ≠ ((.slice Ao14 t161.length co14) : Value).ownBlock) (.slice Ao23 t173.length co23) t173) ∧ Aside0 (Below w.heap.size w w'))
                      case atStart => exact ⟨(x13_1), (1), (by first | rfl | (simp; done) | (simp [*]; done)), (by first | rfl | (simp; done) | (simp [*]; done)), H', ⟨Nat.le_refl _⟩, ⟨by (try simp only [hl9_1]); (with_reducible repeat (first | apply Kd.R_alloc | apply Kd.R_drewN | apply Kd.R_drew)); exact HO_7.out⟩, ⟨by (try simp only [hl9_1]); (with_reducible repeat (first | apply Kd.R_alloc | apply Kd.R_drewN | apply Kd.R_drew)); exact HO_8.out⟩, ⟨by (try simp only [hl9_1]); (with_reducible repeat (first | apply Kd.R_alloc | apply Kd.R_drewN | apply Kd.R_drew)); exact HO_9.out⟩, ⟨by (try simp only [hl9_1]); (with_reducible repeat (first | apply Kd.R_alloc | apply Kd.R_drewN | apply Kd.R_drew)); exact HO_15.out⟩, ⟨by repeat (first | (with_reducible first | exact HB.out | apply below_alloc | apply pw_below_drewN | apply below_drew1) | exact HB.out)⟩⟩
                      case round =>
                        clear H'
                        try clear c1
                        try clear p1
                        try clear q1
                        try clear hx1
                        try clear c2
                        try clear p2
                        try clear c4
                        try clear c5
                        try clear p6
                        try clear c7
                        try clear c8
                        try clear c9
                        try clear c9b0
                        try clear c10
                        try clear c10b0
                        try clear c11
                        try clear p11
                        try clear q11
                        try clear hx11
                        try clear hf11
                        try clear c17
                        try clear c17b0
                        try clear p17
                        try clear q17
                        try clear hx17
                        try clear c24
                        try clear c24b0
                        try clear c25
                        try clear c25b0
                        try clear c26
                        try clear c26b0
                        try clear c27
                        try clear c27b0
                        try clear c27b1
                        try clear c29
                        try clear hx11_0
                        try clear hx178_0
                        try clear p1
                        try clear p11
                        try clear p17
                        try clear p178
                        try clear p2
                        try clear p6
                        try clear q1
                        try clear q11
                        try clear q17
                        try clear q178
                        obtain ⟨x13_4, x18_4, rfl, rfl, HA, HK4, HO_7, HO_8, HO_9, HO_15, HB⟩ := hrel
                        cases gk with
                        | zero => exact absurd HA.out (by simp [lightclientlaw40_RelayCounts.l1])
                        | succ k4 =>
                          have H := HA.out
                          clear HA
                          simp only [lightclientlaw40_RelayCounts.l1] at H
                          by_cases c30 : x18_4 < (t173.length : Int)
                          · rw [if_pos c30] at H
                            have c30b0 : decide (x18_4 < (t173.length : Int)) = true := decide_eq_true c30
                            clear c30
                            have HC31 := Aside0.mk H
                            clear H
                            go_upto_region 17 with (fail)
                            go_cut [96] (fun v96 wc => ∃ (kq : Nat) (x96_30 : Bool), v96 = .bool x96_30 ∧ Aside0 (lightclientlaw40_RelayCounts.j4 kq t161 t162 y172 t170 t171 x12_27 x13_4 t173 x18_4 (t161.length : Int) x40_1 x96_30 = some r) ∧ Aside0 (kq ≤ k4) ∧ Aside0 (Kd.R (Kd.int .i64) 3 wc w.heap.size (fun k_ => some k_ ≠ ((.slice Ao23 t173.length co23) : Value).ownBlock) (.slice Ao14 t161.length co14) t161) ∧ Aside0 (Kd.R Kd.bool 4 wc w.heap.size (fun k_ => some k_ ≠ ((.slice (some ⟨go11, 0, none⟩) y172.length co11) : Value).ownBlock) (.slice Ao21 t162.length co21) t162) ∧ Aside0 (Kd.R Kd.bool 4 wc w.heap.size (fun k_ => some k_ ≠ ((.slice Ao21 t162.length co21) : Value).ownBlock) (.slice (some ⟨go11, 0, none⟩) y172.length co11) y172) ∧ Aside0 (Kd.R (Kd.int .i64) 3 wc w.heap.size (fun k_ => some k_ ≠ ((.slice Ao14 t161.length co14) : Value).ownBlock) (.slice Ao23 t173.length co23) t173) ∧ Aside0 (Below w.heap.size w wc))
                            case first =>
                              have H := HC31.out
                              clear HC31
                              by_cases c32 : 0 ≤ x18_4
                              · rw [if_pos c32] at H
                                have c32b0 : decide (0 ≤ x18_4) = true := decide_eq_true c32
                                clear c32
                                (first | rw [c32b0] | (simp only [i64_w, i32_w]; rw [c32b0]) | skip)
                                by_cases c33 : (rd t173 x18_4) = t170
                                · rw [if_pos c33] at H
                                  have c33b0 : ((rd t173 x18_4) == t170) = true := beq_iff_eq.mpr c33
                                  have c33b1 : ((rd t173 x18_4) != t170) = false := bne_eq_false_iff_eq.mpr c33
                                  clear c33
                                  obtain ⟨ji34, hji34⟩ : ∃ j_ : Int, (wrap64 (x18_4 - 1)) = j_ := ⟨_, rfl⟩
                                  replace H : (if 0 ≤ (ji34) then (if (ji34) < (t173.length : Int) then (lightclientlaw40_RelayCounts.j4 k4 t161 t162 y172 t170 t171 x12_27 x13_4 t173 x18_4 (t161.length : Int) x40_1 ((rd t173 (ji34)) == t171)) else (none)) else (none)) = some r := by first | (rw [hji34] at H; exact H) | (simp only [hji34] at H ⊢; exact H)
                                  have hji34w : (IntKind.i64.wrap (x18_4 - 1)) = ji34 := (i64_w _).trans hji34
                                  by_cases c35 : 0 ≤ (ji34)
                                  · rw [if_pos c35] at H
                                    have c35b0 : decide (0 ≤ (ji34)) = true := decide_eq_true c35
                                    clear c35
                                    by_cases c36 : (ji34) < (t173.length : Int)
                                    · rw [if_pos c36] at H
                                      have c36b0 : decide ((ji34) < (t173.length : Int)) = true := decide_eq_true c36
                                      clear c36
                                      have H' := Aside0.mk H
                                      clear H
                                      have p179 : 0 ≤ (x18_4 : Int) := of_decide_eq_true (by first | (with_reducible assumption) | assumption)
                                      have q179 : x18_4 < (t173.length : Int) := of_decide_eq_true (by first | (with_reducible assumption) | assumption)
                                      obtain ⟨ad179, e179, hx179_0⟩ := Kd.at_int (Kd.R_reads' HO_15.out).2.2 x18_4 p179 q179
                                      cases e179
                                      replace p179 := eq_true p179
                                      replace q179 := eq_true q179
                                      have p180 : 0 ≤ ((ji34) : Int) := of_decide_eq_true (by first | (with_reducible assumption) | assumption)
                                      have q180 : (ji34) < (t173.length : Int) := of_decide_eq_true (by first | (with_reducible assumption) | assumption)
                                      obtain ⟨ad180, e180, hx180_0⟩ := Kd.at_int (Kd.R_reads' HO_15.out).2.2 (ji34) p180 q180
                                      obtain rfl : ad179 = ad180 := (by injection e180)
                                      replace p180 := eq_true p180
                                      replace q180 := eq_true q180
                                      go_wp2
                                      go_meet
                                      case rel => exact ⟨_, (((rd t173 (ji34)) == t171)), (by first | rfl | (simp; done) | (simp only [← hji34] <;> (first | rfl | simp)) | (simp [*]; done)), H', ⟨by have := HK1.out; have := HJ19.out; have := HJ27.out; have := HK4.out; first | omega | exact Nat.le_refl _⟩, ⟨by (try simp only [hl9_1]); (with_reducible repeat (first | apply Kd.R_alloc | apply Kd.R_drewN | apply Kd.R_drew)); exact HO_7.out⟩, ⟨by (try simp only [hl9_1]); (with_reducible repeat (first | apply Kd.R_alloc | apply Kd.R_drewN | apply Kd.R_drew)); exact HO_8.out⟩, ⟨by (try simp only [hl9_1]); (with_reducible repeat (first | apply Kd.R_alloc | apply Kd.R_drewN | apply Kd.R_drew)); exact HO_9.out⟩, ⟨by (try simp only [hl9_1]); (with_reducible repeat (first | apply Kd.R_alloc | apply Kd.R_drewN | apply Kd.R_drew)); exact HO_15.out⟩, ⟨by repeat (first | (with_reducible first | exact HB.out | apply below_alloc | apply pw_below_drewN | apply below_drew1) | exact HB.out)⟩⟩
                                    · rw [if_neg c36] at H
                                      exact absurd H (by simp)
                                  · rw [if_neg c35] at H
                                    exact absurd H (by simp)
                                · rw [if_neg c33] at H
                                  have c33b0 : ((rd t173 x18_4) == t170) = false := beq_eq_false_iff_ne.mpr c33
                                  have c33b1 : ((rd t173 x18_4) != t170) = true := bne_iff_ne.mpr c33
                                  have H' := Aside0.mk H
                                  clear H
                                  have p179 : 0 ≤ (x18_4 : Int) := of_decide_eq_true (by first | (with_reducible assumption) | assumption)
                                  have q179 : x18_4 < (t173.length : Int) := of_decide_eq_true (by first | (with_reducible assumption) | assumption)
                                  obtain ⟨ad179, e179, hx179_0⟩ := Kd.at_int (Kd.R_reads' HO_15.out).2.2 x18_4 p179 q179
                                  cases e179
                                  replace p179 := eq_true p179
                                  replace q179 := eq_true q179
                                  go_wp2
                                  go_meet
                                  case rel => exact ⟨_, (false), (by first | rfl | (simp; done) | (simp [*]; done)), H', ⟨by have := HK1.out; have := HJ19.out; have := HJ27.out; have := HK4.out; first | omega | exact Nat.le_refl _⟩, ⟨by (try simp only [hl9_1]); (with_reducible repeat (first | apply Kd.R_alloc | apply Kd.R_drewN | apply Kd.R_drew)); exact HO_7.out⟩, ⟨by (try simp only [hl9_1]); (with_reducible repeat (first | apply Kd.R_alloc | apply Kd.R_drewN | apply Kd.R_drew)); exact HO_8.out⟩, ⟨by (try simp only [hl9_1]); (with_reducible repeat (first | apply Kd.R_alloc | apply Kd.R_drewN | apply Kd.R_drew)); exact HO_9.out⟩, ⟨by (try simp only [hl9_1]); (with_reducible repeat (first | apply Kd.R_alloc | apply Kd.R_drewN | apply Kd.R_drew)); exact HO_15.out⟩, ⟨by repeat (first | (with_reducible first | exact HB.out | apply below_alloc | apply pw_below_drewN | apply below_drew1) | exact HB.out)⟩⟩
                              · rw [if_neg c32] at H
                                exact absurd H (by simp)
                            case rest =>
                              clear HC31
                              try clear c1
                              try clear p1
                              try clear q1
                              try clear hx1
                              try clear c2
                              try clear p2
                              try clear c3
                              try clear c4
                              try clear c5
                              try clear p6
                              try clear c7
                              try clear c8
                              try clear c9
                              try clear c9b0
                              try clear c10
                              try clear c10b0
                              try clear c11
                              try clear p11
                              try clear q11
                              try clear hx11
                              try clear hf11
                              try clear c17
                              try clear c17b0
                              try clear p17
                              try clear q17
                              try clear hx17
                              try clear p18
                              try clear q18
                              try clear hx18
                              try clear c24
                              try clear c24b0
                              try clear c25
                              try clear c25b0
                              try clear c26
                              try clear c26b0
                              try clear c27
                              try clear c27b0
                              try clear c27b1
                              try clear c29
                              try clear c30
                              try clear c30b0
                              try clear c32
                              try clear c32b0
                              try clear c33
                              try clear c33b0
                              try clear c33b1
                              try clear c35
                              try clear c35b0
                              try clear c36
                              try clear c36b0
                              try clear hx11_0
                              try clear hx178_0
                              try clear hx179_0
                              try clear hx180_0
                              try clear p1
                              try clear p11
                              try clear p17
                              try clear p178
                              try clear p179
                              try clear p180
                              try clear p2
                              try clear p6
                              try clear q1
                              try clear q11
                              try clear q17
                              try clear q178
                              try clear q179
                              try clear q180
                              obtain ⟨kq, x96_30, rfl, HA, HJ30, HO_7, HO_8, HO_9, HO_15, HB⟩ := hcut
                              cases kq with
                              | zero => exact absurd HA.out (by simp [lightclientlaw40_RelayCounts.j4])
                              | succ kj30 =>
                                have H := HA.out
                                clear HA
                                simp only [lightclientlaw40_RelayCounts.j4] at H
                                by_cases c37 : x96_30 = true
                                · subst c37
                                  have H1 : (if 0 ≤ x18_4 then (if x18_4 < (t173.length : Int) then (if 0 ≤ (rd t173 x18_4) then (if (rd t173 x18_4) < (y172.length : Int) then (if rdOf false y172 (rd t173 x18_4) = true then (lightclientlaw40_RelayCounts.l0 kj30 t161 t162 y172 t170 t171 x12_27 (wrap64 (x13_4 + 1)) (t161.length : Int) (wrap64 (x40_1 + 1))) else (lightclientlaw40_RelayCounts.l1 kj30 t161 t162 y172 t170 t171 x12_27 (wrap64 (x13_4 + 1)) t173 (wrap64 (x18_4 + 1)) (t161.length : Int) x40_1)) else (none)) else (none)) else (none)) else (none)) = some r := by rw [if_pos rfl] at H; exact H
                                  clear H
                                  have H := H1
                                  clear H1
                                  by_cases c38 : 0 ≤ x18_4
                                  · rw [if_pos c38] at H
                                    have c38b0 : decide (0 ≤ x18_4) = true := decide_eq_true c38
                                    clear c38
                                    by_cases c39 : x18_4 < (t173.length : Int)
                                    · rw [if_pos c39] at H
                                      have c39b0 : decide (x18_4 < (t173.length : Int)) = true := decide_eq_true c39
                                      clear c39
                                      by_cases c40 : 0 ≤ (rd t173 x18_4)
                                      · rw [if_pos c40] at H
                                        have c40b0 : decide (0 ≤ (rd t173 x18_4)) = true := decide_eq_true c40
                                        clear c40
                                        by_cases c41 : (rd t173 x18_4) < (y172.length : Int)
                                        · rw [if_pos c41] at H
                                          have c41b0 : decide ((rd t173 x18_4) < (y172.length : Int)) = true := decide_eq_true c41
                                          clear c41
                                          obtain ⟨bq42, hbq42⟩ : ∃ b_ : Bool, b_ = (rdOf false y172 (rd t173 x18_4)) := ⟨_, rfl⟩
                                          replace H : (if bq42 = true then (lightclientlaw40_RelayCounts.l0 kj30 t161 t162 y172 t170 t171 x12_27 (wrap64 (x13_4 + 1)) (t161.length : Int) (wrap64 (x40_1 + 1))) else (lightclientlaw40_RelayCounts.l1 kj30 t161 t162 y172 t170 t171 x12_27 (wrap64 (x13_4 + 1)) t173 (wrap64 (x18_4 + 1)) (t161.length : Int) x40_1)) = some r := by rw [← hbq42] at H; exact H
                                          have Nbq42 := Aside0.mk hbq42
                                          clear hbq42
                                          by_cases c43 : bq42 = true
                                          · subst c43
                                            have H1 : (lightclientlaw40_RelayCounts.l0 kj30 t161 t162 y172 t170 t171 x12_27 (wrap64 (x13_4 + 1)) (t161.length : Int) (wrap64 (x40_1 + 1))) = some r := by rw [if_pos rfl] at H; exact H
                                            clear H
                                            have H := H1
                                            clear H1
                                            have H' := Aside0.mk H
                                            clear H
                                            have p181 : 0 ≤ (x18_4 : Int) := of_decide_eq_true (by first | (with_reducible assumption) | assumption)
                                            have q181 : x18_4 < (t173.length : Int) := of_decide_eq_true (by first | (with_reducible assumption) | assumption)
                                            obtain ⟨ad181, e181, hx181_0⟩ := Kd.at_int (Kd.R_reads' HO_15.out).2.2 x18_4 p181 q181
                                            cases e181
                                            replace p181 := eq_true p181
                                            replace q181 := eq_true q181
                                            have p182 : 0 ≤ ((rd t173 x18_4) : Int) := of_decide_eq_true (by first | (with_reducible assumption) | assumption)
                                            have q182 : (rd t173 x18_4) < (y172.length : Int) := of_decide_eq_true (by first | (with_reducible assumption) | assumption)
                                            obtain ⟨ad182, e182, hx182_0⟩ := Kd.at_bool (Kd.R_reads' HO_9.out).2.2 (rd t173 x18_4) p182 q182
                                            (try rw [← Nbq42.out] at hx182_0)
                                            obtain rfl : (⟨go11, 0, none⟩ : Addr) = ad182 := (by injection e182)
                                            (first | simp only [add_plain] at hx182_0 | simp only [add_at] at hx182_0 | simp only [Addr.add, Nat.zero_add] at hx182_0 | skip)
                                            replace p182 := eq_true p182
                                            replace q182 := eq_true q182
                                            go_wp2
                                            (try simp only [← hl9_1])
                                            go_roundg kj30
                                            case measure => have := HK1.out; have := HJ19.out; have := HJ27.out; have := HK4.out; have := HJ30.out; omega
                                            case rel => exact ⟨(x12_27), (wrap64 (x13_4 + 1)), (wrap64 (x40_1 + 1)), (by first | rfl | (simp; done) | (simp [*]; done)), (by first | rfl | (simp; done) | (simp [*]; done)), (by first | rfl | (simp; done) | (simp [*]; done)), H', ⟨by have := HK1.out; have := HJ19.out; have := HJ27.out; have := HK4.out; have := HJ30.out; omega⟩, ⟨by (try simp only [hl9_1]); (with_reducible repeat (first | apply Kd.R_alloc | apply Kd.R_drewN | apply Kd.R_drew)); exact Kd.R_mono HO_7.out (fun _ hk => trivial)⟩, ⟨by (try simp only [hl9_1]); (with_reducible repeat (first | apply Kd.R_alloc | apply Kd.R_drewN | apply Kd.R_drew)); exact HO_8.out⟩, ⟨by (try simp only [hl9_1]); (with_reducible repeat (first | apply Kd.R_alloc | apply Kd.R_drewN | apply Kd.R_drew)); exact HO_9.out⟩, ⟨by repeat (first | (with_reducible first | exact HB.out | apply below_alloc | apply pw_below_drewN | apply below_drew1) | exact HB.out)⟩⟩
                                          · replace c43 := Bool.eq_false_iff.mpr c43
                                            subst c43
                                            have H1 : (lightclientlaw40_RelayCounts.l1 kj30 t161 t162 y172 t170 t171 x12_27 (wrap64 (x13_4 + 1)) t173 (wrap64 (x18_4 + 1)) (t161.length : Int) x40_1) = some r := by rw [if_neg (show ¬ (false = true) by decide)] at H; exact H
                                            clear H
                                            have H := H1
                                            clear H1
                                            have H' := Aside0.mk H
                                            clear H
                                            have p181 : 0 ≤ (x18_4 : Int) := of_decide_eq_true (by first | (with_reducible assumption) | assumption)
                                            have q181 : x18_4 < (t173.length : Int) := of_decide_eq_true (by first | (with_reducible assumption) | assumption)
                                            obtain ⟨ad181, e181, hx181_0⟩ := Kd.at_int (Kd.R_reads' HO_15.out).2.2 x18_4 p181 q181
                                            cases e181
                                            replace p181 := eq_true p181
                                            replace q181 := eq_true q181
                                            have p182 : 0 ≤ ((rd t173 x18_4) : Int) := of_decide_eq_true (by first | (with_reducible assumption) | assumption)
                                            have q182 : (rd t173 x18_4) < (y172.length : Int) := of_decide_eq_true (by first | (with_reducible assumption) | assumption)
                                            obtain ⟨ad182, e182, hx182_0⟩ := Kd.at_bool (Kd.R_reads' HO_9.out).2.2 (rd t173 x18_4) p182 q182
                                            (try rw [← Nbq42.out] at hx182_0)
                                            obtain rfl : (⟨go11, 0, none⟩ : Addr) = ad182 := (by injection e182)
                                            (first | simp only [add_plain] at hx182_0 | simp only [add_at] at hx182_0 | simp only [Addr.add, Nat.zero_add] at hx182_0 | skip)
                                            replace p182 := eq_true p182
                                            replace q182 := eq_true q182
                                            go_wp2
                                            go_roundg kj30
                                            case measure => have := HK1.out; have := HJ19.out; have := HJ27.out; have := HK4.out; have := HJ30.out; omega
                                            case rel => exact ⟨(wrap64 (x13_4 + 1)), (wrap64 (x18_4 + 1)), (by first | rfl | (simp; done) | (simp [*]; done)), (by first | rfl | (simp; done) | (simp [*]; done)), H', ⟨by have := HK1.out; have := HJ19.out; have := HJ27.out; have := HK4.out; have := HJ30.out; omega⟩, ⟨by (try simp only [hl9_1]); (with_reducible repeat (first | apply Kd.R_alloc | apply Kd.R_drewN | apply Kd.R_drew)); exact HO_7.out⟩, ⟨by (try simp only [hl9_1]); (with_reducible repeat (first | apply Kd.R_alloc | apply Kd.R_drewN | apply Kd.R_drew)); exact HO_8.out⟩, ⟨by (try simp only [hl9_1]); (with_reducible repeat (first | apply Kd.R_alloc | apply Kd.R_drewN | apply Kd.R_drew)); exact HO_9.out⟩, ⟨by (try simp only [hl9_1]); (with_reducible repeat (first | apply Kd.R_alloc | apply Kd.R_drewN | apply Kd.R_drew)); exact HO_15.out⟩, ⟨by repeat (first | (with_reducible first | exact HB.out | apply below_alloc | apply pw_below_drewN | apply below_drew1) | exact HB.out)⟩⟩
                                        · rw [if_neg c41] at H
                                          exact absurd H (by simp)
                                      · rw [if_neg c40] at H
                                        exact absurd H (by simp)
                                    · rw [if_neg c39] at H
                                      exact absurd H (by simp)
                                  · rw [if_neg c38] at H
                                    exact absurd H (by simp)
                                · replace c37 := Bool.eq_false_iff.mpr c37
                                  subst c37
                                  have H1 : (if 0 ≤ x18_4 then (if x18_4 < (t173.length : Int) then (if 0 ≤ (rd t173 x18_4) then (if (rd t173 x18_4) < (y172.length : Int) then (if rdOf false y172 (rd t173 x18_4) = true then (lightclientlaw40_RelayCounts.l0 kj30 t161 t162 y172 t170 t171 x12_27 x13_4 (t161.length : Int) (wrap64 (x40_1 + 1))) else (lightclientlaw40_RelayCounts.l1 kj30 t161 t162 y172 t170 t171 x12_27 x13_4 t173 (wrap64 (x18_4 + 1)) (t161.length : Int) x40_1)) else (none)) else (none)) else (none)) else (none)) = some r := by rw [if_neg (show ¬ (false = true) by decide)] at H; exact H
                                  clear H
                                  have H := H1
                                  clear H1
                                  by_cases c44 : 0 ≤ x18_4
                                  · rw [if_pos c44] at H
                                    have c44b0 : decide (0 ≤ x18_4) = true := decide_eq_true c44
                                    clear c44
                                    by_cases c45 : x18_4 < (t173.length : Int)
                                    · rw [if_pos c45] at H
                                      have c45b0 : decide (x18_4 < (t173.length : Int)) = true := decide_eq_true c45
                                      clear c45
                                      by_cases c46 : 0 ≤ (rd t173 x18_4)
                                      · rw [if_pos c46] at H
                                        have c46b0 : decide (0 ≤ (rd t173 x18_4)) = true := decide_eq_true c46
                                        clear c46
                                        by_cases c47 : (rd t173 x18_4) < (y172.length : Int)
                                        · rw [if_pos c47] at H
                                          have c47b0 : decide ((rd t173 x18_4) < (y172.length : Int)) = true := decide_eq_true c47
                                          clear c47
                                          obtain ⟨bq48, hbq48⟩ : ∃ b_ : Bool, b_ = (rdOf false y172 (rd t173 x18_4)) := ⟨_, rfl⟩
                                          replace H : (if bq48 = true then (lightclientlaw40_RelayCounts.l0 kj30 t161 t162 y172 t170 t171 x12_27 x13_4 (t161.length : Int) (wrap64 (x40_1 + 1))) else (lightclientlaw40_RelayCounts.l1 kj30 t161 t162 y172 t170 t171 x12_27 x13_4 t173 (wrap64 (x18_4 + 1)) (t161.length : Int) x40_1)) = some r := by rw [← hbq48] at H; exact H
                                          have Nbq48 := Aside0.mk hbq48
                                          clear hbq48
                                          by_cases c49 : bq48 = true
                                          · subst c49
                                            have H1 : (lightclientlaw40_RelayCounts.l0 kj30 t161 t162 y172 t170 t171 x12_27 x13_4 (t161.length : Int) (wrap64 (x40_1 + 1))) = some r := by rw [if_pos rfl] at H; exact H
                                            clear H
                                            have H := H1
                                            clear H1
                                            have H' := Aside0.mk H
                                            clear H
                                            have p183 : 0 ≤ (x18_4 : Int) := of_decide_eq_true (by first | (with_reducible assumption) | assumption)
                                            have q183 : x18_4 < (t173.length : Int) := of_decide_eq_true (by first | (with_reducible assumption) | assumption)
                                            obtain ⟨ad183, e183, hx183_0⟩ := Kd.at_int (Kd.R_reads' HO_15.out).2.2 x18_4 p183 q183
                                            cases e183
                                            replace p183 := eq_true p183
                                            replace q183 := eq_true q183
                                            have p184 : 0 ≤ ((rd t173 x18_4) : Int) := of_decide_eq_true (by first | (with_reducible assumption) | assumption)
                                            have q184 : (rd t173 x18_4) < (y172.length : Int) := of_decide_eq_true (by first | (with_reducible assumption) | assumption)
                                            obtain ⟨ad184, e184, hx184_0⟩ := Kd.at_bool (Kd.R_reads' HO_9.out).2.2 (rd t173 x18_4) p184 q184
                                            (try rw [← Nbq48.out] at hx184_0)
                                            obtain rfl : (⟨go11, 0, none⟩ : Addr) = ad184 := (by injection e184)
                                            (first | simp only [add_plain] at hx184_0 | simp only [add_at] at hx184_0 | simp only [Addr.add, Nat.zero_add] at hx184_0 | skip)
                                            replace p184 := eq_true p184
                                            replace q184 := eq_true q184
                                            go_wp2
                                            (try simp only [← hl9_1])
                                            go_roundg kj30
                                            case measure => have := HK1.out; have := HJ19.out; have := HJ27.out; have := HK4.out; have := HJ30.out; omega
                                            case rel => exact ⟨(x12_27), (x13_4), (wrap64 (x40_1 + 1)), (by first | rfl | (simp; done) | (simp [*]; done)), (by first | rfl | (simp; done) | (simp [*]; done)), (by first | rfl | (simp; done) | (simp [*]; done)), H', ⟨by have := HK1.out; have := HJ19.out; have := HJ27.out; have := HK4.out; have := HJ30.out; omega⟩, ⟨by (try simp only [hl9_1]); (with_reducible repeat (first | apply Kd.R_alloc | apply Kd.R_drewN | apply Kd.R_drew)); exact Kd.R_mono HO_7.out (fun _ hk => trivial)⟩, ⟨by (try simp only [hl9_1]); (with_reducible repeat (first | apply Kd.R_alloc | apply Kd.R_drewN | apply Kd.R_drew)); exact HO_8.out⟩, ⟨by (try simp only [hl9_1]); (with_reducible repeat (first | apply Kd.R_alloc | apply Kd.R_drewN | apply Kd.R_drew)); exact HO_9.out⟩, ⟨by repeat (first | (with_reducible first | exact HB.out | apply below_alloc | apply pw_below_drewN | apply below_drew1) | exact HB.out)⟩⟩
                                          · replace c49 := Bool.eq_false_iff.mpr c49
                                            subst c49
                                            have H1 : (lightclientlaw40_RelayCounts.l1 kj30 t161 t162 y172 t170 t171 x12_27 x13_4 t173 (wrap64 (x18_4 + 1)) (t161.length : Int) x40_1) = some r := by rw [if_neg (show ¬ (false = true) by decide)] at H; exact H
                                            clear H
                                            have H := H1
                                            clear H1
                                            have H' := Aside0.mk H
                                            clear H
                                            have p183 : 0 ≤ (x18_4 : Int) := of_decide_eq_true (by first | (with_reducible assumption) | assumption)
                                            have q183 : x18_4 < (t173.length : Int) := of_decide_eq_true (by first | (with_reducible assumption) | assumption)
                                            obtain ⟨ad183, e183, hx183_0⟩ := Kd.at_int (Kd.R_reads' HO_15.out).2.2 x18_4 p183 q183
                                            cases e183
                                            replace p183 := eq_true p183
                                            replace q183 := eq_true q183
                                            have p184 : 0 ≤ ((rd t173 x18_4) : Int) := of_decide_eq_true (by first | (with_reducible assumption) | assumption)
                                            have q184 : (rd t173 x18_4) < (y172.length : Int) := of_decide_eq_true (by first | (with_reducible assumption) | assumption)
                                            obtain ⟨ad184, e184, hx184_0⟩ := Kd.at_bool (Kd.R_reads' HO_9.out).2.2 (rd t173 x18_4) p184 q184
                                            (try rw [← Nbq48.out] at hx184_0)
                                            obtain rfl : (⟨go11, 0, none⟩ : Addr) = ad184 := (by injection e184)
                                            (first | simp only [add_plain] at hx184_0 | simp only [add_at] at hx184_0 | simp only [Addr.add, Nat.zero_add] at hx184_0 | skip)
                                            replace p184 := eq_true p184
                                            replace q184 := eq_true q184
                                            go_wp2
                                            go_roundg kj30
                                            case measure => have := HK1.out; have := HJ19.out; have := HJ27.out; have := HK4.out; have := HJ30.out; omega
                                            case rel => exact ⟨(x13_4), (wrap64 (x18_4 + 1)), (by first | rfl | (simp; done) | (simp [*]; done)), (by first | rfl | (simp; done) | (simp [*]; done)), H', ⟨by have := HK1.out; have := HJ19.out; have := HJ27.out; have := HK4.out; have := HJ30.out; omega⟩, ⟨by (try simp only [hl9_1]); (with_reducible repeat (first | apply Kd.R_alloc | apply Kd.R_drewN | apply Kd.R_drew)); exact HO_7.out⟩, ⟨by (try simp only [hl9_1]); (with_reducible repeat (first | apply Kd.R_alloc | apply Kd.R_drewN | apply Kd.R_drew)); exact HO_8.out⟩, ⟨by (try simp only [hl9_1]); (with_reducible repeat (first | apply Kd.R_alloc | apply Kd.R_drewN | apply Kd.R_drew)); exact HO_9.out⟩, ⟨by (try simp only [hl9_1]); (with_reducible repeat (first | apply Kd.R_alloc | apply Kd.R_drewN | apply Kd.R_drew)); exact HO_15.out⟩, ⟨by repeat (first | (with_reducible first | exact HB.out | apply below_alloc | apply pw_below_drewN | apply below_drew1) | exact HB.out)⟩⟩
                                        · rw [if_neg c47] at H
                                          exact absurd H (by simp)
                                      · rw [if_neg c46] at H
                                        exact absurd H (by simp)
                                    · rw [if_neg c45] at H
                                      exact absurd H (by simp)
                                  · rw [if_neg c44] at H
                                    exact absurd H (by simp)
                          · rw [if_neg c30] at H
                            have c30b0 : decide (x18_4 < (t173.length : Int)) = false := decide_eq_false c30
                            clear c30
                            have H' := Aside0.mk H
                            clear H
                            go_wp2
                            (try simp only [← hl9_1])
                            go_roundg k4
                            case measure => have := HK1.out; have := HJ19.out; have := HJ27.out; have := HK4.out; omega
                            case rel => exact ⟨(x12_27), (x13_4), (wrap64 (x40_1 + 1)), (by first | rfl | (simp; done) | (simp [*]; done)), (by first | rfl | (simp; done) | (simp [*]; done)), (by first | rfl | (simp; done) | (simp [*]; done)), H', ⟨by have := HK1.out; have := HJ19.out; have := HJ27.out; have := HK4.out; omega⟩, ⟨by (try simp only [hl9_1]); (with_reducible repeat (first | apply Kd.R_alloc | apply Kd.R_drewN | apply Kd.R_drew)); exact Kd.R_mono HO_7.out (fun _ hk => trivial)⟩, ⟨by (try simp only [hl9_1]); (with_reducible repeat (first | apply Kd.R_alloc | apply Kd.R_drewN | apply Kd.R_drew)); exact HO_8.out⟩, ⟨by (try simp only [hl9_1]); (with_reducible repeat (first | apply Kd.R_alloc | apply Kd.R_drewN | apply Kd.R_drew)); exact HO_9.out⟩, ⟨by repeat (first | (with_reducible first | exact HB.out | apply below_alloc | apply pw_below_drewN | apply below_drew1) | exact HB.out)⟩⟩
            · rw [if_neg c17] at H
              have c17b0 : decide (x40_1 < (t161.length : Int)) = false := decide_eq_false c17
              clear c17
              obtain rfl := Option.some.inj H
              go_wp2
              go_ret
              exact ⟨by first | rfl | (simp [errW_none, errW_some] <;> rfl) | (simp [*, errW_none, errW_some] <;> rfl), by repeat (first | (with_reducible first | exact HB.out | apply below_alloc | apply pw_below_drewN | apply below_drew1) | exact HB.out)⟩
      · rw [if_neg c10] at H
        exact absurd H (by simp)
    · rw [if_neg c9] at H
      exact absurd H (by simp)
  · replace c5 := Bool.eq_false_iff.mpr c5
    subst c5
    have H1 : (some false) = some r := by rw [if_neg (show ¬ (false = true) by decide)] at H; exact H
    clear H
    have H := H1
    clear H1
    obtain rfl := Option.some.inj H
    go_enter Try.func4, Try.ntmps4
    go_wp2_with (first | ((with_reducible refine gate_callee (f := 7) rfl ?_); refine goesL_ (some 19) rfl rfl Try.func7 (by kernel_rfl) rfl #[] rfl (by (try simp only [List.map_toArray, List.map_cons, List.map_nil]); first | done | rfl | (simp only [List.length_drop, List.length_take]; rfl)) ?_; (with_reducible refine (lightclientlaw40_sane.calls k  false _ A4.out).mono ?_); rintro e w50 ⟨rfl, hb⟩; refine ⟨_, rfl, ?_⟩; have n0_ := Aside0.mk (below_step (by repeat (first | (with_reducible first | exact HB.out | apply below_alloc | apply pw_below_drewN | apply below_drew1) | exact HB.out)) hb); clear HB; have HB := n0_; clear n0_; (try clear hb); (try clear hb2); (try clear hk); (try clear hi)))
    go_ret
    exact ⟨by first | rfl | (simp [errW_none, errW_some] <;> rfl) | (simp [*, errW_none, errW_some] <;> rfl), by repeat (first | (with_reducible first | exact HB.out | apply below_alloc | apply pw_below_drewN | apply below_drew1) | exact HB.out)⟩

/-- THE ONE PURE STATEMENT of lightclientlaw40_RelayCounts: yours. -/
def lightclientlaw40_RelayCounts.Pure : Prop := ∀ (l0 : List Int) (a1 : Int) (a2 : Int), l0.length ≤ maxLen → l0.length * 8 ≤ 140737488351232 → (∀ x ∈ l0, (Lit.int .i64 x).wf = true) → (Lit.int .i64 a1).wf = true → (Lit.int .i64 a2).wf = true → ∃ k, lightclientlaw40_RelayCounts.f k l0 a1 a2 = some true
theorem lightclientlaw40_RelayCounts.walk (P : lightclientlaw40_RelayCounts.Pure) (a0 : Option Addr) (len0 cap0 : Nat) (z0 : List Int) (a1 : Int) (a2 : Int) (w : World) (w0 : (a0 = none ∧ len0 = 0 ∧ cap0 = 0 ∧ z0 = []) ∨ ∃ x, a0 = some x ∧ len0 ≤ cap0 ∧ cap0 ≤ maxLen ∧ z0.length = cap0 ∧ (∀ i, i < z0.length → w.cell? (x.add i) = some (.int .i64 (z0.getD i 0))) ∧ ∀ n ∈ z0, (Lit.int .i64 n).wf = true) (y0 : len0 * 8 ≤ 140737488351232) (w1 : (Lit.int .i64 a1).wf = true) (w2 : (Lit.int .i64 a2).wf = true) :
    Calls Try.prog 4 #[.slice a0 len0 cap0, .int .i64 a1, .int .i64 a2] w fun e w' => e = .returned (.bool true) ∧ Below w.heap.size w w' := by
  obtain ⟨l0, rfl, hr0, hm0, hw0, hc0⟩ := ReadsInt.ofRowC w0
  obtain ⟨k, h⟩ := P l0 a1 a2 hm0 y0 hw0 w1 w2
  refine (lightclientlaw40_RelayCounts.calls k _ _ l0 a1 a2 true w (Kd.C_of_reads (d := (0 : Int)) (h1 := fun _ => rfl) hr0) hc0 h).mono ?_
  rintro e w' ⟨rfl, hd⟩
  exact ⟨rfl, hd⟩

end Go.Proofs.Ytnhgfdinnbadeaa.PRelayCounts
