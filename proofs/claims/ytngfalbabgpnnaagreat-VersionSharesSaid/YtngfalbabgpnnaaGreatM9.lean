/-
  The walk of wave.row.
  The walk of wave.alike.
  Rows of symbols in the arena's state; wave.Len.
  Plain facts of rows of symbols; the walk of wave.Get.
  The walk of wave.Get.
  Rows of symbols: how often one is there, how many are less: plain facts.
  The walk of wave.Rank.
  The walk of wave.Before.
-/
import Derived.Test.YtngfalbabgpnnaaGreatM2
import Derived.Test.YtngfalbabgpnnaaGreatM8
set_option linter.unusedVariables false
set_option linter.unusedSimpArgs false
namespace Go.Proofs.YtngfalbabgpnnaaGreat
open Go.RowKit

set_option maxHeartbeats 1000000 in
set_option maxRecDepth 100000 in
theorem waveRow_unused (w : World) (p : Nat) (S : St) (h : Int) (H : Ar w p S) (hu : S.used h = false) :
    Calls Tryz.prog 108 #[.pointer (some ⟨p, 0, none⟩), .int .i64 h] w fun e w' => e = .returned (.tuple #[.agg (S.node h).arr, .bool false]) ∧ Below w.heap.size w w' := by
  have HG := fun w' (hb : Below w.heap.size w w') => Get_calls w' p S h (H.below hb)
  have HC := fun w' (hb : Below w.heap.size w w') => Count_calls w' p S h (H.below hb)
  unfold Nd.arr at HG ⊢
  generalize S.node h = x at *
  generalize S.cnt h = c at *
  rw [hu] at HG
  clear hu
  go_enter Tryz.func108, Tryz.ntmps108
  go_wp2_with fail
  refine (HG _ (by repeat (first | with_reducible exact Below.refl _ _ | with_reducible assumption | with_reducible refine bel_drewN ?_ | with_reducible refine bel_drew ?_ | with_reducible refine bel_alloc ?_ _ | with_reducible refine bel_set ?_ _ ?_ | with_reducible refine bel_trans ?_ (by with_reducible assumption) | ((try dsimp only); omega)))).mono ?_; rintro e w1 ⟨rfl, hb1⟩; obtain ⟨hc1, hf1⟩ := bcell hb1
  have zz := hb1.size; (try simp only [World.size_alloc, World.size_drew, World.size_setCell] at zz); have : w.heap.size < w1.heap.size := (by omega); clear zz
  go_wp2
  generalize hW : w1.alloc _ = W
  have l0 : W.cell? ⟨w1.heap.size, 0, none⟩ = some (.int .i64 x.tag) := (by subst hW; go_simp); have l1 : W.cell? ⟨w1.heap.size, 1, none⟩ = some (.int .i64 x.k0) := (by subst hW; go_simp); have l2 : W.cell? ⟨w1.heap.size, 2, none⟩ = some (.int .i64 x.k1) := (by subst hW; go_simp); have l3 : W.cell? ⟨w1.heap.size, 3, none⟩ = some (.int .i64 x.k2) := (by subst hW; go_simp); have l4 : W.cell? ⟨w1.heap.size, 4, none⟩ = some (.int .i64 x.k3) := (by subst hW; go_simp); have l5 : W.cell? ⟨w1.heap.size, 5, none⟩ = some (.int .u64 x.a) := (by subst hW; go_simp); have l6 : W.cell? ⟨w1.heap.size, 6, none⟩ = some (.int .u64 x.b) := (by subst hW; go_simp)
  have r0 : ∀ i, i < 7 → W.frozen? ⟨w.heap.size, i, none⟩ = false := fun i _ => by subst hW; go_simp
  have z0 : W.cell? ⟨w.heap.size, 0, none⟩ = some (.int .i64 0) := (by subst hW; go_simp); have z1 : W.cell? ⟨w.heap.size, 1, none⟩ = some (.int .i64 0) := (by subst hW; go_simp); have z2 : W.cell? ⟨w.heap.size, 2, none⟩ = some (.int .i64 0) := (by subst hW; go_simp); have z3 : W.cell? ⟨w.heap.size, 3, none⟩ = some (.int .i64 0) := (by subst hW; go_simp); have z4 : W.cell? ⟨w.heap.size, 4, none⟩ = some (.int .i64 0) := (by subst hW; go_simp); have z5 : W.cell? ⟨w.heap.size, 5, none⟩ = some (.int .u64 0) := (by subst hW; go_simp); have z6 : W.cell? ⟨w.heap.size, 6, none⟩ = some (.int .u64 0) := (by subst hW; go_simp)
  have hbW : Below w.heap.size w W := by subst hW; exact (by repeat (first | with_reducible exact Below.refl _ _ | with_reducible assumption | with_reducible refine bel_drewN ?_ | with_reducible refine bel_drew ?_ | with_reducible refine bel_alloc ?_ _ | with_reducible refine bel_set ?_ _ ?_ | with_reducible refine bel_trans ?_ (by with_reducible assumption) | ((try dsimp only); omega)))
  have nq : w.heap.size ≠ w1.heap.size := by omega
  clear hW hc1 hf1 hb1
  refine wp_region_can (fun w' => ∀ o, w'.cell? ⟨w1.heap.size, o, none⟩ = W.cell? ⟨w1.heap.size, o, none⟩) [(0, false), (1, false), (2, false), (3, false), (4, false), (5, true), (6, false), (7, false), (8, false), (9, false), (10, false), (11, false), (12, false), (13, true), (14, false)] (by kernel_rfl) (by kernel_rfl) (fun _ d _ _ _ h => by cases d <;> exact h) ?_ ?_
  · exact fun _ => rfl
  repeat ((with_reducible refine wpCan_isq ?_); first | (apply wpCan_read rfl (by rfl); (· intro w' hS; go_simp; with_reducible rfl); (· try simp only [Act.put, List.setIfInBounds_toArray, List.set_cons_zero, List.set_cons_succ]; with_reducible rfl)) | (apply wpCan_no rfl (by rfl); (· try simp only [Act.put, List.setIfInBounds_toArray, List.set_cons_zero, List.set_cons_succ]; with_reducible rfl)))
  (with_reducible refine wpCan_isl ?_); apply wpCan_no_loud rfl (by rfl); (· try simp only [Act.put, List.setIfInBounds_toArray, List.set_cons_zero, List.set_cons_succ]; with_reducible rfl); (· exact fun _ => rfl)
  repeat ((with_reducible refine wpCan_isq ?_); first | (apply wpCan_read rfl (by rfl); (· intro w' hS; go_simp; with_reducible rfl); (· try simp only [Act.put, List.setIfInBounds_toArray, List.set_cons_zero, List.set_cons_succ]; with_reducible rfl)) | (apply wpCan_no rfl (by rfl); (· try simp only [Act.put, List.setIfInBounds_toArray, List.set_cons_zero, List.set_cons_succ]; with_reducible rfl)))
  (with_reducible refine wpCan_isl ?_); apply wpCan_skip rfl (by rfl); (· go_simp; with_reducible rfl); (· try simp only [Act.put, List.setIfInBounds_toArray, List.set_cons_zero, List.set_cons_succ]; with_reducible rfl); (· intro o; go_simp)
  repeat ((with_reducible refine wpCan_isq ?_); first | (apply wpCan_read rfl (by rfl); (· intro w' hS; go_simp; with_reducible rfl); (· try simp only [Act.put, List.setIfInBounds_toArray, List.set_cons_zero, List.set_cons_succ]; with_reducible rfl)) | (apply wpCan_no rfl (by rfl); (· try simp only [Act.put, List.setIfInBounds_toArray, List.set_cons_zero, List.set_cons_succ]; with_reducible rfl)))
  refine wpCan_nil ?_
  go_wp2
  refine bodyPost_ret (v := .tuple #[.agg #[.int .i64 x.tag, .int .i64 x.k0, .int .i64 x.k1, .int .i64 x.k2, .int .i64 x.k3, .int .u64 x.a, .int .u64 x.b], .bool false]) ?_ rfl ⟨rfl, (by repeat (first | with_reducible exact Below.refl _ _ | with_reducible assumption | with_reducible refine bel_drewN ?_ | with_reducible refine bel_drew ?_ | with_reducible refine bel_alloc ?_ _ | with_reducible refine bel_set ?_ _ ?_ | with_reducible refine bel_trans ?_ (by with_reducible assumption) | ((try dsimp only); omega)))⟩
  simp [results, Tryz.results108, go_sem, *]
set_option maxHeartbeats 1000000 in
set_option maxRecDepth 100000 in
theorem waveRow_dead (w : World) (p : Nat) (S : St) (h : Int) (H : Ar w p S) (hu : S.used h = true) (hcn : ¬ 0 < S.cnt h) :
    Calls Tryz.prog 108 #[.pointer (some ⟨p, 0, none⟩), .int .i64 h] w fun e w' => e = .returned (.tuple #[.agg (S.node h).arr, .bool false]) ∧ Below w.heap.size w w' := by
  have HG := fun w' (hb : Below w.heap.size w w') => Get_calls w' p S h (H.below hb)
  have HC := fun w' (hb : Below w.heap.size w w') => Count_calls w' p S h (H.below hb)
  unfold Nd.arr at HG ⊢
  generalize S.node h = x at *
  generalize S.cnt h = c at *
  have q1 : c ≤ 0 := by omega
  have q2 : decide (0 < c) = false := by simp; omega
  rw [hu] at HG
  clear hu
  go_enter Tryz.func108, Tryz.ntmps108
  go_wp2_with fail
  refine (HG _ (by repeat (first | with_reducible exact Below.refl _ _ | with_reducible assumption | with_reducible refine bel_drewN ?_ | with_reducible refine bel_drew ?_ | with_reducible refine bel_alloc ?_ _ | with_reducible refine bel_set ?_ _ ?_ | with_reducible refine bel_trans ?_ (by with_reducible assumption) | ((try dsimp only); omega)))).mono ?_; rintro e w1 ⟨rfl, hb1⟩; obtain ⟨hc1, hf1⟩ := bcell hb1
  have zz := hb1.size; (try simp only [World.size_alloc, World.size_drew, World.size_setCell] at zz); have : w.heap.size < w1.heap.size := (by omega); clear zz
  go_wp2
  generalize hW : w1.alloc _ = W
  have l0 : W.cell? ⟨w1.heap.size, 0, none⟩ = some (.int .i64 x.tag) := (by subst hW; go_simp); have l1 : W.cell? ⟨w1.heap.size, 1, none⟩ = some (.int .i64 x.k0) := (by subst hW; go_simp); have l2 : W.cell? ⟨w1.heap.size, 2, none⟩ = some (.int .i64 x.k1) := (by subst hW; go_simp); have l3 : W.cell? ⟨w1.heap.size, 3, none⟩ = some (.int .i64 x.k2) := (by subst hW; go_simp); have l4 : W.cell? ⟨w1.heap.size, 4, none⟩ = some (.int .i64 x.k3) := (by subst hW; go_simp); have l5 : W.cell? ⟨w1.heap.size, 5, none⟩ = some (.int .u64 x.a) := (by subst hW; go_simp); have l6 : W.cell? ⟨w1.heap.size, 6, none⟩ = some (.int .u64 x.b) := (by subst hW; go_simp)
  have r0 : ∀ i, i < 7 → W.frozen? ⟨w.heap.size, i, none⟩ = false := fun i _ => by subst hW; go_simp
  have z0 : W.cell? ⟨w.heap.size, 0, none⟩ = some (.int .i64 0) := (by subst hW; go_simp); have z1 : W.cell? ⟨w.heap.size, 1, none⟩ = some (.int .i64 0) := (by subst hW; go_simp); have z2 : W.cell? ⟨w.heap.size, 2, none⟩ = some (.int .i64 0) := (by subst hW; go_simp); have z3 : W.cell? ⟨w.heap.size, 3, none⟩ = some (.int .i64 0) := (by subst hW; go_simp); have z4 : W.cell? ⟨w.heap.size, 4, none⟩ = some (.int .i64 0) := (by subst hW; go_simp); have z5 : W.cell? ⟨w.heap.size, 5, none⟩ = some (.int .u64 0) := (by subst hW; go_simp); have z6 : W.cell? ⟨w.heap.size, 6, none⟩ = some (.int .u64 0) := (by subst hW; go_simp)
  have hbW : Below w.heap.size w W := by subst hW; exact (by repeat (first | with_reducible exact Below.refl _ _ | with_reducible assumption | with_reducible refine bel_drewN ?_ | with_reducible refine bel_drew ?_ | with_reducible refine bel_alloc ?_ _ | with_reducible refine bel_set ?_ _ ?_ | with_reducible refine bel_trans ?_ (by with_reducible assumption) | ((try dsimp only); omega)))
  have nq : w.heap.size ≠ w1.heap.size := by omega
  clear hW hc1 hf1 hb1
  refine wp_region_can (fun w' => ∀ o, w'.cell? ⟨w1.heap.size, o, none⟩ = W.cell? ⟨w1.heap.size, o, none⟩) [(0, false), (1, false), (2, false), (3, false), (4, false), (5, true), (6, false), (7, false), (8, false), (9, false), (10, false), (11, false), (12, false), (13, true), (14, false)] (by kernel_rfl) (by kernel_rfl) (fun _ d _ _ _ h => by cases d <;> exact h) ?_ ?_
  · exact fun _ => rfl
  repeat ((with_reducible refine wpCan_isq ?_); first | (apply wpCan_read rfl (by rfl); (· intro w' hS; go_simp; with_reducible rfl); (· try simp only [Act.put, List.setIfInBounds_toArray, List.set_cons_zero, List.set_cons_succ]; with_reducible rfl)) | (apply wpCan_no rfl (by rfl); (· try simp only [Act.put, List.setIfInBounds_toArray, List.set_cons_zero, List.set_cons_succ]; with_reducible rfl)))
  (with_reducible refine wpCan_isl ?_); apply wpCan_call (HC _ (by repeat (first | with_reducible exact Below.refl _ _ | with_reducible assumption | with_reducible refine bel_drewN ?_ | with_reducible refine bel_drew ?_ | with_reducible refine bel_alloc ?_ _ | with_reducible refine bel_set ?_ _ ?_ | with_reducible refine bel_trans ?_ (by with_reducible assumption) | ((try dsimp only); omega)))) rfl (by rfl); (· go_simp); rintro e w2 ⟨rfl, rfl⟩; apply wpCan_told; (· exact fun _ => rfl); (· try simp only [Act.put, List.setIfInBounds_toArray, List.set_cons_zero, List.set_cons_succ]; with_reducible rfl)
  repeat ((with_reducible refine wpCan_isq ?_); first | (apply wpCan_read rfl (by rfl); (· intro w' hS; go_simp; with_reducible rfl); (· try simp only [Act.put, List.setIfInBounds_toArray, List.set_cons_zero, List.set_cons_succ]; with_reducible rfl)) | (apply wpCan_no rfl (by rfl); (· try simp only [Act.put, List.setIfInBounds_toArray, List.set_cons_zero, List.set_cons_succ]; with_reducible rfl)))
  repeat ((with_reducible refine wpCan_isq ?_); first | (apply wpCan_read rfl (by rfl); (· intro w' hS; go_simp; with_reducible rfl); (· try simp only [Act.put, List.setIfInBounds_toArray, List.set_cons_zero, List.set_cons_succ]; with_reducible rfl)) | (apply wpCan_no rfl (by rfl); (· try simp only [Act.put, List.setIfInBounds_toArray, List.set_cons_zero, List.set_cons_succ]; with_reducible rfl)))
  (with_reducible refine wpCan_isl ?_); apply wpCan_skip rfl (by rfl); (· go_simp; with_reducible rfl); (· try simp only [Act.put, List.setIfInBounds_toArray, List.set_cons_zero, List.set_cons_succ]; with_reducible rfl); (· intro o; go_simp)
  repeat ((with_reducible refine wpCan_isq ?_); first | (apply wpCan_read rfl (by rfl); (· intro w' hS; go_simp; with_reducible rfl); (· try simp only [Act.put, List.setIfInBounds_toArray, List.set_cons_zero, List.set_cons_succ]; with_reducible rfl)) | (apply wpCan_no rfl (by rfl); (· try simp only [Act.put, List.setIfInBounds_toArray, List.set_cons_zero, List.set_cons_succ]; with_reducible rfl)))
  refine wpCan_nil ?_
  go_wp2
  refine bodyPost_ret (v := .tuple #[.agg #[.int .i64 x.tag, .int .i64 x.k0, .int .i64 x.k1, .int .i64 x.k2, .int .i64 x.k3, .int .u64 x.a, .int .u64 x.b], .bool false]) ?_ rfl ⟨rfl, (by repeat (first | with_reducible exact Below.refl _ _ | with_reducible assumption | with_reducible refine bel_drewN ?_ | with_reducible refine bel_drew ?_ | with_reducible refine bel_alloc ?_ _ | with_reducible refine bel_set ?_ _ ?_ | with_reducible refine bel_trans ?_ (by with_reducible assumption) | ((try dsimp only); omega)))⟩
  simp [results, Tryz.results108, go_sem, *]
set_option maxHeartbeats 1000000 in
set_option maxRecDepth 100000 in
theorem waveRow_live (w : World) (p : Nat) (S : St) (h : Int) (H : Ar w p S) (hu : S.used h = true) (hcn : 0 < S.cnt h) :
    Calls Tryz.prog 108 #[.pointer (some ⟨p, 0, none⟩), .int .i64 h] w fun e w' => e = .returned (.tuple #[.agg (S.node h).arr, .bool ((S.node h).tag == 3)]) ∧ Below w.heap.size w w' := by
  have HG := fun w' (hb : Below w.heap.size w w') => Get_calls w' p S h (H.below hb)
  have HC := fun w' (hb : Below w.heap.size w w') => Count_calls w' p S h (H.below hb)
  unfold Nd.arr at HG ⊢
  generalize S.node h = x at *
  generalize S.cnt h = c at *
  rw [hu] at HG
  clear hu
  go_enter Tryz.func108, Tryz.ntmps108
  go_wp2_with fail
  refine (HG _ (by repeat (first | with_reducible exact Below.refl _ _ | with_reducible assumption | with_reducible refine bel_drewN ?_ | with_reducible refine bel_drew ?_ | with_reducible refine bel_alloc ?_ _ | with_reducible refine bel_set ?_ _ ?_ | with_reducible refine bel_trans ?_ (by with_reducible assumption) | ((try dsimp only); omega)))).mono ?_; rintro e w1 ⟨rfl, hb1⟩; obtain ⟨hc1, hf1⟩ := bcell hb1
  have zz := hb1.size; (try simp only [World.size_alloc, World.size_drew, World.size_setCell] at zz); have : w.heap.size < w1.heap.size := (by omega); clear zz
  go_wp2
  generalize hW : w1.alloc _ = W
  have l0 : W.cell? ⟨w1.heap.size, 0, none⟩ = some (.int .i64 x.tag) := (by subst hW; go_simp); have l1 : W.cell? ⟨w1.heap.size, 1, none⟩ = some (.int .i64 x.k0) := (by subst hW; go_simp); have l2 : W.cell? ⟨w1.heap.size, 2, none⟩ = some (.int .i64 x.k1) := (by subst hW; go_simp); have l3 : W.cell? ⟨w1.heap.size, 3, none⟩ = some (.int .i64 x.k2) := (by subst hW; go_simp); have l4 : W.cell? ⟨w1.heap.size, 4, none⟩ = some (.int .i64 x.k3) := (by subst hW; go_simp); have l5 : W.cell? ⟨w1.heap.size, 5, none⟩ = some (.int .u64 x.a) := (by subst hW; go_simp); have l6 : W.cell? ⟨w1.heap.size, 6, none⟩ = some (.int .u64 x.b) := (by subst hW; go_simp)
  have r0 : ∀ i, i < 7 → W.frozen? ⟨w.heap.size, i, none⟩ = false := fun i _ => by subst hW; go_simp
  have z0 : W.cell? ⟨w.heap.size, 0, none⟩ = some (.int .i64 0) := (by subst hW; go_simp); have z1 : W.cell? ⟨w.heap.size, 1, none⟩ = some (.int .i64 0) := (by subst hW; go_simp); have z2 : W.cell? ⟨w.heap.size, 2, none⟩ = some (.int .i64 0) := (by subst hW; go_simp); have z3 : W.cell? ⟨w.heap.size, 3, none⟩ = some (.int .i64 0) := (by subst hW; go_simp); have z4 : W.cell? ⟨w.heap.size, 4, none⟩ = some (.int .i64 0) := (by subst hW; go_simp); have z5 : W.cell? ⟨w.heap.size, 5, none⟩ = some (.int .u64 0) := (by subst hW; go_simp); have z6 : W.cell? ⟨w.heap.size, 6, none⟩ = some (.int .u64 0) := (by subst hW; go_simp)
  have hbW : Below w.heap.size w W := by subst hW; exact (by repeat (first | with_reducible exact Below.refl _ _ | with_reducible assumption | with_reducible refine bel_drewN ?_ | with_reducible refine bel_drew ?_ | with_reducible refine bel_alloc ?_ _ | with_reducible refine bel_set ?_ _ ?_ | with_reducible refine bel_trans ?_ (by with_reducible assumption) | ((try dsimp only); omega)))
  have nq : w.heap.size ≠ w1.heap.size := by omega
  clear hW hc1 hf1 hb1
  refine wp_region_can (fun w' => ∀ o, w'.cell? ⟨w1.heap.size, o, none⟩ = W.cell? ⟨w1.heap.size, o, none⟩) [(0, false), (1, false), (2, false), (3, false), (4, false), (5, true), (6, false), (7, false), (8, false), (9, false), (10, false), (11, false), (12, false), (13, true), (14, false)] (by kernel_rfl) (by kernel_rfl) (fun _ d _ _ _ h => by cases d <;> exact h) ?_ ?_
  · exact fun _ => rfl
  repeat ((with_reducible refine wpCan_isq ?_); first | (apply wpCan_read rfl (by rfl); (· intro w' hS; go_simp; with_reducible rfl); (· try simp only [Act.put, List.setIfInBounds_toArray, List.set_cons_zero, List.set_cons_succ]; with_reducible rfl)) | (apply wpCan_no rfl (by rfl); (· try simp only [Act.put, List.setIfInBounds_toArray, List.set_cons_zero, List.set_cons_succ]; with_reducible rfl)))
  (with_reducible refine wpCan_isl ?_); apply wpCan_call (HC _ (by repeat (first | with_reducible exact Below.refl _ _ | with_reducible assumption | with_reducible refine bel_drewN ?_ | with_reducible refine bel_drew ?_ | with_reducible refine bel_alloc ?_ _ | with_reducible refine bel_set ?_ _ ?_ | with_reducible refine bel_trans ?_ (by with_reducible assumption) | ((try dsimp only); omega)))) rfl (by rfl); (· go_simp); rintro e w2 ⟨rfl, rfl⟩; apply wpCan_told; (· exact fun _ => rfl); (· try simp only [Act.put, List.setIfInBounds_toArray, List.set_cons_zero, List.set_cons_succ]; with_reducible rfl)
  repeat ((with_reducible refine wpCan_isq ?_); first | (apply wpCan_read rfl (by rfl); (· intro w' hS; go_simp; with_reducible rfl); (· try simp only [Act.put, List.setIfInBounds_toArray, List.set_cons_zero, List.set_cons_succ]; with_reducible rfl)) | (apply wpCan_no rfl (by rfl); (· try simp only [Act.put, List.setIfInBounds_toArray, List.set_cons_zero, List.set_cons_succ]; with_reducible rfl)))
  repeat ((with_reducible refine wpCan_isq ?_); first | (apply wpCan_read rfl (by rfl); (· intro w' hS; go_simp; with_reducible rfl); (· try simp only [Act.put, List.setIfInBounds_toArray, List.set_cons_zero, List.set_cons_succ]; with_reducible rfl)) | (apply wpCan_no rfl (by rfl); (· try simp only [Act.put, List.setIfInBounds_toArray, List.set_cons_zero, List.set_cons_succ]; with_reducible rfl)))
  (with_reducible refine wpCan_isl ?_); apply wpCan_skip rfl (by rfl); (· go_simp; with_reducible rfl); (· try simp only [Act.put, List.setIfInBounds_toArray, List.set_cons_zero, List.set_cons_succ]; with_reducible rfl); (· intro o; go_simp)
  repeat ((with_reducible refine wpCan_isq ?_); first | (apply wpCan_read rfl (by rfl); (· intro w' hS; go_simp; with_reducible rfl); (· try simp only [Act.put, List.setIfInBounds_toArray, List.set_cons_zero, List.set_cons_succ]; with_reducible rfl)) | (apply wpCan_no rfl (by rfl); (· try simp only [Act.put, List.setIfInBounds_toArray, List.set_cons_zero, List.set_cons_succ]; with_reducible rfl)))
  refine wpCan_nil ?_
  go_wp2
  refine bodyPost_ret (v := .tuple #[.agg #[.int .i64 x.tag, .int .i64 x.k0, .int .i64 x.k1, .int .i64 x.k2, .int .i64 x.k3, .int .u64 x.a, .int .u64 x.b], .bool (x.tag == 3)]) ?_ rfl ⟨rfl, (by repeat (first | with_reducible exact Below.refl _ _ | with_reducible assumption | with_reducible refine bel_drewN ?_ | with_reducible refine bel_drew ?_ | with_reducible refine bel_alloc ?_ _ | with_reducible refine bel_set ?_ _ ?_ | with_reducible refine bel_trans ?_ (by with_reducible assumption) | ((try dsimp only); omega)))⟩
  simp [results, Tryz.results108, go_sem, *]
theorem waveRow_calls (w : World) (p : Nat) (S : St) (h : Int) (H : Ar w p S) :
    Calls Tryz.prog 108 #[.pointer (some ⟨p, 0, none⟩), .int .i64 h] w fun e w' => ∃ q, e = .returned (.tuple #[.agg (S.node h).arr, .bool q]) ∧ Below w.heap.size w w' := by
  cases hu : S.used h with
  | false => exact (waveRow_unused w p S h H hu).mono fun _ _ q => ⟨_, q⟩
  | true =>
    by_cases hc : 0 < S.cnt h
    · exact (waveRow_live w p S h H hu hc).mono fun _ _ q => ⟨_, q⟩
    · exact (waveRow_dead w p S h H hu hc).mono fun _ _ q => ⟨_, q⟩
end Go.Proofs.YtngfalbabgpnnaaGreat

namespace Go.Proofs.YtngfalbabgpnnaaGreat
open Go.RowKit

theorem count_tf (l : List Bool) : l.count true + l.count false = l.length := by
  induction l with
  | nil => rfl
  | cons a r ih => cases a <;> simp <;> omega

set_option maxHeartbeats 2000000 in
theorem alike_calls (w : World) (p : Nat) (S : St) (h : Int) (l : List Bool) (m : Nat) (one : Bool) (H : Ar w p S) (B : S.br h l) (hl : l.length < 1000000) (hm : m ≤ l.length) :
    Calls Tryz.prog 109 #[.pointer (some ⟨p, 0, none⟩), .int .i64 h, .int .i64 m, .bool one] w fun e w' => e = .returned (.int .i64 ((l.take m).count one : Nat)) ∧ Below w.heap.size w w' := by
  have HL := fun w' (hb : Below w.heap.size w w') => Len_calls w' p S h l (H.below hb) B (by omega)
  have HR := fun w' (hb : Below w.heap.size w w') => Rank_bits_calls w' p S h l m (H.below hb) B hl hm
  have q1 : max (m : Int) 0 = m := by omega
  have q2 : min (m : Int) (l.length : Nat) = m := by omega
  have q3 : ¬ (m : Int) < 0 := by omega
  have hc := List.count_le_length (a := true) (l := l.take m)
  rw [List.length_take, Nat.min_eq_left hm] at hc
  cases one with
  | true =>
    generalize (l.take m).count true = c at *
    go_enter Tryz.func109, Tryz.ntmps109
    go_wp2_with fail
    refine (HL _ (by repeat (first | with_reducible exact Below.refl _ _ | with_reducible assumption | with_reducible refine bel_drewN ?_ | with_reducible refine bel_drew ?_ | with_reducible refine bel_alloc ?_ _ | with_reducible refine bel_set ?_ _ ?_ | with_reducible refine bel_trans ?_ (by with_reducible assumption) | ((try dsimp only); omega)))).mono ?_; rintro e w1 ⟨rfl, hb1⟩
    go_wp2_with fail
    refine (HR _ (by repeat (first | with_reducible exact Below.refl _ _ | with_reducible assumption | with_reducible refine bel_drewN ?_ | with_reducible refine bel_drew ?_ | with_reducible refine bel_alloc ?_ _ | with_reducible refine bel_set ?_ _ ?_ | with_reducible refine bel_trans ?_ (by with_reducible assumption) | ((try dsimp only); omega)))).mono ?_; rintro e w2 ⟨rfl, hb2⟩
    go_wp2
    go_ret
    exact ⟨rfl, bel_trans hb1 hb2⟩
  | false =>
    have e : (l.take m).count false = m - (l.take m).count true := by
      have := count_tf (l.take m)
      rw [List.length_take, Nat.min_eq_left hm] at this
      omega
    rw [e]
    generalize (l.take m).count true = c at *
    have e2 : ((m - c : Nat) : Int) = (m : Int) - c := by omega
    rw [e2]
    go_enter Tryz.func109, Tryz.ntmps109
    go_wp2_with fail
    refine (HL _ (by repeat (first | with_reducible exact Below.refl _ _ | with_reducible assumption | with_reducible refine bel_drewN ?_ | with_reducible refine bel_drew ?_ | with_reducible refine bel_alloc ?_ _ | with_reducible refine bel_set ?_ _ ?_ | with_reducible refine bel_trans ?_ (by with_reducible assumption) | ((try dsimp only); omega)))).mono ?_; rintro e w1 ⟨rfl, hb1⟩
    go_wp2_with fail
    refine (HR _ (by repeat (first | with_reducible exact Below.refl _ _ | with_reducible assumption | with_reducible refine bel_drewN ?_ | with_reducible refine bel_drew ?_ | with_reducible refine bel_alloc ?_ _ | with_reducible refine bel_set ?_ _ ?_ | with_reducible refine bel_trans ?_ (by with_reducible assumption) | ((try dsimp only); omega)))).mono ?_; rintro e w2 ⟨rfl, hb2⟩
    go_wp2
    go_ret
    exact ⟨rfl, bel_trans hb1 hb2⟩
end Go.Proofs.YtngfalbabgpnnaaGreat

namespace Go.Proofs.YtngfalbabgpnnaaGreat
open Go.RowKit St

set_option maxHeartbeats 2000000 in
theorem waveLen_calls (w : World) (p : Nat) (S : St) (h : Int) (n : Nat) (l : List Nat) (H : Ar w p S) (V : S.wv (n + 1) h l) (hl : l.length < 1000000) :
    Calls Tryz.prog 74 #[.pointer (some ⟨p, 0, none⟩), .int .i64 h] w fun e w' => e = .returned (.int .i64 (l.length : Nat)) ∧ Below w.heap.size w w' := by
  obtain ⟨b, z, o, e0, e1, e2, hb, _, _⟩ := wv_node H.2 V
  have HG := fun w' (hb : Below w.heap.size w w') => waveRow_calls w' p S h (H.below hb)
  have HL := fun w' (hb' : Below w.heap.size w w') => Len_calls w' p S b _ (H.below hb') hb (by simp; omega)
  rw [List.length_map] at HL
  unfold Nd.arr at HG
  rw [e0, e1, e2] at HG
  generalize S.node h = x at *
  go_enter Tryz.func74, Tryz.ntmps74
  go_wp2_with fail
  refine (HG _ (by repeat (first | with_reducible exact Below.refl _ _ | with_reducible assumption | with_reducible refine bel_drewN ?_ | with_reducible refine bel_drew ?_ | with_reducible refine bel_alloc ?_ _ | with_reducible refine bel_set ?_ _ ?_ | with_reducible refine bel_trans ?_ (by with_reducible assumption) | ((try dsimp only); omega)))).mono ?_; rintro e w1 ⟨q, rfl, hb1⟩; obtain ⟨hc1, hf1⟩ := bcell hb1
  go_wp2_with fail
  refine (HL _ (by repeat (first | with_reducible exact Below.refl _ _ | with_reducible assumption | with_reducible refine bel_drewN ?_ | with_reducible refine bel_drew ?_ | with_reducible refine bel_alloc ?_ _ | with_reducible refine bel_set ?_ _ ?_ | with_reducible refine bel_trans ?_ (by with_reducible assumption) | ((try dsimp only); omega)))).mono ?_; rintro e w2 ⟨rfl, hb2⟩
  go_wp2
  go_ret
  exact ⟨rfl, bel_trans (bel_alloc hb1 _) hb2⟩
end Go.Proofs.YtngfalbabgpnnaaGreat

namespace Go.Proofs.YtngfalbabgpnnaaGreat
open Go.RowKit St

end Go.Proofs.YtngfalbabgpnnaaGreat

namespace Go.Proofs.YtngfalbabgpnnaaGreat
open Go.RowKit St

set_option maxHeartbeats 4000000 in
set_option maxRecDepth 100000 in
theorem waveGet_calls (w : World) (p : Nat) (S : St) (h : Int) (l : List Nat) (i s : Nat) (H : Ar w p S) (V : S.wv 9 h l) (hl : l.length < 1000000) (hi : l[i]? = some s) (hs : s < 257) :
    Calls Tryz.prog 64 #[.pointer (some ⟨p, 0, none⟩), .int .i64 h, .int .i64 i] w fun e w' => e = .returned (.tuple #[.int .i64 s, .bool true]) ∧ Below w.heap.size w w' := by
  have hil := (List.getElem?_eq_some_iff.1 hi).1
  have HL := fun w' (hb : Below w.heap.size w w') => waveLen_calls w' p S h 8 l (H.below hb) V hl
  have q0 : ¬ ((i : Int) < 0) := by omega
  have q1 : ¬ ((i : Int) ≥ (l.length : Nat)) := by omega
  have hi := hid hi
  have V := hid V
  go_enter Tryz.func64, Tryz.ntmps64
  go_wp2
  refine wp_scope_fuel 0 (fun n a w' => ∃ (h : Int) (i : Nat) (l : List Nat), n ≤ 8 ∧ (∃ u : Nat → Value, a = { tmps := #[.pointer (some ⟨p, 0, none⟩), .int .i64 h, .int .i64 i, u 3, u 4, u 5, .int .i64 0, .bool false, .int .i64 ((s / 2 ^ (n + 1) : Nat) : Int), .int .i64 ((8 - n : Nat) : Int), u 10, u 11, u 12, u 13, u 14, u 15, u 16, u 17, u 18, u 19, u 20, u 21, u 22, u 23, u 24, u 25, u 26, u 27, u 28, u 29, u 30, u 31, u 32, u 33, u 34, u 35, u 36, u 37, u 38, u 39, u 40, u 41, u 42, u 43, u 44, u 45, u 46, u 47, u 48, u 49, u 50, u 51, u 52, u 53, u 54, u 55, u 56, u 57], defers := [] }) ∧ Below w.heap.size w w' ∧ Hid (S.wv (n + 1) h l) ∧ Hid (l.length < 1000000) ∧ Hid (l[i]? = some s)) rfl ?_ ?_
  · clear HL q0 q1 hi V
    rintro n a w1 ⟨h, i, l, hn, ⟨u, rfl⟩, hb1, V, hl, hi⟩
    obtain ⟨b, z, o, e0, e1, e2, Bb, Vz, Vo⟩ := wv_node H.2 V.out
    have hil := (List.getElem?_eq_some_iff.1 hi.out).1
    have hl1 := hl.out
    have hbit : (l.map fun s => s.testBit n)[i]? = some (s.testBit n) := by rw [List.getElem?_map, hi.out]; rfl
    have HG := fun w' (hb : Below w.heap.size w w') => waveRow_calls w' p S h (H.below hb)
    have HB := fun w' (hb' : Below w.heap.size w w') => Get_bit_calls w' p S b _ i _ (H.below hb') Bb (by simpa using hl1) hbit
    have HA := fun w' (hb' : Below w.heap.size w w') => alike_calls w' p S b _ i (s.testBit n) (H.below hb') Bb (by simpa using hl1) (by simp; omega)
    have HK := fun w' => waveKid_calls w' (S.node h) (s.testBit n)
    have hnx : ∃ l', S.wv n (if s.testBit n then o else z) l' ∧ l'.length < 1000000 ∧ l'[((l.map fun s => s.testBit n).take i).count (s.testBit n)]? = some s := by
      by_cases q : s.testBit n = true
      · rw [q, if_pos rfl]
        exact ⟨_, Vo, Nat.lt_of_le_of_lt (List.length_filter_le _ _) hl1, filter_at _ l i s hi.out q⟩
      · have q : s.testBit n = false := by simpa using q
        rw [q, if_neg (by decide)]
        refine ⟨_, Vz, Nat.lt_of_le_of_lt (List.length_filter_le _ _) hl1, ?_⟩
        have := filter_at (fun s => !s.testBit n) l i s hi.out (by simp [q])
        rw [← count_not, List.map_take, List.map_map]
        exact this
    have hcl : ((l.map fun s => s.testBit n).take i).count (s.testBit n) < 1000000 := Nat.lt_of_le_of_lt List.count_le_length (by rw [List.length_take]; omega)
    have hnx := hid hnx
    have hst := shift_step s n
    have ha : s / 2 ^ (n + 1) < 257 := Nat.lt_of_le_of_lt (Nat.div_le_self _ _) hs
    generalize ((l.map fun s => s.testBit n).take i).count (s.testBit n) = k at *
    generalize s.testBit n = bt at *
    generalize s / 2 ^ (n + 1) = a at *
    unfold Nd.arr at HG HK
    rw [e0, e1, e2] at HG HK
    generalize S.node h = x at *
    clear e0 e1 e2 Bb Vz Vo V hl hi hbit
    cases bt with
    | true =>
      have ea := hid (show (a : Int) * 2 + 1 = ((s / 2 ^ n : Nat) : Int) by rw [hst]; simp; omega)
      have wa : IntKind.i64.wrap ((a : Int) * 2) = (a : Int) * 2 := by rw [show (a : Int) * 2 = ((a * 2 : Nat) : Int) by omega]; exact i64_nat (by omega)
      have wb : IntKind.i64.wrap ((a : Int) * 2 + 1) = (a : Int) * 2 + 1 := by rw [show (a : Int) * 2 + 1 = ((a * 2 + 1 : Nat) : Int) by omega]; exact i64_nat (by omega)
      have wc : IntKind.i64.wrap (((8 - n : Nat) : Int) + 1) = ((8 - n : Nat) : Int) + 1 := by rw [show ((8 - n : Nat) : Int) + 1 = ((8 - n + 1 : Nat) : Int) by omega]; exact i64_nat (by omega)
      generalize hL : ((8 - n : Nat) : Int) = L at *
      clear hst
      have hnx := hnx.out
      simp only [if_true, Bool.false_eq_true, if_false] at hnx HK
      have hnx := hid hnx
      go_wp2_with fail
      refine (HG _ (by repeat (first | with_reducible exact Below.refl _ _ | with_reducible assumption | with_reducible refine bel_drewN ?_ | with_reducible refine bel_drew ?_ | with_reducible refine bel_alloc ?_ _ | with_reducible refine bel_set ?_ _ ?_ | with_reducible refine bel_trans ?_ (by with_reducible assumption) | ((try dsimp only); omega)))).mono ?_; rintro o1 w2 ⟨q, rfl, hb2⟩; obtain ⟨hc2, hf2⟩ := bcell hb2
      go_wp2_with fail
      refine (HB _ (by repeat (first | with_reducible exact Below.refl _ _ | with_reducible assumption | with_reducible refine bel_drewN ?_ | with_reducible refine bel_drew ?_ | with_reducible refine bel_alloc ?_ _ | with_reducible refine bel_set ?_ _ ?_ | with_reducible refine bel_trans ?_ (by with_reducible assumption) | ((try dsimp only); omega)))).mono ?_; rintro o2 w3 ⟨rfl, hb3⟩; obtain ⟨hc3, hf3⟩ := bcell hb3
      have zz := hb3.size; (try simp only [World.size_alloc, World.size_drew, World.size_setCell] at zz); have : w2.heap.size < w3.heap.size := (by omega); clear zz
      have Hb3 : Below w.heap.size w w3 := bel_trans (bel_alloc (bel_trans hb1 hb2) _) hb3
      go_wp2_with fail
      refine (HA _ (by repeat (first | with_reducible exact Below.refl _ _ | with_reducible assumption | with_reducible refine bel_drewN ?_ | with_reducible refine bel_drew ?_ | with_reducible refine bel_alloc ?_ _ | with_reducible refine bel_set ?_ _ ?_ | with_reducible refine bel_trans ?_ (by with_reducible assumption) | ((try dsimp only); omega)))).mono ?_; rintro o3 w4 ⟨rfl, hb4⟩; obtain ⟨hc4, hf4⟩ := bcell hb4
      have zz := hb4.size; (try simp only [World.size_alloc, World.size_drew, World.size_setCell] at zz); clear zz
      have Hb4 : Below w.heap.size w w4 := bel_trans Hb3 hb4
      have : w2.heap.size < w4.heap.size := Nat.lt_of_lt_of_le this hb4.size
      go_wp2_with fail
      refine (HK _).mono ?_; rintro o4 w5 ⟨rfl, hb5⟩
      have Hb5 : Below w.heap.size w w5 := bel_trans Hb4 hb5
      cases n with
      | zero =>
        have qlt : ¬ L + 1 < 9 := by omega
        have qle : 9 ≤ L + 1 := by omega
        go_wp2
        simp only [Exit.jump]
        go_ret2
        refine ⟨?_, Hb5⟩
        rw [ea.out]; simp
      | succ m =>
        have e8 := hid (show L + 1 = ((8 - m : Nat) : Int) by omega)
        have qlt : L + 1 < 9 := by omega
        clear hL
        obtain ⟨l', f1, f2, f3⟩ := hnx.out
        go_wp2
        go_step3
        refine ⟨rfl, m, by omega, o, k, l', by omega, ?_, Hb5, hid f1, hid f2, hid f3⟩
        rw [← ea.out, ← e8.out]
        exact mk_u (a := Act.mk _ _) rfl
    | false =>
      have ea := hid (show (a : Int) * 2 = ((s / 2 ^ n : Nat) : Int) by rw [hst]; simp; omega)
      have wa : IntKind.i64.wrap ((a : Int) * 2) = (a : Int) * 2 := by rw [show (a : Int) * 2 = ((a * 2 : Nat) : Int) by omega]; exact i64_nat (by omega)
      have wc : IntKind.i64.wrap (((8 - n : Nat) : Int) + 1) = ((8 - n : Nat) : Int) + 1 := by rw [show ((8 - n : Nat) : Int) + 1 = ((8 - n + 1 : Nat) : Int) by omega]; exact i64_nat (by omega)
      generalize hL : ((8 - n : Nat) : Int) = L at *
      clear hst
      have hnx := hnx.out
      simp only [if_true, Bool.false_eq_true, if_false] at hnx HK
      have hnx := hid hnx
      go_wp2_with fail
      refine (HG _ (by repeat (first | with_reducible exact Below.refl _ _ | with_reducible assumption | with_reducible refine bel_drewN ?_ | with_reducible refine bel_drew ?_ | with_reducible refine bel_alloc ?_ _ | with_reducible refine bel_set ?_ _ ?_ | with_reducible refine bel_trans ?_ (by with_reducible assumption) | ((try dsimp only); omega)))).mono ?_; rintro o1 w2 ⟨q, rfl, hb2⟩; obtain ⟨hc2, hf2⟩ := bcell hb2
      go_wp2_with fail
      refine (HB _ (by repeat (first | with_reducible exact Below.refl _ _ | with_reducible assumption | with_reducible refine bel_drewN ?_ | with_reducible refine bel_drew ?_ | with_reducible refine bel_alloc ?_ _ | with_reducible refine bel_set ?_ _ ?_ | with_reducible refine bel_trans ?_ (by with_reducible assumption) | ((try dsimp only); omega)))).mono ?_; rintro o2 w3 ⟨rfl, hb3⟩; obtain ⟨hc3, hf3⟩ := bcell hb3
      have zz := hb3.size; (try simp only [World.size_alloc, World.size_drew, World.size_setCell] at zz); have : w2.heap.size < w3.heap.size := (by omega); clear zz
      have Hb3 : Below w.heap.size w w3 := bel_trans (bel_alloc (bel_trans hb1 hb2) _) hb3
      go_wp2_with fail
      refine (HA _ (by repeat (first | with_reducible exact Below.refl _ _ | with_reducible assumption | with_reducible refine bel_drewN ?_ | with_reducible refine bel_drew ?_ | with_reducible refine bel_alloc ?_ _ | with_reducible refine bel_set ?_ _ ?_ | with_reducible refine bel_trans ?_ (by with_reducible assumption) | ((try dsimp only); omega)))).mono ?_; rintro o3 w4 ⟨rfl, hb4⟩; obtain ⟨hc4, hf4⟩ := bcell hb4
      have zz := hb4.size; (try simp only [World.size_alloc, World.size_drew, World.size_setCell] at zz); clear zz
      have Hb4 : Below w.heap.size w w4 := bel_trans Hb3 hb4
      have : w2.heap.size < w4.heap.size := Nat.lt_of_lt_of_le this hb4.size
      go_wp2_with fail
      refine (HK _).mono ?_; rintro o4 w5 ⟨rfl, hb5⟩
      have Hb5 : Below w.heap.size w w5 := bel_trans Hb4 hb5
      cases n with
      | zero =>
        have qlt : ¬ L + 1 < 9 := by omega
        have qle : 9 ≤ L + 1 := by omega
        go_wp2
        simp only [Exit.jump]
        go_ret2
        refine ⟨?_, Hb5⟩
        rw [ea.out]; simp
      | succ m =>
        have e8 := hid (show L + 1 = ((8 - m : Nat) : Int) by omega)
        have qlt : L + 1 < 9 := by omega
        clear hL
        obtain ⟨l', f1, f2, f3⟩ := hnx.out
        go_wp2
        go_step3
        refine ⟨rfl, m, by omega, z, k, l', by omega, ?_, Hb5, hid f1, hid f2, hid f3⟩
        rw [← ea.out, ← e8.out]
        exact mk_u (a := Act.mk _ _) rfl
  · intro hp
    go_wp2_with fail
    refine (HL _ (by repeat (first | with_reducible exact Below.refl _ _ | with_reducible assumption | with_reducible refine bel_drewN ?_ | with_reducible refine bel_drew ?_ | with_reducible refine bel_alloc ?_ _ | with_reducible refine bel_set ?_ _ ?_ | with_reducible refine bel_trans ?_ (by with_reducible assumption) | ((try dsimp only); omega)))).mono ?_; rintro e w2 ⟨rfl, hb2⟩
    go_wp2
    go_step3
    rename_i hK
    have e0 : s / 2 ^ (8 + 1) = 0 := by omega
    refine hK _ _ (hp 8 _ _ ⟨h, i, l, Nat.le_refl _, ?_, (by repeat (first | with_reducible exact Below.refl _ _ | with_reducible assumption | with_reducible refine bel_drewN ?_ | with_reducible refine bel_drew ?_ | with_reducible refine bel_alloc ?_ _ | with_reducible refine bel_set ?_ _ ?_ | with_reducible refine bel_trans ?_ (by with_reducible assumption) | ((try dsimp only); omega))), V, hid hl, hi⟩)
    rw [e0]
    exact mk_u (a := Act.mk _ _) rfl
end Go.Proofs.YtngfalbabgpnnaaGreat

namespace Go.Proofs.YtngfalbabgpnnaaGreat
open Go.RowKit St

def kidL (n : Nat) (bt : Bool) (l : List Nat) : List Nat := l.filter fun x => x.testBit n == bt
theorem kidL_length (n : Nat) (bt : Bool) (l : List Nat) : (kidL n bt l).length ≤ l.length := List.length_filter_le _ _
theorem wv_kid {S : St} (W : S.WF) {n : Nat} {h : Int} {l : List Nat} (V : S.wv (n + 1) h l) :
    ∃ b z o, (S.node h).k0 = b ∧ (S.node h).k1 = z ∧ (S.node h).k2 = o ∧ S.br b (l.map fun s => s.testBit n) ∧ ∀ bt : Bool, S.wv n (if bt then o else z) (kidL n bt l) := by
  obtain ⟨b, z, o, e0, e1, e2, B, Vz, Vo⟩ := wv_node W V
  refine ⟨b, z, o, e0, e1, e2, B, fun bt => ?_⟩
  cases bt with
  | true => simpa [kidL] using Vo
  | false => simpa [kidL] using Vz
theorem kidL_len (n : Nat) (bt : Bool) (l : List Nat) (i : Nat) : ((l.map fun x => x.testBit n).take i).count bt = (kidL n bt (l.take i)).length := by
  rw [← List.map_take, kidL, ← List.countP_eq_length_filter, List.count, List.countP_map]; rfl
theorem kidL_take (n : Nat) (bt : Bool) (l : List Nat) (i : Nat) : (kidL n bt l).take (((l.map fun x => x.testBit n).take i).count bt) = kidL n bt (l.take i) := by
  have f : kidL n bt l = kidL n bt (l.take i) ++ kidL n bt (l.drop i) := by unfold kidL; rw [← List.filter_append, List.take_append_drop]
  rw [kidL_len, f, List.take_left]
theorem count_kidL (n s : Nat) (l : List Nat) : (kidL n (s.testBit n) l).count s = l.count s := by
  unfold kidL; rw [List.count_filter]; simp
def agree (n s : Nat) (l : List Nat) : Prop := ∀ x ∈ l, x / 2 ^ n = s / 2 ^ n
theorem agree_start {s : Nat} {l : List Nat} (hs : s < 257) (h : ∀ x ∈ l, x < 257) : agree 9 s l := fun x hx => by have := h x hx; omega
theorem agree_kid {n s : Nat} {l : List Nat} (h : agree (n + 1) s l) : agree n s (kidL n (s.testBit n) l) := fun x hx => by
  unfold kidL at hx
  obtain ⟨hm, hb⟩ := List.mem_filter.1 hx
  have hb : x.testBit n = s.testBit n := by simpa using hb
  rw [shift_step x n, shift_step s n, h x hm, hb]
theorem agree_take {n s : Nat} {l : List Nat} (h : agree n s l) (i : Nat) : agree n s (l.take i) := fun x hx => h x (List.mem_of_mem_take hx)
theorem count_all {s : Nat} : ∀ {l : List Nat}, agree 0 s l → l.count s = l.length
  | [], _ => rfl
  | a :: r, h => by
    have : a = s := by have := h a (by simp); simpa using this
    subst this
    rw [List.count_cons_self, count_all (l := r) fun x hx => h x (List.mem_cons_of_mem _ hx)]; rfl
def lessN (s : Nat) (l : List Nat) : Nat := (l.filter fun x => decide (x < s)).length
theorem lessN_all {s : Nat} {l : List Nat} (h : agree 0 s l) : lessN s l = 0 := by
  unfold lessN
  rw [List.length_eq_zero_iff, List.filter_eq_nil_iff]
  intro x hx
  have := h x hx
  simp at this
  simp; omega
theorem lessN_step {n s : Nat} : ∀ {l : List Nat}, agree (n + 1) s l → lessN s l = (if s.testBit n then (kidL n false l).length else 0) + lessN s (kidL n (s.testBit n) l)
  | [], _ => by simp [lessN, kidL]
  | x :: r, h => by
    have ih := lessN_step (l := r) fun y hy => h y (List.mem_cons_of_mem _ hy)
    have hx := h x (by simp)
    have ex := shift_step x n
    have es := shift_step s n
    rw [hx] at ex
    have hlt : x / 2 ^ n < s / 2 ^ n → x < s := fun q => by
      by_cases c : x < s
      · exact c
      · have := Nat.div_le_div_right (c := 2 ^ n) (show s ≤ x by omega); omega
    have hgt : s / 2 ^ n < x / 2 ^ n → ¬ x < s := fun q c => by
      have := Nat.div_le_div_right (c := 2 ^ n) (show x ≤ s by omega); omega
    simp only [lessN, kidL] at ih ⊢
    by_cases bs : s.testBit n = true <;> by_cases bx : x.testBit n = true
    · simp only [bs, bx] at ih ⊢
      by_cases c : x < s <;> simp [bx, c] at ih ⊢ <;> omega
    · have bx : x.testBit n = false := by simpa using bx
      rw [bx] at ex; rw [bs] at es
      have c := hlt (by simp at ex es; omega)
      simp only [bs] at ih ⊢
      simp [bx, c] at ih ⊢; omega
    · have bs : s.testBit n = false := by simpa using bs
      rw [bx] at ex; rw [bs] at es
      have c := hgt (by simp at ex es; omega)
      simp only [bs] at ih ⊢
      simp [bx, c] at ih ⊢; omega
    · have bs : s.testBit n = false := by simpa using bs
      have bx : x.testBit n = false := by simpa using bx
      simp only [bs] at ih ⊢
      by_cases c : x < s <;> simp [bx, c] at ih ⊢ <;> omega
end Go.Proofs.YtngfalbabgpnnaaGreat

namespace Go.Proofs.YtngfalbabgpnnaaGreat
open Go.RowKit St

set_option maxHeartbeats 4000000 in
set_option maxRecDepth 100000 in
theorem waveRank_calls (w : World) (p : Nat) (S : St) (h : Int) (l : List Nat) (i s : Nat) (H : Ar w p S) (V : S.wv 9 h l) (hl : l.length < 1000000) (hi : i ≤ l.length) (hs : s < 257) (h257 : ∀ x ∈ l, x < 257) :
    Calls Tryz.prog 70 #[.pointer (some ⟨p, 0, none⟩), .int .i64 h, .int .i64 s, .int .i64 i] w fun e w' => e = .returned (.int .i64 ((l.take i).count s : Nat)) ∧ Below w.heap.size w w' := by
  have HI := fun w' => waveIs_calls w' s hs
  have agr := hid (agree_start hs h257)
  have V := hid V
  have hl := hid hl
  have hi := hid hi
  have hR := hid (rfl : (l.take i).count s = (l.take i).count s)
  generalize hRR : (l.take i).count s = R at hR ⊢
  have hRR := hid hRR
  clear hR h257
  go_enter Tryz.func70, Tryz.ntmps70
  go_wp2
  refine wp_scope_fuel 0 (fun n a w' => ∃ (h : Int) (i : Nat) (l : List Nat), n ≤ 8 ∧ (∃ u : Nat → Value, a = { tmps := #[.pointer (some ⟨p, 0, none⟩), .int .i64 h, .int .i64 s, .int .i64 i, u 4, u 5, u 6, u 7, .int .i64 0, .int .i64 ((8 - n : Nat) : Int), u 10, u 11, u 12, u 13, u 14, u 15, u 16, u 17, u 18, u 19, u 20, u 21, u 22, u 23, u 24, u 25, u 26, u 27, u 28, u 29, u 30, u 31, u 32, u 33, u 34, u 35, u 36, u 37, u 38, u 39, u 40, u 41, u 42, u 43], defers := [] }) ∧ Below w.heap.size w w' ∧ Hid (S.wv (n + 1) h l) ∧ Hid (l.length < 1000000) ∧ Hid (i ≤ l.length) ∧ Hid (agree (n + 1) s l) ∧ Hid ((l.take i).count s = R)) rfl ?_ ?_
  · clear hi V agr hRR hl HI
    rintro n a w1 ⟨h, i, l, hn, ⟨u, rfl⟩, hb1, V, hl, hi, agr, hRR⟩
    obtain ⟨b, z, o, e0, e1, e2, Bb, Vk⟩ := wv_kid H.2 V.out
    have Vk := Vk (s.testBit n)
    have hl1 := hl.out
    have hi1 := hi.out
    have HG := fun w' (hb : Below w.heap.size w w') => waveRow_calls w' p S h (H.below hb)
    have HB := fun w' => symBit_calls w' s n hs hn
    have HA := fun w' (hb' : Below w.heap.size w w') => alike_calls w' p S b _ i (s.testBit n) (H.below hb') Bb (by simpa using hl1) (by simpa using hi1)
    have HK := fun w' => waveKid_calls w' (S.node h) (s.testBit n)
    have agk := hid (agree_kid agr.out)
    have hck : ((kidL n (s.testBit n) l).take (((l.map fun s => s.testBit n).take i).count (s.testBit n))).count s = R := by rw [kidL_take, count_kidL]; exact hRR.out
    have hkl := kidL_length n (s.testBit n) l
    have hkk : ((l.map fun s => s.testBit n).take i).count (s.testBit n) ≤ (kidL n (s.testBit n) l).length := by
      rw [kidL_len]
      have := congrArg List.length (kidL_take n (s.testBit n) l i)
      rw [List.length_take, kidL_len] at this; omega
    generalize kidL n (s.testBit n) l = l' at *
    generalize ((l.map fun s => s.testBit n).take i).count (s.testBit n) = k at *
    have fin : ∃ K : Int, K = (if s.testBit n then o else z) ∧ S.wv n K l' := ⟨_, rfl, Vk⟩
    obtain ⟨K, hK0, VK⟩ := fin
    clear Vk
    unfold Nd.arr at HG HK
    rw [e0, e1, e2] at HG HK
    rw [← hK0] at HK
    have VK1 := hid VK
    clear VK
    have hck := hid hck
    have hkl := hid hkl
    have hkk := hid hkk
    generalize s.testBit n = bt at *
    generalize S.node h = x at *
    clear e0 e1 e2 Bb V hi hK0 agr hRR hl1
    have wc : IntKind.i64.wrap (((8 - n : Nat) : Int) + 1) = ((8 - n : Nat) : Int) + 1 := by rw [show ((8 - n : Nat) : Int) + 1 = ((8 - n + 1 : Nat) : Int) by omega]; exact i64_nat (by omega)
    generalize hL : ((8 - n : Nat) : Int) = L at *
    go_wp2_with fail
    refine (HG _ (by repeat (first | with_reducible exact Below.refl _ _ | with_reducible assumption | with_reducible refine bel_drewN ?_ | with_reducible refine bel_drew ?_ | with_reducible refine bel_alloc ?_ _ | with_reducible refine bel_set ?_ _ ?_ | with_reducible refine bel_trans ?_ (by with_reducible assumption) | ((try dsimp only); omega)))).mono ?_; rintro o1 w2 ⟨q, rfl, hb2⟩; obtain ⟨hc2, hf2⟩ := bcell hb2
    go_wp2_with fail
    refine (HB _).mono ?_; rintro o2 w3 ⟨rfl, hb3⟩; subst hb3
    have Hb3 := fun o : Obj => bel_alloc (bel_trans hb1 hb2) o
    go_wp2_with fail
    refine (HA _ (by repeat (first | with_reducible exact Below.refl _ _ | with_reducible assumption | with_reducible refine bel_drewN ?_ | with_reducible refine bel_drew ?_ | with_reducible refine bel_alloc ?_ _ | with_reducible refine bel_set ?_ _ ?_ | with_reducible refine bel_trans ?_ (by with_reducible assumption) | ((try dsimp only); omega)))).mono ?_; rintro o3 w4 ⟨rfl, hb4⟩; obtain ⟨hc4, hf4⟩ := bcell hb4
    have zz := hb4.size; (try simp only [World.size_alloc, World.size_drew, World.size_setCell] at zz); have : w2.heap.size < w4.heap.size := (by omega); clear zz
    have Hb4 : Below w.heap.size w w4 := bel_trans (Hb3 _) hb4
    go_wp2_with fail
    refine (HK _).mono ?_; rintro o4 w5 ⟨rfl, hb5⟩
    have Hb5 : Below w.heap.size w w5 := bel_trans Hb4 hb5
    cases n with
    | zero =>
      have qlt : ¬ L + 1 < 9 := by omega
      have qle : 9 ≤ L + 1 := by omega
      have hkR : k = R := by
        have := hck.out
        rw [count_all (agree_take agk.out k), List.length_take, Nat.min_eq_left hkk.out] at this
        exact this
      subst hkR
      go_wp2
      simp only [Exit.jump]
      go_ret
      exact ⟨rfl, Hb5⟩
    | succ m =>
      have e8 := hid (show L + 1 = ((8 - m : Nat) : Int) by omega)
      have qlt : L + 1 < 9 := by omega
      clear hL
      by_cases k0 : k = 0
      · subst k0
        have hR0 : R = 0 := by rw [← hck.out]; rfl
        subst hR0
        go_wp2
        simp only [Exit.jump]
        go_ret
        exact ⟨rfl, Hb5⟩
      · have k1 : (k : Int) > 0 := by omega
        have k2 : (0 : Int) < k := by omega
        go_wp2
        go_step3
        refine ⟨rfl, m, by omega, K, k, l', by omega, ?_, Hb5, VK1, hid (Nat.lt_of_le_of_lt hkl.out hl.out), hkk, agk, hck⟩
        rw [← e8.out]
        exact mk_u (a := Act.mk _ _) rfl
  · intro hp
    go_wp2_with fail
    refine (HI _).mono ?_; rintro e w2 ⟨rfl, rfl⟩
    go_wp2
    go_step3
    rename_i hK
    exact hK _ _ (hp 8 _ _ ⟨h, i, l, Nat.le_refl _, mk_u (a := Act.mk _ _) rfl, (by repeat (first | with_reducible exact Below.refl _ _ | with_reducible assumption | with_reducible refine bel_drewN ?_ | with_reducible refine bel_drew ?_ | with_reducible refine bel_alloc ?_ _ | with_reducible refine bel_set ?_ _ ?_ | with_reducible refine bel_trans ?_ (by with_reducible assumption) | ((try dsimp only); omega))), V, hl, hi, agr, hRR⟩)
end Go.Proofs.YtngfalbabgpnnaaGreat

namespace Go.Proofs.YtngfalbabgpnnaaGreat
open Go.RowKit St

set_option maxHeartbeats 4000000 in
set_option maxRecDepth 100000 in
theorem waveBefore_calls (w : World) (p : Nat) (S : St) (h : Int) (l : List Nat) (s : Nat) (H : Ar w p S) (V : S.wv 9 h l) (hl : l.length < 1000000) (hs : s < 257) (h257 : ∀ x ∈ l, x < 257) :
    Calls Tryz.prog 69 #[.pointer (some ⟨p, 0, none⟩), .int .i64 h, .int .i64 s] w fun e w' => e = .returned (.int .i64 (lessN s l : Nat)) ∧ Below w.heap.size w w' := by
  have q1 : ¬ (s : Int) < 0 := by omega
  have q2 : ¬ (s : Int) ≥ 257 := by omega
  have q3 : (s : Int) < 257 := by omega
  have agr := hid (agree_start hs h257)
  have V := hid V
  have hRl := hid (show lessN s l < 1000000 from Nat.lt_of_le_of_lt (List.length_filter_le _ _) hl)
  have hl := hid hl
  have hR := hid (show lessN s l = 0 + lessN s l by omega)
  generalize hRR : lessN s l = R at hRl ⊢
  have hRR := hid (show R = 0 + lessN s l by omega)
  clear hR h257
  go_enter Tryz.func69, Tryz.ntmps69
  go_wp2
  refine wp_scope_fuel 0 (fun n a w' => ∃ (h : Int) (m : Nat) (l : List Nat), n ≤ 8 ∧ (∃ u : Nat → Value, a = { tmps := #[.pointer (some ⟨p, 0, none⟩), .int .i64 h, .int .i64 s, u 3, u 4, u 5, .int .i64 0, .int .i64 m, .int .i64 ((8 - n : Nat) : Int), u 9, u 10, u 11, u 12, u 13, u 14, u 15, u 16, u 17, u 18, u 19, u 20, u 21, u 22, u 23, u 24, u 25, u 26, u 27, u 28, u 29, u 30, u 31, u 32, u 33, u 34, u 35, u 36, u 37, u 38, u 39, u 40, u 41, u 42, u 43, u 44, u 45, u 46, u 47, u 48, u 49, u 50], defers := [] }) ∧ Below w.heap.size w w' ∧ Hid (S.wv (n + 1) h l) ∧ Hid (l.length < 1000000) ∧ Hid (agree (n + 1) s l) ∧ Hid (R = m + lessN s l)) rfl ?_ ?_
  · clear V agr hRR hl q1 q2 q3
    rintro n a w1 ⟨h, m, l, hn, ⟨u, rfl⟩, hb1, V, hl, agr, hRR⟩
    obtain ⟨b, z, o, e0, e1, e2, Bb, Vk⟩ := wv_kid H.2 V.out
    have Vk := Vk (s.testBit n)
    have hl1 := hl.out
    have HG := fun w' (hb : Below w.heap.size w w') => waveRow_calls w' p S h (H.below hb)
    have HB := fun w' => symBit_calls w' s n hs hn
    have HL := fun w' (hb' : Below w.heap.size w w') => Len_calls w' p S b _ (H.below hb') Bb (by simp; omega)
    have HA := fun w' (hb' : Below w.heap.size w w') => alike_calls w' p S b _ l.length false (H.below hb') Bb (by simpa using hl1) (by simp)
    have HK := fun w' => waveKid_calls w' (S.node h) (s.testBit n)
    have agk := hid (agree_kid agr.out)
    have hst := lessN_step agr.out
    have hkl := kidL_length n (s.testBit n) l
    have eZ := kidL_len n false l l.length
    rw [List.take_length] at eZ
    rw [eZ] at HA
    rw [List.length_map] at HL
    generalize (kidL n false l).length = Z at *
    generalize kidL n (s.testBit n) l = l' at *
    obtain ⟨K, hK0, VK⟩ : ∃ K : Int, K = (if s.testBit n then o else z) ∧ S.wv n K l' := ⟨_, rfl, Vk⟩
    clear Vk
    unfold Nd.arr at HG HK
    rw [e0, e1, e2] at HG HK
    rw [← hK0] at HK
    have VK1 := hid VK
    have hkl := hid hkl
    have hRR1 := hRR.out
    rw [hst] at hRR1
    have hRl1 := hRl.out
    generalize hbt : s.testBit n = bt at *
    generalize S.node h = x at *
    clear e0 e1 e2 Bb V hK0 agr hRR hl1 VK hst hbt eZ
    have wc : IntKind.i64.wrap (((8 - n : Nat) : Int) + 1) = ((8 - n : Nat) : Int) + 1 := by rw [show ((8 - n : Nat) : Int) + 1 = ((8 - n + 1 : Nat) : Int) by omega]; exact i64_nat (by omega)
    generalize hL : ((8 - n : Nat) : Int) = L at *
    cases bt with
    | false =>
      have hRR2 := hid (show R = m + lessN s l' by simpa using hRR1)
      clear hRR1
      go_wp2_with fail
      refine (HG _ (by repeat (first | with_reducible exact Below.refl _ _ | with_reducible assumption | with_reducible refine bel_drewN ?_ | with_reducible refine bel_drew ?_ | with_reducible refine bel_alloc ?_ _ | with_reducible refine bel_set ?_ _ ?_ | with_reducible refine bel_trans ?_ (by with_reducible assumption) | ((try dsimp only); omega)))).mono ?_; rintro o1 w2 ⟨q, rfl, hb2⟩; obtain ⟨hc2, hf2⟩ := bcell hb2
      go_wp2_with fail
      refine (HB _).mono ?_; rintro o2 w3 ⟨rfl, hb3⟩; subst hb3
      have Hb3 := fun o : Obj => bel_alloc (bel_trans hb1 hb2) o
      go_wp2_with fail
      refine (HK _).mono ?_; rintro o4 w5 ⟨rfl, hb5⟩
      have Hb5 := bel_trans (Hb3 _) hb5
      cases n with
      | zero =>
        have qlt : ¬ L + 1 < 9 := by omega
        have qle : 9 ≤ L + 1 := by omega
        have hkR : m = R := by have := hRR2.out; rw [lessN_all agk.out] at this; omega
        subst hkR
        go_wp2
        simp only [Exit.jump]
        go_ret
        exact ⟨rfl, Hb5⟩
      | succ n =>
        have e8 := hid (show L + 1 = ((8 - n : Nat) : Int) by omega)
        have qlt : L + 1 < 9 := by omega
        clear hL
        go_wp2
        go_step3
        refine ⟨rfl, n, by omega, K, m, l', by omega, ?_, Hb5, VK1, hid (Nat.lt_of_le_of_lt hkl.out hl.out), agk, hRR2⟩
        rw [← e8.out]
        exact mk_u (a := Act.mk _ _) rfl
    | true =>
      have hRR2 := hid (show R = (m + Z) + lessN s l' by simp at hRR1; omega)
      have wz : IntKind.i64.wrap ((m : Int) + Z) = (m : Int) + Z := by rw [show (m : Int) + Z = ((m + Z : Nat) : Int) by omega]; exact i64_nat (by have := hRR2.out; omega)
      clear hRR1
      go_wp2_with fail
      refine (HG _ (by repeat (first | with_reducible exact Below.refl _ _ | with_reducible assumption | with_reducible refine bel_drewN ?_ | with_reducible refine bel_drew ?_ | with_reducible refine bel_alloc ?_ _ | with_reducible refine bel_set ?_ _ ?_ | with_reducible refine bel_trans ?_ (by with_reducible assumption) | ((try dsimp only); omega)))).mono ?_; rintro o1 w2 ⟨q, rfl, hb2⟩; obtain ⟨hc2, hf2⟩ := bcell hb2
      go_wp2_with fail
      refine (HB _).mono ?_; rintro o2 w3 ⟨rfl, hb3⟩; subst hb3
      go_wp2
      generalize hW : w2.alloc _ = W
      have l0 : W.cell? ⟨w2.heap.size, 0, none⟩ = some (.int .i64 x.tag) := (by subst hW; go_simp); have l1 : W.cell? ⟨w2.heap.size, 1, none⟩ = some (.int .i64 b) := (by subst hW; go_simp); have l2 : W.cell? ⟨w2.heap.size, 2, none⟩ = some (.int .i64 z) := (by subst hW; go_simp); have l3 : W.cell? ⟨w2.heap.size, 3, none⟩ = some (.int .i64 o) := (by subst hW; go_simp); have l4 : W.cell? ⟨w2.heap.size, 4, none⟩ = some (.int .i64 x.k3) := (by subst hW; go_simp); have l5 : W.cell? ⟨w2.heap.size, 5, none⟩ = some (.int .u64 x.a) := (by subst hW; go_simp); have l6 : W.cell? ⟨w2.heap.size, 6, none⟩ = some (.int .u64 x.b) := (by subst hW; go_simp)
      have hbW : Below w.heap.size w W := by subst hW; exact (by repeat (first | with_reducible exact Below.refl _ _ | with_reducible assumption | with_reducible refine bel_drewN ?_ | with_reducible refine bel_drew ?_ | with_reducible refine bel_alloc ?_ _ | with_reducible refine bel_set ?_ _ ?_ | with_reducible refine bel_trans ?_ (by with_reducible assumption) | ((try dsimp only); omega)))
      have sz : w2.heap.size < W.heap.size := by subst hW; simp
      clear hW hc2 hf2 hb2
      refine wp_region_can (fun w' => ∀ o, w'.cell? ⟨w2.heap.size, o, none⟩ = W.cell? ⟨w2.heap.size, o, none⟩) [(0, false), (1, false), (2, false), (3, false), (4, false), (5, false), (6, false), (7, false), (8, false), (9, true), (10, true), (11, false), (12, false)] (by kernel_rfl) (by kernel_rfl) (fun _ d _ _ _ h => by cases d <;> exact h) ?_ ?_
      · exact fun _ => rfl
      repeat ((with_reducible refine wpCan_isq ?_); first | (apply wpCan_read rfl (by rfl); (· intro w' hS; go_simp; with_reducible rfl); (· try simp only [Act.put, List.setIfInBounds_toArray, List.set_cons_zero, List.set_cons_succ]; with_reducible rfl)) | (apply wpCan_no rfl (by rfl); (· try simp only [Act.put, List.setIfInBounds_toArray, List.set_cons_zero, List.set_cons_succ]; with_reducible rfl)))
      (with_reducible refine wpCan_isl ?_); apply wpCan_call (HL _ (bel_drew hbW)) rfl (by rfl); (· go_simp); rintro o a1 ⟨rfl, ha1⟩; apply wpCan_told; (· exact fun o => ha1.cell sz); (· try simp only [Act.put, List.setIfInBounds_toArray, List.set_cons_zero, List.set_cons_succ]; with_reducible rfl)
      have Ha1 : Below w.heap.size w a1 := bel_trans (bel_drew hbW) ha1
      (with_reducible refine wpCan_isl ?_); apply wpCan_call (HA _ Ha1) rfl (by rfl); (· go_simp); rintro o a2 ⟨rfl, ha2⟩; apply wpCan_told; (· exact fun o => (ha2.cell (Nat.lt_of_lt_of_le sz ha1.size)).trans (ha1.cell sz)); (· try simp only [Act.put, List.setIfInBounds_toArray, List.set_cons_zero, List.set_cons_succ]; with_reducible rfl)
      have Ha2 : Below w.heap.size w a2 := bel_trans Ha1 ha2
      repeat ((with_reducible refine wpCan_isq ?_); first | (apply wpCan_read rfl (by rfl); (· intro w' hS; go_simp; with_reducible rfl); (· try simp only [Act.put, List.setIfInBounds_toArray, List.set_cons_zero, List.set_cons_succ]; with_reducible rfl)) | (apply wpCan_no rfl (by rfl); (· try simp only [Act.put, List.setIfInBounds_toArray, List.set_cons_zero, List.set_cons_succ]; with_reducible rfl)))
      refine wpCan_nil ?_
      have ec : ∀ o, a2.cell? ⟨w2.heap.size, o, none⟩ = W.cell? ⟨w2.heap.size, o, none⟩ := fun o => (ha2.cell (Nat.lt_of_lt_of_le sz ha1.size)).trans (ha1.cell sz)
      have k0 := (ec 0).trans l0
      have k1 := (ec 1).trans l1
      have k2 := (ec 2).trans l2
      have k3 := (ec 3).trans l3
      have k4 := (ec 4).trans l4
      have k5 := (ec 5).trans l5
      have k6 := (ec 6).trans l6
      clear ec l0 l1 l2 l3 l4 l5 l6
      go_wp2_with fail
      refine (HK _).mono ?_; rintro o4 w5 ⟨rfl, hb5⟩
      have Hb5 := bel_trans Ha2 hb5
      cases n with
      | zero =>
        have qlt : ¬ L + 1 < 9 := by omega
        have qle : 9 ≤ L + 1 := by omega
        have hkR : m + Z = R := by have := hRR2.out; rw [lessN_all agk.out] at this; omega
        have hkR2 := hid (show (m : Int) + Z = R by omega)
        go_wp2
        simp only [Exit.jump]
        rw [hkR2.out]
        go_ret
        exact ⟨rfl, Hb5⟩
      | succ n =>
        have e8 := hid (show L + 1 = ((8 - n : Nat) : Int) by omega)
        have qlt : L + 1 < 9 := by omega
        have e9 := hid (show (m : Int) + Z = ((m + Z : Nat) : Int) by omega)
        clear hL
        go_wp2
        go_step3
        refine ⟨rfl, n, by omega, K, m + Z, l', by omega, ?_, Hb5, VK1, hid (Nat.lt_of_le_of_lt hkl.out hl.out), agk, hRR2⟩
        rw [← e8.out, ← e9.out]
        exact mk_u (a := Act.mk _ _) rfl
  · intro hp
    go_wp2
    go_step3
    rename_i hK
    exact hK _ _ (hp 8 _ _ ⟨h, 0, l, Nat.le_refl _, mk_u (a := Act.mk _ _) rfl, (by repeat (first | with_reducible exact Below.refl _ _ | with_reducible assumption | with_reducible refine bel_drewN ?_ | with_reducible refine bel_drew ?_ | with_reducible refine bel_alloc ?_ _ | with_reducible refine bel_set ?_ _ ?_ | with_reducible refine bel_trans ?_ (by with_reducible assumption) | ((try dsimp only); omega))), V, hl, agr, hRR⟩)
end Go.Proofs.YtngfalbabgpnnaaGreat
