/-
  The walks of package bits: what reads.
  The walks of package bits: the length, the ones.
-/
import Derived.Test.YtngfalbabgpnnaaGreatM1
import Derived.Test.YtngfalbabgpnnaaGreatM2
import Derived.Test.YtngfalbabgpnnaaGreatM3
import Derived.Test.YtngfalbabgpnnaaGreatM4
set_option linter.unusedVariables false
set_option linter.unusedSimpArgs false
namespace Go.Proofs.YtngfalbabgpnnaaGreat
open Go.RowKit

set_option maxHeartbeats 1000000 in
set_option maxRecDepth 100000 in
theorem bitsRow_unused (w : World) (p : Nat) (S : St) (h : Int) (H : Ar w p S) (hu : S.used h = false) :
    Calls Tryz.prog 119 #[.pointer (some ⟨p, 0, none⟩), .int .i64 h] w fun e w' => e = .returned (.tuple #[.agg (S.node h).arr, .bool false]) ∧ Below w.heap.size w w' := by
  have HG := fun w' (hb : Below w.heap.size w w') => Get_calls w' p S h (H.below hb)
  have HC := fun w' (hb : Below w.heap.size w w') => Count_calls w' p S h (H.below hb)
  unfold Nd.arr at HG ⊢
  generalize S.node h = x at *
  generalize S.cnt h = c at *
  rw [hu] at HG
  clear hu
  go_enter Tryz.func119, Tryz.ntmps119
  go_wp2_with fail
  refine (HG _ (by repeat (first | with_reducible exact Below.refl _ _ | with_reducible assumption | with_reducible refine bel_drewN ?_ | with_reducible refine bel_drew ?_ | with_reducible refine bel_alloc ?_ _ | with_reducible refine bel_set ?_ _ ?_ | with_reducible refine bel_trans ?_ (by with_reducible assumption) | ((try dsimp only); omega)))).mono ?_; rintro e w1 ⟨rfl, hb1⟩; obtain ⟨hc1, hf1⟩ := bcell hb1
  have zz := hb1.size; (try simp only [World.size_alloc, World.size_drew, World.size_setCell] at zz); have : w.heap.size < w1.heap.size := (by omega); clear zz
  go_wp2
  generalize hW : w1.alloc _ = W
  have l0 : W.cell? ⟨w1.heap.size, 0, none⟩ = some (.int .i64 x.tag) := (by subst hW; go_simp); have l1 : W.cell? ⟨w1.heap.size, 1, none⟩ = some (.int .i64 x.k0) := (by subst hW; go_simp); have l2 : W.cell? ⟨w1.heap.size, 2, none⟩ = some (.int .i64 x.k1) := (by subst hW; go_simp); have l3 : W.cell? ⟨w1.heap.size, 3, none⟩ = some (.int .i64 x.k2) := (by subst hW; go_simp); have l4 : W.cell? ⟨w1.heap.size, 4, none⟩ = some (.int .i64 x.k3) := (by subst hW; go_simp); have l5 : W.cell? ⟨w1.heap.size, 5, none⟩ = some (.int .u64 x.a) := (by subst hW; go_simp); have l6 : W.cell? ⟨w1.heap.size, 6, none⟩ = some (.int .u64 x.b) := (by subst hW; go_simp)
  have r0 : ∀ i, i < 7 → W.frozen? ⟨w.heap.size, i, none⟩ = false := fun i _ => by subst hW; go_simp
  have z0 : W.cell? ⟨w.heap.size, 0, none⟩ = some (.int .i64 0) := (by subst hW; go_simp); have z1 : W.cell? ⟨w.heap.size, 1, none⟩ = some (.int .i64 0) := (by subst hW; go_simp); have z2 : W.cell? ⟨w.heap.size, 2, none⟩ = some (.int .i64 0) := (by subst hW; go_simp); have z3 : W.cell? ⟨w.heap.size, 3, none⟩ = some (.int .i64 0) := (by subst hW; go_simp); have z4 : W.cell? ⟨w.heap.size, 4, none⟩ = some (.int .i64 0) := (by subst hW; go_simp); have z5 : W.cell? ⟨w.heap.size, 5, none⟩ = some (.int .u64 0) := (by subst hW; go_simp); have z6 : W.cell? ⟨w.heap.size, 6, none⟩ = some (.int .u64 0) := (by subst hW; go_simp)
  have hbW : Below w.heap.size w W := by subst hW; exact (by repeat (first | with_reducible exact Below.refl _ _ | with_reducible assumption | with_reducible refine bel_drewN ?_ | with_reducible refine bel_drew ?_ | with_reducible refine bel_alloc ?_ _ | with_reducible refine bel_set ?_ _ ?_ | with_reducible refine bel_trans ?_ (by with_reducible assumption) | ((try dsimp only); omega)))
  have nq : w.heap.size ≠ w1.heap.size := by omega
  clear hW hc1 hf1 hb1
  refine wp_region_can (fun w' => ∀ o, w'.cell? ⟨w1.heap.size, o, none⟩ = W.cell? ⟨w1.heap.size, o, none⟩) [(0, false), (1, false), (2, false), (3, false), (4, false), (5, true), (6, false), (7, false), (8, false), (9, false), (10, false), (11, false), (12, false), (13, false), (14, false), (15, false), (16, false), (17, false), (18, true), (19, false)] (by kernel_rfl) (by kernel_rfl) (fun _ d _ _ _ h => by cases d <;> exact h) ?_ ?_
  · exact fun _ => rfl
  repeat ((with_reducible refine wpCan_isq ?_); first | (apply wpCan_read rfl (by rfl); (· intro w' hS; go_simp; with_reducible rfl); (· try simp only [Act.put, List.setIfInBounds_toArray, List.set_cons_zero, List.set_cons_succ]; with_reducible rfl)) | (apply wpCan_no rfl (by rfl); (· try simp only [Act.put, List.setIfInBounds_toArray, List.set_cons_zero, List.set_cons_succ]; with_reducible rfl)))
  (with_reducible refine wpCan_isl ?_); apply wpCan_no_loud rfl (by rfl); (· try simp only [Act.put, List.setIfInBounds_toArray, List.set_cons_zero, List.set_cons_succ]; with_reducible rfl); (· exact fun _ => rfl)
  repeat ((with_reducible refine wpCan_isq ?_); first | (apply wpCan_read rfl (by rfl); (· intro w' hS; go_simp; with_reducible rfl); (· try simp only [Act.put, List.setIfInBounds_toArray, List.set_cons_zero, List.set_cons_succ]; with_reducible rfl)) | (apply wpCan_no rfl (by rfl); (· try simp only [Act.put, List.setIfInBounds_toArray, List.set_cons_zero, List.set_cons_succ]; with_reducible rfl)))
  (with_reducible refine wpCan_isl ?_); apply wpCan_skip rfl (by rfl); (· go_simp; with_reducible rfl); (· try simp only [Act.put, List.setIfInBounds_toArray, List.set_cons_zero, List.set_cons_succ]; with_reducible rfl); (· intro o; go_simp)
  repeat ((with_reducible refine wpCan_isq ?_); first | (apply wpCan_read rfl (by rfl); (· intro w' hS; go_simp; with_reducible rfl); (· try simp only [Act.put, List.setIfInBounds_toArray, List.set_cons_zero, List.set_cons_succ]; with_reducible rfl)) | (apply wpCan_no rfl (by rfl); (· try simp only [Act.put, List.setIfInBounds_toArray, List.set_cons_zero, List.set_cons_succ]; with_reducible rfl)))
  refine wpCan_nil ?_
  go_wp2
  refine bodyPost_ret (v := .tuple #[.agg #[.int .i64 x.tag, .int .i64 x.k0, .int .i64 x.k1, .int .i64 x.k2, .int .i64 x.k3, .int .u64 x.a, .int .u64 x.b], .bool false]) ?_ rfl ⟨rfl, (by repeat (first | with_reducible exact Below.refl _ _ | with_reducible assumption | with_reducible refine bel_drewN ?_ | with_reducible refine bel_drew ?_ | with_reducible refine bel_alloc ?_ _ | with_reducible refine bel_set ?_ _ ?_ | with_reducible refine bel_trans ?_ (by with_reducible assumption) | ((try dsimp only); omega)))⟩
  simp [results, Tryz.results119, go_sem, *]
set_option maxHeartbeats 1000000 in
set_option maxRecDepth 100000 in
theorem bitsRow_dead (w : World) (p : Nat) (S : St) (h : Int) (H : Ar w p S) (hu : S.used h = true) (hcn : ¬ 0 < S.cnt h) :
    Calls Tryz.prog 119 #[.pointer (some ⟨p, 0, none⟩), .int .i64 h] w fun e w' => e = .returned (.tuple #[.agg (S.node h).arr, .bool false]) ∧ Below w.heap.size w w' := by
  have HG := fun w' (hb : Below w.heap.size w w') => Get_calls w' p S h (H.below hb)
  have HC := fun w' (hb : Below w.heap.size w w') => Count_calls w' p S h (H.below hb)
  unfold Nd.arr at HG ⊢
  generalize S.node h = x at *
  generalize S.cnt h = c at *
  have q1 : c ≤ 0 := by omega
  have q2 : decide (0 < c) = false := by simp; omega
  rw [hu] at HG
  clear hu
  go_enter Tryz.func119, Tryz.ntmps119
  go_wp2_with fail
  refine (HG _ (by repeat (first | with_reducible exact Below.refl _ _ | with_reducible assumption | with_reducible refine bel_drewN ?_ | with_reducible refine bel_drew ?_ | with_reducible refine bel_alloc ?_ _ | with_reducible refine bel_set ?_ _ ?_ | with_reducible refine bel_trans ?_ (by with_reducible assumption) | ((try dsimp only); omega)))).mono ?_; rintro e w1 ⟨rfl, hb1⟩; obtain ⟨hc1, hf1⟩ := bcell hb1
  have zz := hb1.size; (try simp only [World.size_alloc, World.size_drew, World.size_setCell] at zz); have : w.heap.size < w1.heap.size := (by omega); clear zz
  go_wp2
  generalize hW : w1.alloc _ = W
  have l0 : W.cell? ⟨w1.heap.size, 0, none⟩ = some (.int .i64 x.tag) := (by subst hW; go_simp); have l1 : W.cell? ⟨w1.heap.size, 1, none⟩ = some (.int .i64 x.k0) := (by subst hW; go_simp); have l2 : W.cell? ⟨w1.heap.size, 2, none⟩ = some (.int .i64 x.k1) := (by subst hW; go_simp); have l3 : W.cell? ⟨w1.heap.size, 3, none⟩ = some (.int .i64 x.k2) := (by subst hW; go_simp); have l4 : W.cell? ⟨w1.heap.size, 4, none⟩ = some (.int .i64 x.k3) := (by subst hW; go_simp); have l5 : W.cell? ⟨w1.heap.size, 5, none⟩ = some (.int .u64 x.a) := (by subst hW; go_simp); have l6 : W.cell? ⟨w1.heap.size, 6, none⟩ = some (.int .u64 x.b) := (by subst hW; go_simp)
  have r0 : ∀ i, i < 7 → W.frozen? ⟨w.heap.size, i, none⟩ = false := fun i _ => by subst hW; go_simp
  have z0 : W.cell? ⟨w.heap.size, 0, none⟩ = some (.int .i64 0) := (by subst hW; go_simp); have z1 : W.cell? ⟨w.heap.size, 1, none⟩ = some (.int .i64 0) := (by subst hW; go_simp); have z2 : W.cell? ⟨w.heap.size, 2, none⟩ = some (.int .i64 0) := (by subst hW; go_simp); have z3 : W.cell? ⟨w.heap.size, 3, none⟩ = some (.int .i64 0) := (by subst hW; go_simp); have z4 : W.cell? ⟨w.heap.size, 4, none⟩ = some (.int .i64 0) := (by subst hW; go_simp); have z5 : W.cell? ⟨w.heap.size, 5, none⟩ = some (.int .u64 0) := (by subst hW; go_simp); have z6 : W.cell? ⟨w.heap.size, 6, none⟩ = some (.int .u64 0) := (by subst hW; go_simp)
  have hbW : Below w.heap.size w W := by subst hW; exact (by repeat (first | with_reducible exact Below.refl _ _ | with_reducible assumption | with_reducible refine bel_drewN ?_ | with_reducible refine bel_drew ?_ | with_reducible refine bel_alloc ?_ _ | with_reducible refine bel_set ?_ _ ?_ | with_reducible refine bel_trans ?_ (by with_reducible assumption) | ((try dsimp only); omega)))
  have nq : w.heap.size ≠ w1.heap.size := by omega
  clear hW hc1 hf1 hb1
  refine wp_region_can (fun w' => ∀ o, w'.cell? ⟨w1.heap.size, o, none⟩ = W.cell? ⟨w1.heap.size, o, none⟩) [(0, false), (1, false), (2, false), (3, false), (4, false), (5, true), (6, false), (7, false), (8, false), (9, false), (10, false), (11, false), (12, false), (13, false), (14, false), (15, false), (16, false), (17, false), (18, true), (19, false)] (by kernel_rfl) (by kernel_rfl) (fun _ d _ _ _ h => by cases d <;> exact h) ?_ ?_
  · exact fun _ => rfl
  repeat ((with_reducible refine wpCan_isq ?_); first | (apply wpCan_read rfl (by rfl); (· intro w' hS; go_simp; with_reducible rfl); (· try simp only [Act.put, List.setIfInBounds_toArray, List.set_cons_zero, List.set_cons_succ]; with_reducible rfl)) | (apply wpCan_no rfl (by rfl); (· try simp only [Act.put, List.setIfInBounds_toArray, List.set_cons_zero, List.set_cons_succ]; with_reducible rfl)))
  (with_reducible refine wpCan_isl ?_); apply wpCan_call (HC _ (by repeat (first | with_reducible exact Below.refl _ _ | with_reducible assumption | with_reducible refine bel_drewN ?_ | with_reducible refine bel_drew ?_ | with_reducible refine bel_alloc ?_ _ | with_reducible refine bel_set ?_ _ ?_ | with_reducible refine bel_trans ?_ (by with_reducible assumption) | ((try dsimp only); omega)))) rfl (by rfl); (· go_simp); rintro e w2 ⟨rfl, rfl⟩; apply wpCan_told; (· exact fun _ => rfl); (· try simp only [Act.put, List.setIfInBounds_toArray, List.set_cons_zero, List.set_cons_succ]; with_reducible rfl)
  repeat ((with_reducible refine wpCan_isq ?_); first | (apply wpCan_read rfl (by rfl); (· intro w' hS; go_simp; with_reducible rfl); (· try simp only [Act.put, List.setIfInBounds_toArray, List.set_cons_zero, List.set_cons_succ]; with_reducible rfl)) | (apply wpCan_no rfl (by rfl); (· try simp only [Act.put, List.setIfInBounds_toArray, List.set_cons_zero, List.set_cons_succ]; with_reducible rfl)))
  repeat ((with_reducible refine wpCan_isq ?_); first | (apply wpCan_read rfl (by rfl); (· intro w' hS; go_simp; with_reducible rfl); (· try simp only [Act.put, List.setIfInBounds_toArray, List.set_cons_zero, List.set_cons_succ]; with_reducible rfl)) | (apply wpCan_no rfl (by rfl); (· try simp only [Act.put, List.setIfInBounds_toArray, List.set_cons_zero, List.set_cons_succ]; with_reducible rfl)))
  (with_reducible refine wpCan_isl ?_); apply wpCan_skip rfl (by rfl); (· go_simp; with_reducible rfl); (· try simp only [Act.put, List.setIfInBounds_toArray, List.set_cons_zero, List.set_cons_succ]; with_reducible rfl); (· intro o; go_simp)
  repeat ((with_reducible refine wpCan_isq ?_); first | (apply wpCan_read rfl (by rfl); (· intro w' hS; go_simp; with_reducible rfl); (· try simp only [Act.put, List.setIfInBounds_toArray, List.set_cons_zero, List.set_cons_succ]; with_reducible rfl)) | (apply wpCan_no rfl (by rfl); (· try simp only [Act.put, List.setIfInBounds_toArray, List.set_cons_zero, List.set_cons_succ]; with_reducible rfl)))
  refine wpCan_nil ?_
  go_wp2
  refine bodyPost_ret (v := .tuple #[.agg #[.int .i64 x.tag, .int .i64 x.k0, .int .i64 x.k1, .int .i64 x.k2, .int .i64 x.k3, .int .u64 x.a, .int .u64 x.b], .bool false]) ?_ rfl ⟨rfl, (by repeat (first | with_reducible exact Below.refl _ _ | with_reducible assumption | with_reducible refine bel_drewN ?_ | with_reducible refine bel_drew ?_ | with_reducible refine bel_alloc ?_ _ | with_reducible refine bel_set ?_ _ ?_ | with_reducible refine bel_trans ?_ (by with_reducible assumption) | ((try dsimp only); omega)))⟩
  simp [results, Tryz.results119, go_sem, *]
set_option maxHeartbeats 1000000 in
set_option maxRecDepth 100000 in
theorem bitsRow_leaf (w : World) (p : Nat) (S : St) (h : Int) (H : Ar w p S) (hu : S.used h = true) (hcn : 0 < S.cnt h) (ht : (S.node h).tag = 1) :
    Calls Tryz.prog 119 #[.pointer (some ⟨p, 0, none⟩), .int .i64 h] w fun e w' => e = .returned (.tuple #[.agg (S.node h).arr, .bool true]) ∧ Below w.heap.size w w' := by
  have HG := fun w' (hb : Below w.heap.size w w') => Get_calls w' p S h (H.below hb)
  have HC := fun w' (hb : Below w.heap.size w w') => Count_calls w' p S h (H.below hb)
  unfold Nd.arr at HG ⊢
  generalize S.node h = x at *
  generalize S.cnt h = c at *
  have t1 : (x.tag == 1) = true := by simp [ht]
  clear ht
  rw [hu] at HG
  clear hu
  go_enter Tryz.func119, Tryz.ntmps119
  go_wp2_with fail
  refine (HG _ (by repeat (first | with_reducible exact Below.refl _ _ | with_reducible assumption | with_reducible refine bel_drewN ?_ | with_reducible refine bel_drew ?_ | with_reducible refine bel_alloc ?_ _ | with_reducible refine bel_set ?_ _ ?_ | with_reducible refine bel_trans ?_ (by with_reducible assumption) | ((try dsimp only); omega)))).mono ?_; rintro e w1 ⟨rfl, hb1⟩; obtain ⟨hc1, hf1⟩ := bcell hb1
  have zz := hb1.size; (try simp only [World.size_alloc, World.size_drew, World.size_setCell] at zz); have : w.heap.size < w1.heap.size := (by omega); clear zz
  go_wp2
  generalize hW : w1.alloc _ = W
  have l0 : W.cell? ⟨w1.heap.size, 0, none⟩ = some (.int .i64 x.tag) := (by subst hW; go_simp); have l1 : W.cell? ⟨w1.heap.size, 1, none⟩ = some (.int .i64 x.k0) := (by subst hW; go_simp); have l2 : W.cell? ⟨w1.heap.size, 2, none⟩ = some (.int .i64 x.k1) := (by subst hW; go_simp); have l3 : W.cell? ⟨w1.heap.size, 3, none⟩ = some (.int .i64 x.k2) := (by subst hW; go_simp); have l4 : W.cell? ⟨w1.heap.size, 4, none⟩ = some (.int .i64 x.k3) := (by subst hW; go_simp); have l5 : W.cell? ⟨w1.heap.size, 5, none⟩ = some (.int .u64 x.a) := (by subst hW; go_simp); have l6 : W.cell? ⟨w1.heap.size, 6, none⟩ = some (.int .u64 x.b) := (by subst hW; go_simp)
  have r0 : ∀ i, i < 7 → W.frozen? ⟨w.heap.size, i, none⟩ = false := fun i _ => by subst hW; go_simp
  have z0 : W.cell? ⟨w.heap.size, 0, none⟩ = some (.int .i64 0) := (by subst hW; go_simp); have z1 : W.cell? ⟨w.heap.size, 1, none⟩ = some (.int .i64 0) := (by subst hW; go_simp); have z2 : W.cell? ⟨w.heap.size, 2, none⟩ = some (.int .i64 0) := (by subst hW; go_simp); have z3 : W.cell? ⟨w.heap.size, 3, none⟩ = some (.int .i64 0) := (by subst hW; go_simp); have z4 : W.cell? ⟨w.heap.size, 4, none⟩ = some (.int .i64 0) := (by subst hW; go_simp); have z5 : W.cell? ⟨w.heap.size, 5, none⟩ = some (.int .u64 0) := (by subst hW; go_simp); have z6 : W.cell? ⟨w.heap.size, 6, none⟩ = some (.int .u64 0) := (by subst hW; go_simp)
  have hbW : Below w.heap.size w W := by subst hW; exact (by repeat (first | with_reducible exact Below.refl _ _ | with_reducible assumption | with_reducible refine bel_drewN ?_ | with_reducible refine bel_drew ?_ | with_reducible refine bel_alloc ?_ _ | with_reducible refine bel_set ?_ _ ?_ | with_reducible refine bel_trans ?_ (by with_reducible assumption) | ((try dsimp only); omega)))
  have nq : w.heap.size ≠ w1.heap.size := by omega
  clear hW hc1 hf1 hb1
  refine wp_region_can (fun w' => ∀ o, w'.cell? ⟨w1.heap.size, o, none⟩ = W.cell? ⟨w1.heap.size, o, none⟩) [(0, false), (1, false), (2, false), (3, false), (4, false), (5, true), (6, false), (7, false), (8, false), (9, false), (10, false), (11, false), (12, false), (13, false), (14, false), (15, false), (16, false), (17, false), (18, true), (19, false)] (by kernel_rfl) (by kernel_rfl) (fun _ d _ _ _ h => by cases d <;> exact h) ?_ ?_
  · exact fun _ => rfl
  repeat ((with_reducible refine wpCan_isq ?_); first | (apply wpCan_read rfl (by rfl); (· intro w' hS; go_simp; with_reducible rfl); (· try simp only [Act.put, List.setIfInBounds_toArray, List.set_cons_zero, List.set_cons_succ]; with_reducible rfl)) | (apply wpCan_no rfl (by rfl); (· try simp only [Act.put, List.setIfInBounds_toArray, List.set_cons_zero, List.set_cons_succ]; with_reducible rfl)))
  (with_reducible refine wpCan_isl ?_); apply wpCan_call (HC _ (by repeat (first | with_reducible exact Below.refl _ _ | with_reducible assumption | with_reducible refine bel_drewN ?_ | with_reducible refine bel_drew ?_ | with_reducible refine bel_alloc ?_ _ | with_reducible refine bel_set ?_ _ ?_ | with_reducible refine bel_trans ?_ (by with_reducible assumption) | ((try dsimp only); omega)))) rfl (by rfl); (· go_simp); rintro e w2 ⟨rfl, rfl⟩; apply wpCan_told; (· exact fun _ => rfl); (· try simp only [Act.put, List.setIfInBounds_toArray, List.set_cons_zero, List.set_cons_succ]; with_reducible rfl)
  repeat ((with_reducible refine wpCan_isq ?_); first | (apply wpCan_read rfl (by rfl); (· intro w' hS; go_simp; with_reducible rfl); (· try simp only [Act.put, List.setIfInBounds_toArray, List.set_cons_zero, List.set_cons_succ]; with_reducible rfl)) | (apply wpCan_no rfl (by rfl); (· try simp only [Act.put, List.setIfInBounds_toArray, List.set_cons_zero, List.set_cons_succ]; with_reducible rfl)))
  repeat ((with_reducible refine wpCan_isq ?_); first | (apply wpCan_read rfl (by rfl); (· intro w' hS; go_simp; with_reducible rfl); (· try simp only [Act.put, List.setIfInBounds_toArray, List.set_cons_zero, List.set_cons_succ]; with_reducible rfl)) | (apply wpCan_no rfl (by rfl); (· try simp only [Act.put, List.setIfInBounds_toArray, List.set_cons_zero, List.set_cons_succ]; with_reducible rfl)))
  (with_reducible refine wpCan_isl ?_); apply wpCan_skip rfl (by rfl); (· go_simp; with_reducible rfl); (· try simp only [Act.put, List.setIfInBounds_toArray, List.set_cons_zero, List.set_cons_succ]; with_reducible rfl); (· intro o; go_simp)
  repeat ((with_reducible refine wpCan_isq ?_); first | (apply wpCan_read rfl (by rfl); (· intro w' hS; go_simp; with_reducible rfl); (· try simp only [Act.put, List.setIfInBounds_toArray, List.set_cons_zero, List.set_cons_succ]; with_reducible rfl)) | (apply wpCan_no rfl (by rfl); (· try simp only [Act.put, List.setIfInBounds_toArray, List.set_cons_zero, List.set_cons_succ]; with_reducible rfl)))
  refine wpCan_nil ?_
  go_wp2
  refine bodyPost_ret (v := .tuple #[.agg #[.int .i64 x.tag, .int .i64 x.k0, .int .i64 x.k1, .int .i64 x.k2, .int .i64 x.k3, .int .u64 x.a, .int .u64 x.b], .bool true]) ?_ rfl ⟨rfl, (by repeat (first | with_reducible exact Below.refl _ _ | with_reducible assumption | with_reducible refine bel_drewN ?_ | with_reducible refine bel_drew ?_ | with_reducible refine bel_alloc ?_ _ | with_reducible refine bel_set ?_ _ ?_ | with_reducible refine bel_trans ?_ (by with_reducible assumption) | ((try dsimp only); omega)))⟩
  simp [results, Tryz.results119, go_sem, *]
set_option maxHeartbeats 1000000 in
set_option maxRecDepth 100000 in
theorem bitsRow_fork (w : World) (p : Nat) (S : St) (h : Int) (H : Ar w p S) (hu : S.used h = true) (hcn : 0 < S.cnt h) (ht : (S.node h).tag = 2) :
    Calls Tryz.prog 119 #[.pointer (some ⟨p, 0, none⟩), .int .i64 h] w fun e w' => e = .returned (.tuple #[.agg (S.node h).arr, .bool true]) ∧ Below w.heap.size w w' := by
  have HG := fun w' (hb : Below w.heap.size w w') => Get_calls w' p S h (H.below hb)
  have HC := fun w' (hb : Below w.heap.size w w') => Count_calls w' p S h (H.below hb)
  unfold Nd.arr at HG ⊢
  generalize S.node h = x at *
  generalize S.cnt h = c at *
  have t1 : (x.tag == 1) = false := by simp [ht]
  have t2 : (x.tag == 2) = true := by simp [ht]
  clear ht
  rw [hu] at HG
  clear hu
  go_enter Tryz.func119, Tryz.ntmps119
  go_wp2_with fail
  refine (HG _ (by repeat (first | with_reducible exact Below.refl _ _ | with_reducible assumption | with_reducible refine bel_drewN ?_ | with_reducible refine bel_drew ?_ | with_reducible refine bel_alloc ?_ _ | with_reducible refine bel_set ?_ _ ?_ | with_reducible refine bel_trans ?_ (by with_reducible assumption) | ((try dsimp only); omega)))).mono ?_; rintro e w1 ⟨rfl, hb1⟩; obtain ⟨hc1, hf1⟩ := bcell hb1
  have zz := hb1.size; (try simp only [World.size_alloc, World.size_drew, World.size_setCell] at zz); have : w.heap.size < w1.heap.size := (by omega); clear zz
  go_wp2
  generalize hW : w1.alloc _ = W
  have l0 : W.cell? ⟨w1.heap.size, 0, none⟩ = some (.int .i64 x.tag) := (by subst hW; go_simp); have l1 : W.cell? ⟨w1.heap.size, 1, none⟩ = some (.int .i64 x.k0) := (by subst hW; go_simp); have l2 : W.cell? ⟨w1.heap.size, 2, none⟩ = some (.int .i64 x.k1) := (by subst hW; go_simp); have l3 : W.cell? ⟨w1.heap.size, 3, none⟩ = some (.int .i64 x.k2) := (by subst hW; go_simp); have l4 : W.cell? ⟨w1.heap.size, 4, none⟩ = some (.int .i64 x.k3) := (by subst hW; go_simp); have l5 : W.cell? ⟨w1.heap.size, 5, none⟩ = some (.int .u64 x.a) := (by subst hW; go_simp); have l6 : W.cell? ⟨w1.heap.size, 6, none⟩ = some (.int .u64 x.b) := (by subst hW; go_simp)
  have r0 : ∀ i, i < 7 → W.frozen? ⟨w.heap.size, i, none⟩ = false := fun i _ => by subst hW; go_simp
  have z0 : W.cell? ⟨w.heap.size, 0, none⟩ = some (.int .i64 0) := (by subst hW; go_simp); have z1 : W.cell? ⟨w.heap.size, 1, none⟩ = some (.int .i64 0) := (by subst hW; go_simp); have z2 : W.cell? ⟨w.heap.size, 2, none⟩ = some (.int .i64 0) := (by subst hW; go_simp); have z3 : W.cell? ⟨w.heap.size, 3, none⟩ = some (.int .i64 0) := (by subst hW; go_simp); have z4 : W.cell? ⟨w.heap.size, 4, none⟩ = some (.int .i64 0) := (by subst hW; go_simp); have z5 : W.cell? ⟨w.heap.size, 5, none⟩ = some (.int .u64 0) := (by subst hW; go_simp); have z6 : W.cell? ⟨w.heap.size, 6, none⟩ = some (.int .u64 0) := (by subst hW; go_simp)
  have hbW : Below w.heap.size w W := by subst hW; exact (by repeat (first | with_reducible exact Below.refl _ _ | with_reducible assumption | with_reducible refine bel_drewN ?_ | with_reducible refine bel_drew ?_ | with_reducible refine bel_alloc ?_ _ | with_reducible refine bel_set ?_ _ ?_ | with_reducible refine bel_trans ?_ (by with_reducible assumption) | ((try dsimp only); omega)))
  have nq : w.heap.size ≠ w1.heap.size := by omega
  clear hW hc1 hf1 hb1
  refine wp_region_can (fun w' => ∀ o, w'.cell? ⟨w1.heap.size, o, none⟩ = W.cell? ⟨w1.heap.size, o, none⟩) [(0, false), (1, false), (2, false), (3, false), (4, false), (5, true), (6, false), (7, false), (8, false), (9, false), (10, false), (11, false), (12, false), (13, false), (14, false), (15, false), (16, false), (17, false), (18, true), (19, false)] (by kernel_rfl) (by kernel_rfl) (fun _ d _ _ _ h => by cases d <;> exact h) ?_ ?_
  · exact fun _ => rfl
  repeat ((with_reducible refine wpCan_isq ?_); first | (apply wpCan_read rfl (by rfl); (· intro w' hS; go_simp; with_reducible rfl); (· try simp only [Act.put, List.setIfInBounds_toArray, List.set_cons_zero, List.set_cons_succ]; with_reducible rfl)) | (apply wpCan_no rfl (by rfl); (· try simp only [Act.put, List.setIfInBounds_toArray, List.set_cons_zero, List.set_cons_succ]; with_reducible rfl)))
  (with_reducible refine wpCan_isl ?_); apply wpCan_call (HC _ (by repeat (first | with_reducible exact Below.refl _ _ | with_reducible assumption | with_reducible refine bel_drewN ?_ | with_reducible refine bel_drew ?_ | with_reducible refine bel_alloc ?_ _ | with_reducible refine bel_set ?_ _ ?_ | with_reducible refine bel_trans ?_ (by with_reducible assumption) | ((try dsimp only); omega)))) rfl (by rfl); (· go_simp); rintro e w2 ⟨rfl, rfl⟩; apply wpCan_told; (· exact fun _ => rfl); (· try simp only [Act.put, List.setIfInBounds_toArray, List.set_cons_zero, List.set_cons_succ]; with_reducible rfl)
  repeat ((with_reducible refine wpCan_isq ?_); first | (apply wpCan_read rfl (by rfl); (· intro w' hS; go_simp; with_reducible rfl); (· try simp only [Act.put, List.setIfInBounds_toArray, List.set_cons_zero, List.set_cons_succ]; with_reducible rfl)) | (apply wpCan_no rfl (by rfl); (· try simp only [Act.put, List.setIfInBounds_toArray, List.set_cons_zero, List.set_cons_succ]; with_reducible rfl)))
  repeat ((with_reducible refine wpCan_isq ?_); first | (apply wpCan_read rfl (by rfl); (· intro w' hS; go_simp; with_reducible rfl); (· try simp only [Act.put, List.setIfInBounds_toArray, List.set_cons_zero, List.set_cons_succ]; with_reducible rfl)) | (apply wpCan_no rfl (by rfl); (· try simp only [Act.put, List.setIfInBounds_toArray, List.set_cons_zero, List.set_cons_succ]; with_reducible rfl)))
  (with_reducible refine wpCan_isl ?_); apply wpCan_skip rfl (by rfl); (· go_simp; with_reducible rfl); (· try simp only [Act.put, List.setIfInBounds_toArray, List.set_cons_zero, List.set_cons_succ]; with_reducible rfl); (· intro o; go_simp)
  repeat ((with_reducible refine wpCan_isq ?_); first | (apply wpCan_read rfl (by rfl); (· intro w' hS; go_simp; with_reducible rfl); (· try simp only [Act.put, List.setIfInBounds_toArray, List.set_cons_zero, List.set_cons_succ]; with_reducible rfl)) | (apply wpCan_no rfl (by rfl); (· try simp only [Act.put, List.setIfInBounds_toArray, List.set_cons_zero, List.set_cons_succ]; with_reducible rfl)))
  refine wpCan_nil ?_
  go_wp2
  refine bodyPost_ret (v := .tuple #[.agg #[.int .i64 x.tag, .int .i64 x.k0, .int .i64 x.k1, .int .i64 x.k2, .int .i64 x.k3, .int .u64 x.a, .int .u64 x.b], .bool true]) ?_ rfl ⟨rfl, (by repeat (first | with_reducible exact Below.refl _ _ | with_reducible assumption | with_reducible refine bel_drewN ?_ | with_reducible refine bel_drew ?_ | with_reducible refine bel_alloc ?_ _ | with_reducible refine bel_set ?_ _ ?_ | with_reducible refine bel_trans ?_ (by with_reducible assumption) | ((try dsimp only); omega)))⟩
  simp [results, Tryz.results119, go_sem, *]
set_option maxHeartbeats 1000000 in
set_option maxRecDepth 100000 in
theorem bitsRow_other (w : World) (p : Nat) (S : St) (h : Int) (H : Ar w p S) (hu : S.used h = true) (hcn : 0 < S.cnt h) (h1 : (S.node h).tag ≠ 1) (h2 : (S.node h).tag ≠ 2) :
    Calls Tryz.prog 119 #[.pointer (some ⟨p, 0, none⟩), .int .i64 h] w fun e w' => e = .returned (.tuple #[.agg (S.node h).arr, .bool false]) ∧ Below w.heap.size w w' := by
  have HG := fun w' (hb : Below w.heap.size w w') => Get_calls w' p S h (H.below hb)
  have HC := fun w' (hb : Below w.heap.size w w') => Count_calls w' p S h (H.below hb)
  unfold Nd.arr at HG ⊢
  generalize S.node h = x at *
  generalize S.cnt h = c at *
  have t1 : (x.tag == 1) = false := by simp [h1]
  have t2 : (x.tag == 2) = false := by simp [h2]
  clear h1 h2
  rw [hu] at HG
  clear hu
  go_enter Tryz.func119, Tryz.ntmps119
  go_wp2_with fail
  refine (HG _ (by repeat (first | with_reducible exact Below.refl _ _ | with_reducible assumption | with_reducible refine bel_drewN ?_ | with_reducible refine bel_drew ?_ | with_reducible refine bel_alloc ?_ _ | with_reducible refine bel_set ?_ _ ?_ | with_reducible refine bel_trans ?_ (by with_reducible assumption) | ((try dsimp only); omega)))).mono ?_; rintro e w1 ⟨rfl, hb1⟩; obtain ⟨hc1, hf1⟩ := bcell hb1
  have zz := hb1.size; (try simp only [World.size_alloc, World.size_drew, World.size_setCell] at zz); have : w.heap.size < w1.heap.size := (by omega); clear zz
  go_wp2
  generalize hW : w1.alloc _ = W
  have l0 : W.cell? ⟨w1.heap.size, 0, none⟩ = some (.int .i64 x.tag) := (by subst hW; go_simp); have l1 : W.cell? ⟨w1.heap.size, 1, none⟩ = some (.int .i64 x.k0) := (by subst hW; go_simp); have l2 : W.cell? ⟨w1.heap.size, 2, none⟩ = some (.int .i64 x.k1) := (by subst hW; go_simp); have l3 : W.cell? ⟨w1.heap.size, 3, none⟩ = some (.int .i64 x.k2) := (by subst hW; go_simp); have l4 : W.cell? ⟨w1.heap.size, 4, none⟩ = some (.int .i64 x.k3) := (by subst hW; go_simp); have l5 : W.cell? ⟨w1.heap.size, 5, none⟩ = some (.int .u64 x.a) := (by subst hW; go_simp); have l6 : W.cell? ⟨w1.heap.size, 6, none⟩ = some (.int .u64 x.b) := (by subst hW; go_simp)
  have r0 : ∀ i, i < 7 → W.frozen? ⟨w.heap.size, i, none⟩ = false := fun i _ => by subst hW; go_simp
  have z0 : W.cell? ⟨w.heap.size, 0, none⟩ = some (.int .i64 0) := (by subst hW; go_simp); have z1 : W.cell? ⟨w.heap.size, 1, none⟩ = some (.int .i64 0) := (by subst hW; go_simp); have z2 : W.cell? ⟨w.heap.size, 2, none⟩ = some (.int .i64 0) := (by subst hW; go_simp); have z3 : W.cell? ⟨w.heap.size, 3, none⟩ = some (.int .i64 0) := (by subst hW; go_simp); have z4 : W.cell? ⟨w.heap.size, 4, none⟩ = some (.int .i64 0) := (by subst hW; go_simp); have z5 : W.cell? ⟨w.heap.size, 5, none⟩ = some (.int .u64 0) := (by subst hW; go_simp); have z6 : W.cell? ⟨w.heap.size, 6, none⟩ = some (.int .u64 0) := (by subst hW; go_simp)
  have hbW : Below w.heap.size w W := by subst hW; exact (by repeat (first | with_reducible exact Below.refl _ _ | with_reducible assumption | with_reducible refine bel_drewN ?_ | with_reducible refine bel_drew ?_ | with_reducible refine bel_alloc ?_ _ | with_reducible refine bel_set ?_ _ ?_ | with_reducible refine bel_trans ?_ (by with_reducible assumption) | ((try dsimp only); omega)))
  have nq : w.heap.size ≠ w1.heap.size := by omega
  clear hW hc1 hf1 hb1
  refine wp_region_can (fun w' => ∀ o, w'.cell? ⟨w1.heap.size, o, none⟩ = W.cell? ⟨w1.heap.size, o, none⟩) [(0, false), (1, false), (2, false), (3, false), (4, false), (5, true), (6, false), (7, false), (8, false), (9, false), (10, false), (11, false), (12, false), (13, false), (14, false), (15, false), (16, false), (17, false), (18, true), (19, false)] (by kernel_rfl) (by kernel_rfl) (fun _ d _ _ _ h => by cases d <;> exact h) ?_ ?_
  · exact fun _ => rfl
  repeat ((with_reducible refine wpCan_isq ?_); first | (apply wpCan_read rfl (by rfl); (· intro w' hS; go_simp; with_reducible rfl); (· try simp only [Act.put, List.setIfInBounds_toArray, List.set_cons_zero, List.set_cons_succ]; with_reducible rfl)) | (apply wpCan_no rfl (by rfl); (· try simp only [Act.put, List.setIfInBounds_toArray, List.set_cons_zero, List.set_cons_succ]; with_reducible rfl)))
  (with_reducible refine wpCan_isl ?_); apply wpCan_call (HC _ (by repeat (first | with_reducible exact Below.refl _ _ | with_reducible assumption | with_reducible refine bel_drewN ?_ | with_reducible refine bel_drew ?_ | with_reducible refine bel_alloc ?_ _ | with_reducible refine bel_set ?_ _ ?_ | with_reducible refine bel_trans ?_ (by with_reducible assumption) | ((try dsimp only); omega)))) rfl (by rfl); (· go_simp); rintro e w2 ⟨rfl, rfl⟩; apply wpCan_told; (· exact fun _ => rfl); (· try simp only [Act.put, List.setIfInBounds_toArray, List.set_cons_zero, List.set_cons_succ]; with_reducible rfl)
  repeat ((with_reducible refine wpCan_isq ?_); first | (apply wpCan_read rfl (by rfl); (· intro w' hS; go_simp; with_reducible rfl); (· try simp only [Act.put, List.setIfInBounds_toArray, List.set_cons_zero, List.set_cons_succ]; with_reducible rfl)) | (apply wpCan_no rfl (by rfl); (· try simp only [Act.put, List.setIfInBounds_toArray, List.set_cons_zero, List.set_cons_succ]; with_reducible rfl)))
  repeat ((with_reducible refine wpCan_isq ?_); first | (apply wpCan_read rfl (by rfl); (· intro w' hS; go_simp; with_reducible rfl); (· try simp only [Act.put, List.setIfInBounds_toArray, List.set_cons_zero, List.set_cons_succ]; with_reducible rfl)) | (apply wpCan_no rfl (by rfl); (· try simp only [Act.put, List.setIfInBounds_toArray, List.set_cons_zero, List.set_cons_succ]; with_reducible rfl)))
  (with_reducible refine wpCan_isl ?_); apply wpCan_skip rfl (by rfl); (· go_simp; with_reducible rfl); (· try simp only [Act.put, List.setIfInBounds_toArray, List.set_cons_zero, List.set_cons_succ]; with_reducible rfl); (· intro o; go_simp)
  repeat ((with_reducible refine wpCan_isq ?_); first | (apply wpCan_read rfl (by rfl); (· intro w' hS; go_simp; with_reducible rfl); (· try simp only [Act.put, List.setIfInBounds_toArray, List.set_cons_zero, List.set_cons_succ]; with_reducible rfl)) | (apply wpCan_no rfl (by rfl); (· try simp only [Act.put, List.setIfInBounds_toArray, List.set_cons_zero, List.set_cons_succ]; with_reducible rfl)))
  refine wpCan_nil ?_
  go_wp2
  refine bodyPost_ret (v := .tuple #[.agg #[.int .i64 x.tag, .int .i64 x.k0, .int .i64 x.k1, .int .i64 x.k2, .int .i64 x.k3, .int .u64 x.a, .int .u64 x.b], .bool false]) ?_ rfl ⟨rfl, (by repeat (first | with_reducible exact Below.refl _ _ | with_reducible assumption | with_reducible refine bel_drewN ?_ | with_reducible refine bel_drew ?_ | with_reducible refine bel_alloc ?_ _ | with_reducible refine bel_set ?_ _ ?_ | with_reducible refine bel_trans ?_ (by with_reducible assumption) | ((try dsimp only); omega)))⟩
  simp [results, Tryz.results119, go_sem, *]
theorem bitsRow_calls (w : World) (p : Nat) (S : St) (h : Int) (H : Ar w p S) :
    Calls Tryz.prog 119 #[.pointer (some ⟨p, 0, none⟩), .int .i64 h] w fun e w' => e = .returned (.tuple #[.agg (S.node h).arr, .bool (S.bRow h)]) ∧ Below w.heap.size w w' := by
  have E : S.bRow h = (S.used h && (decide (0 < S.cnt h) && ((S.node h).tag == 1 || (S.node h).tag == 2))) := rfl
  rw [E]
  cases hu : S.used h with
  | false => simpa using bitsRow_unused w p S h H hu
  | true =>
    by_cases hc : 0 < S.cnt h
    · by_cases h1 : (S.node h).tag = 1
      · simpa [hc, h1] using bitsRow_leaf w p S h H hu hc h1
      · by_cases h2 : (S.node h).tag = 2
        · simpa [hc, h1, h2] using bitsRow_fork w p S h H hu hc h2
        · simpa [hc, beq_false_of_ne h1, beq_false_of_ne h2] using bitsRow_other w p S h H hu hc h1 h2
    · simpa [hc] using bitsRow_dead w p S h H hu hc
end Go.Proofs.YtngfalbabgpnnaaGreat

namespace Go.Proofs.YtngfalbabgpnnaaGreat
open Go.RowKit

theorem i64_nat {n : Nat} (h : n < 9223372036854775808) : IntKind.i64.wrap (n : Int) = n := by
  simp [IntKind.wrap, IntKind.bits, IntKind.signed]; omega
def ptr (p : Nat) : Value := .pointer (some ⟨p, 0, none⟩)

theorem row_zero (w : World) (p : Nat) (S : St) (H : Ar w p S) :
    Calls Tryz.prog 119 #[.pointer (some ⟨p, 0, none⟩), .int .i64 0] w fun e w' => e = .returned (.tuple #[.agg Nd.zero.arr, .bool false]) ∧ Below w.heap.size w w' := by
  have := bitsRow_calls w p S 0 H
  rw [(St.zero_free H.2).2.1, St.bRow_zero H.2] at this
  exact this
theorem row_leaf (w : World) (p : Nat) (S : St) (h : Int) (l : List Bool) (H : Ar w p S) (B : S.bt h (.leaf l)) :
    Calls Tryz.prog 119 #[.pointer (some ⟨p, 0, none⟩), .int .i64 h] w fun e w' => e = .returned (.tuple #[.agg (leafNd l).arr, .bool true]) ∧ Below w.heap.size w w' := by
  have := bitsRow_calls w p S h H
  rw [St.bRow_leaf B, B.2.1] at this
  exact this
theorem row_fork (w : World) (p : Nat) (S : St) (h hx hy : Int) (x y : BT) (n o : Nat) (H : Ar w p S) (B : S.bt h (.fork x y)) (E : S.node h = forkNd hx hy n o) :
    Calls Tryz.prog 119 #[.pointer (some ⟨p, 0, none⟩), .int .i64 h] w fun e w' => e = .returned (.tuple #[.agg (forkNd hx hy n o).arr, .bool true]) ∧ Below w.heap.size w w' := by
  have := bitsRow_calls w p S h H
  rw [St.bRow_fork B, E] at this
  exact this

set_option maxHeartbeats 1000000 in
theorem bitsBits_calls (w : World) (l : List Bool) (h : l.length ≤ 64) : Calls Tryz.prog 122 #[.agg (leafNd l).arr] w fun e w' => e = .returned (lfV l) ∧ Below w.heap.size w w' := by
  unfold leafNd Nd.arr lfV
  generalize bitsOf l = b
  generalize l.length = n at *
  go_enter Tryz.func122, Tryz.ntmps122
  go_wp2
  refine bodyPost_ret (v := .agg #[.int .u64 b, .int .i64 n]) ?_ rfl ⟨rfl, (by repeat (first | with_reducible exact Below.refl _ _ | with_reducible assumption | with_reducible refine bel_drewN ?_ | with_reducible refine bel_drew ?_ | with_reducible refine bel_alloc ?_ _ | with_reducible refine bel_set ?_ _ ?_ | with_reducible refine bel_trans ?_ (by with_reducible assumption) | ((try dsimp only); omega)))⟩
  simp [results, Tryz.results122, go_sem, *]

set_option maxHeartbeats 1000000 in
theorem Len_zero (w : World) (p : Nat) (S : St) (H : Ar w p S) :
    Calls Tryz.prog 86 #[.pointer (some ⟨p, 0, none⟩), .int .i64 0] w fun e w' => e = .returned (.int .i64 0) ∧ Below w.heap.size w w' := by
  have HG := fun w' (hb : Below w.heap.size w w') => row_zero w' p S (H.below hb)
  unfold Nd.zero Nd.arr at HG
  go_enter Tryz.func86, Tryz.ntmps86
  go_wp2_with fail
  refine (HG _ (by repeat (first | with_reducible exact Below.refl _ _ | with_reducible assumption | with_reducible refine bel_drewN ?_ | with_reducible refine bel_drew ?_ | with_reducible refine bel_alloc ?_ _ | with_reducible refine bel_set ?_ _ ?_ | with_reducible refine bel_trans ?_ (by with_reducible assumption) | ((try dsimp only); omega)))).mono ?_; rintro e w1 ⟨rfl, hb1⟩; obtain ⟨hc1, hf1⟩ := bcell hb1
  go_wp2
  go_ret
  exact ⟨rfl, (by repeat (first | with_reducible exact Below.refl _ _ | with_reducible assumption | with_reducible refine bel_drewN ?_ | with_reducible refine bel_drew ?_ | with_reducible refine bel_alloc ?_ _ | with_reducible refine bel_set ?_ _ ?_ | with_reducible refine bel_trans ?_ (by with_reducible assumption) | ((try dsimp only); omega)))⟩
set_option maxHeartbeats 1000000 in
theorem Len_leaf (w : World) (p : Nat) (S : St) (h : Int) (l : List Bool) (H : Ar w p S) (B : S.bt h (.leaf l)) :
    Calls Tryz.prog 86 #[.pointer (some ⟨p, 0, none⟩), .int .i64 h] w fun e w' => e = .returned (.int .i64 (l.length : Nat)) ∧ Below w.heap.size w w' := by
  have HG := fun w' (hb : Below w.heap.size w w') => row_leaf w' p S h l (H.below hb) B
  have hl := B.2.2
  clear B
  unfold leafNd Nd.arr at HG
  generalize l.length = n at *
  go_enter Tryz.func86, Tryz.ntmps86
  go_wp2_with fail
  refine (HG _ (by repeat (first | with_reducible exact Below.refl _ _ | with_reducible assumption | with_reducible refine bel_drewN ?_ | with_reducible refine bel_drew ?_ | with_reducible refine bel_alloc ?_ _ | with_reducible refine bel_set ?_ _ ?_ | with_reducible refine bel_trans ?_ (by with_reducible assumption) | ((try dsimp only); omega)))).mono ?_; rintro e w1 ⟨rfl, hb1⟩; obtain ⟨hc1, hf1⟩ := bcell hb1
  go_wp2
  go_ret
  exact ⟨rfl, (by repeat (first | with_reducible exact Below.refl _ _ | with_reducible assumption | with_reducible refine bel_drewN ?_ | with_reducible refine bel_drew ?_ | with_reducible refine bel_alloc ?_ _ | with_reducible refine bel_set ?_ _ ?_ | with_reducible refine bel_trans ?_ (by with_reducible assumption) | ((try dsimp only); omega)))⟩
set_option maxHeartbeats 1000000 in
theorem Len_fork (w : World) (p : Nat) (S : St) (h : Int) (x y : BT) (H : Ar w p S) (B : S.bt h (.fork x y)) (hl : x.bits.length + y.bits.length < 9223372036854775808) :
    Calls Tryz.prog 86 #[.pointer (some ⟨p, 0, none⟩), .int .i64 h] w fun e w' => e = .returned (.int .i64 (x.bits.length + y.bits.length : Nat)) ∧ Below w.heap.size w w' := by
  obtain ⟨hx, hy, E, _⟩ := B.2
  have HG := fun w' (hb : Below w.heap.size w w') => row_fork w' p S h hx hy x y _ _ (H.below hb) B E
  have c1 := List.count_le_length (a := true) (l := x.bits)
  have c2 := List.count_le_length (a := true) (l := y.bits)
  clear B E
  unfold forkNd Nd.arr at HG
  have hl2 : x.bits.count true + y.bits.count true < 9223372036854775808 := by omega
  clear c1 c2
  generalize x.bits.length + y.bits.length = n at *
  generalize x.bits.count true + y.bits.count true = o at *
  go_enter Tryz.func86, Tryz.ntmps86
  go_wp2_with fail
  refine (HG _ (by repeat (first | with_reducible exact Below.refl _ _ | with_reducible assumption | with_reducible refine bel_drewN ?_ | with_reducible refine bel_drew ?_ | with_reducible refine bel_alloc ?_ _ | with_reducible refine bel_set ?_ _ ?_ | with_reducible refine bel_trans ?_ (by with_reducible assumption) | ((try dsimp only); omega)))).mono ?_; rintro e w1 ⟨rfl, hb1⟩; obtain ⟨hc1, hf1⟩ := bcell hb1
  go_wp2
  go_ret
  exact ⟨by simp, (by repeat (first | with_reducible exact Below.refl _ _ | with_reducible assumption | with_reducible refine bel_drewN ?_ | with_reducible refine bel_drew ?_ | with_reducible refine bel_alloc ?_ _ | with_reducible refine bel_set ?_ _ ?_ | with_reducible refine bel_trans ?_ (by with_reducible assumption) | ((try dsimp only); omega)))⟩

theorem Len_calls (w : World) (p : Nat) (S : St) (h : Int) (l : List Bool) (H : Ar w p S) (B : S.br h l) (hl : l.length < 9223372036854775808) :
    Calls Tryz.prog 86 #[.pointer (some ⟨p, 0, none⟩), .int .i64 h] w fun e w' => e = .returned (.int .i64 (l.length : Nat)) ∧ Below w.heap.size w w' := by
  rcases B with ⟨rfl, rfl⟩ | ⟨t, h1, h2, rfl⟩
  · exact Len_zero w p S H
  · cases t with
    | leaf l => exact Len_leaf w p S h l H h1
    | fork x y =>
      simp only [BT.bits, List.length_append] at hl ⊢
      exact Len_fork w p S h x y H h1 hl
set_option maxHeartbeats 1000000 in
theorem ones_zero (w : World) (p : Nat) (S : St) (H : Ar w p S) :
    Calls Tryz.prog 149 #[.pointer (some ⟨p, 0, none⟩), .int .i64 0] w fun e w' => e = .returned (.int .i64 0) ∧ Below w.heap.size w w' := by
  have HG := fun w' (hb : Below w.heap.size w w') => row_zero w' p S (H.below hb)
  unfold Nd.zero Nd.arr at HG
  go_enter Tryz.func149, Tryz.ntmps149
  go_wp2_with fail
  refine (HG _ (by repeat (first | with_reducible exact Below.refl _ _ | with_reducible assumption | with_reducible refine bel_drewN ?_ | with_reducible refine bel_drew ?_ | with_reducible refine bel_alloc ?_ _ | with_reducible refine bel_set ?_ _ ?_ | with_reducible refine bel_trans ?_ (by with_reducible assumption) | ((try dsimp only); omega)))).mono ?_; rintro e w1 ⟨rfl, hb1⟩; obtain ⟨hc1, hf1⟩ := bcell hb1
  go_wp2
  go_ret
  exact ⟨rfl, (by repeat (first | with_reducible exact Below.refl _ _ | with_reducible assumption | with_reducible refine bel_drewN ?_ | with_reducible refine bel_drew ?_ | with_reducible refine bel_alloc ?_ _ | with_reducible refine bel_set ?_ _ ?_ | with_reducible refine bel_trans ?_ (by with_reducible assumption) | ((try dsimp only); omega)))⟩
set_option maxHeartbeats 1000000 in
theorem ones_leaf (w : World) (p : Nat) (S : St) (h : Int) (l : List Bool) (H : Ar w p S) (B : S.bt h (.leaf l)) :
    Calls Tryz.prog 149 #[.pointer (some ⟨p, 0, none⟩), .int .i64 h] w fun e w' => e = .returned (.int .i64 (l.count true : Nat)) ∧ Below w.heap.size w w' := by
  have HG := fun w' (hb : Below w.heap.size w w') => row_leaf w' p S h l (H.below hb) B
  have hl := B.2.2
  have HB := fun w' => bitsBits_calls w' l hl
  have HR := fun w' => lRank_calls w' l l.length hl (Nat.le_refl _)
  rw [List.take_length] at HR
  clear B
  unfold leafNd Nd.arr at HG HB
  unfold lfV at HB HR
  generalize l.count true = o at *
  generalize l.length = n at *
  generalize bitsOf l = b at *
  have wn := i64_nat (n := n) (by omega)
  go_enter Tryz.func149, Tryz.ntmps149
  go_wp2_with fail
  refine (HG _ (by repeat (first | with_reducible exact Below.refl _ _ | with_reducible assumption | with_reducible refine bel_drewN ?_ | with_reducible refine bel_drew ?_ | with_reducible refine bel_alloc ?_ _ | with_reducible refine bel_set ?_ _ ?_ | with_reducible refine bel_trans ?_ (by with_reducible assumption) | ((try dsimp only); omega)))).mono ?_; rintro e w1 ⟨rfl, hb1⟩; obtain ⟨hc1, hf1⟩ := bcell hb1
  go_wp2
  generalize hW : w1.alloc _ = W
  have l0 : W.cell? ⟨w1.heap.size, 0, none⟩ = some (.int .i64 1) := (by subst hW; go_simp); have l1 : W.cell? ⟨w1.heap.size, 1, none⟩ = some (.int .i64 0) := (by subst hW; go_simp); have l2 : W.cell? ⟨w1.heap.size, 2, none⟩ = some (.int .i64 0) := (by subst hW; go_simp); have l3 : W.cell? ⟨w1.heap.size, 3, none⟩ = some (.int .i64 0) := (by subst hW; go_simp); have l4 : W.cell? ⟨w1.heap.size, 4, none⟩ = some (.int .i64 0) := (by subst hW; go_simp); have l5 : W.cell? ⟨w1.heap.size, 5, none⟩ = some (.int .u64 b) := (by subst hW; go_simp); have l6 : W.cell? ⟨w1.heap.size, 6, none⟩ = some (.int .u64 n) := (by subst hW; go_simp)
  have hbW : Below w.heap.size w W := by subst hW; exact (by repeat (first | with_reducible exact Below.refl _ _ | with_reducible assumption | with_reducible refine bel_drewN ?_ | with_reducible refine bel_drew ?_ | with_reducible refine bel_alloc ?_ _ | with_reducible refine bel_set ?_ _ ?_ | with_reducible refine bel_trans ?_ (by with_reducible assumption) | ((try dsimp only); omega)))
  have hsW : w1.heap.size < W.heap.size := by subst hW; simp
  clear hW hc1 hf1 hb1
  refine wp_region_can (fun w' => ∀ o, w'.cell? ⟨w1.heap.size, o, none⟩ = W.cell? ⟨w1.heap.size, o, none⟩) [(0, false), (2, false), (3, false), (4, false), (1, true), (5, true), (6, false)] (by kernel_rfl) (by kernel_rfl) (fun _ d _ _ _ h => by cases d <;> exact h) ?_ ?_
  · exact fun _ => rfl
  repeat ((with_reducible refine wpCan_isq ?_); first | (apply wpCan_read rfl (by rfl); (· intro w' hS; go_simp; with_reducible rfl); (· try simp only [Act.put, List.setIfInBounds_toArray, List.set_cons_zero, List.set_cons_succ]; with_reducible rfl)) | (apply wpCan_no rfl (by rfl); (· try simp only [Act.put, List.setIfInBounds_toArray, List.set_cons_zero, List.set_cons_succ]; with_reducible rfl)))
  (with_reducible refine wpCan_isl ?_); apply wpCan_call (HB _) rfl (by rfl); (· go_simp); rintro e w2 ⟨rfl, hb2⟩; apply wpCan_told; (· exact fun o => hb2.cell hsW); (· try simp only [Act.put, List.setIfInBounds_toArray, List.set_cons_zero, List.set_cons_succ]; with_reducible rfl)
  (with_reducible refine wpCan_isl ?_); apply wpCan_call (HR _) rfl (by rfl); (· go_simp); rintro e w3 ⟨rfl, hb3⟩; apply wpCan_told; (· exact fun o => (hb3.cell (Nat.lt_of_lt_of_le hsW hb2.size)).trans (hb2.cell hsW)); (· try simp only [Act.put, List.setIfInBounds_toArray, List.set_cons_zero, List.set_cons_succ]; with_reducible rfl)
  repeat ((with_reducible refine wpCan_isq ?_); first | (apply wpCan_read rfl (by rfl); (· intro w' hS; go_simp; with_reducible rfl); (· try simp only [Act.put, List.setIfInBounds_toArray, List.set_cons_zero, List.set_cons_succ]; with_reducible rfl)) | (apply wpCan_no rfl (by rfl); (· try simp only [Act.put, List.setIfInBounds_toArray, List.set_cons_zero, List.set_cons_succ]; with_reducible rfl)))
  refine wpCan_nil ?_
  go_wp2
  go_ret
  have q2 := bel_trans (bel_drew hbW) hb2
  exact ⟨rfl, bel_trans q2 hb3⟩
set_option maxHeartbeats 1000000 in
theorem ones_fork (w : World) (p : Nat) (S : St) (h : Int) (x y : BT) (H : Ar w p S) (B : S.bt h (.fork x y)) (hl : x.bits.length + y.bits.length < 9223372036854775808) :
    Calls Tryz.prog 149 #[.pointer (some ⟨p, 0, none⟩), .int .i64 h] w fun e w' => e = .returned (.int .i64 (x.bits.count true + y.bits.count true : Nat)) ∧ Below w.heap.size w w' := by
  obtain ⟨hx, hy, E, _⟩ := B.2
  have HG := fun w' (hb : Below w.heap.size w w') => row_fork w' p S h hx hy x y _ _ (H.below hb) B E
  have c1 := List.count_le_length (a := true) (l := x.bits)
  have c2 := List.count_le_length (a := true) (l := y.bits)
  clear B E
  unfold forkNd Nd.arr at HG
  have hl2 : x.bits.count true + y.bits.count true < 9223372036854775808 := by omega
  clear c1 c2
  generalize x.bits.length + y.bits.length = n at *
  generalize x.bits.count true + y.bits.count true = o at *
  go_enter Tryz.func149, Tryz.ntmps149
  go_wp2_with fail
  refine (HG _ (by repeat (first | with_reducible exact Below.refl _ _ | with_reducible assumption | with_reducible refine bel_drewN ?_ | with_reducible refine bel_drew ?_ | with_reducible refine bel_alloc ?_ _ | with_reducible refine bel_set ?_ _ ?_ | with_reducible refine bel_trans ?_ (by with_reducible assumption) | ((try dsimp only); omega)))).mono ?_; rintro e w1 ⟨rfl, hb1⟩; obtain ⟨hc1, hf1⟩ := bcell hb1
  go_wp2
  go_ret
  exact ⟨by simp, (by repeat (first | with_reducible exact Below.refl _ _ | with_reducible assumption | with_reducible refine bel_drewN ?_ | with_reducible refine bel_drew ?_ | with_reducible refine bel_alloc ?_ _ | with_reducible refine bel_set ?_ _ ?_ | with_reducible refine bel_trans ?_ (by with_reducible assumption) | ((try dsimp only); omega)))⟩


theorem ones_calls (w : World) (p : Nat) (S : St) (h : Int) (l : List Bool) (H : Ar w p S) (B : S.br h l) (hl : l.length < 9223372036854775808) :
    Calls Tryz.prog 149 #[.pointer (some ⟨p, 0, none⟩), .int .i64 h] w fun e w' => e = .returned (.int .i64 (l.count true : Nat)) ∧ Below w.heap.size w w' := by
  rcases B with ⟨rfl, rfl⟩ | ⟨t, h1, h2, rfl⟩
  · exact ones_zero w p S H
  · cases t with
    | leaf l => exact ones_leaf w p S h l H h1
    | fork x y =>
      simp only [BT.bits, List.length_append, List.count_append] at hl ⊢
      exact ones_fork w p S h x y H h1 hl
end Go.Proofs.YtngfalbabgpnnaaGreat
