/-
  The walk of list.node.
  The walks of package list: the length; the makers: keep, node, item, high, open.
-/
import Derived.Test.YtngfalbabgpnnaaGreatM1
import Derived.Test.YtngfalbabgpnnaaGreatM2
import Derived.Test.YtngfalbabgpnnaaGreatM3
import Derived.Test.YtngfalbabgpnnaaGreatM4
import Derived.Test.YtngfalbabgpnnaaGreatM6
set_option linter.unusedVariables false
set_option linter.unusedSimpArgs false
namespace Go.Proofs.YtngfalbabgpnnaaGreat
open Go.RowKit

set_option maxHeartbeats 1000000 in
set_option maxRecDepth 100000 in
theorem listNode_unused (w : World) (p : Nat) (S : St) (h : Int) (H : Ar w p S) (hu : S.used h = false) :
    Calls Tryz.prog 127 #[.pointer (some ⟨p, 0, none⟩), .int .i64 h] w fun e w' => e = .returned (.tuple #[.agg (S.node h).arr, .bool false]) ∧ Below w.heap.size w w' := by
  have HG := fun w' (hb : Below w.heap.size w w') => Get_calls w' p S h (H.below hb)
  have HC := fun w' (hb : Below w.heap.size w w') => Count_calls w' p S h (H.below hb)
  unfold Nd.arr at HG ⊢
  generalize S.node h = x at *
  generalize S.cnt h = c at *
  rw [hu] at HG
  clear hu
  go_enter Tryz.func127, Tryz.ntmps127
  go_wp2_with fail
  refine (HG _ (by repeat (first | with_reducible exact Below.refl _ _ | with_reducible assumption | with_reducible refine bel_drewN ?_ | with_reducible refine bel_drew ?_ | with_reducible refine bel_alloc ?_ _ | with_reducible refine bel_set ?_ _ ?_ | with_reducible refine bel_trans ?_ (by with_reducible assumption) | ((try dsimp only); omega)))).mono ?_; rintro e w1 ⟨rfl, hb1⟩; obtain ⟨hc1, hf1⟩ := bcell hb1
  have zz := hb1.size; (try simp only [World.size_alloc, World.size_drew, World.size_setCell] at zz); have : w.heap.size < w1.heap.size := (by omega); clear zz
  go_wp2
  generalize hW : w1.alloc _ = W
  have l0 : W.cell? ⟨w1.heap.size, 0, none⟩ = some (.int .i64 x.tag) := (by subst hW; go_simp); have l1 : W.cell? ⟨w1.heap.size, 1, none⟩ = some (.int .i64 x.k0) := (by subst hW; go_simp); have l2 : W.cell? ⟨w1.heap.size, 2, none⟩ = some (.int .i64 x.k1) := (by subst hW; go_simp); have l3 : W.cell? ⟨w1.heap.size, 3, none⟩ = some (.int .i64 x.k2) := (by subst hW; go_simp); have l4 : W.cell? ⟨w1.heap.size, 4, none⟩ = some (.int .i64 x.k3) := (by subst hW; go_simp); have l5 : W.cell? ⟨w1.heap.size, 5, none⟩ = some (.int .u64 x.a) := (by subst hW; go_simp); have l6 : W.cell? ⟨w1.heap.size, 6, none⟩ = some (.int .u64 x.b) := (by subst hW; go_simp)
  have r0 : ∀ i, i < 7 → W.frozen? ⟨w.heap.size, i, none⟩ = false := fun i _ => by subst hW; go_simp
  have z0 : W.cell? ⟨w.heap.size, 0, none⟩ = some (.int .i64 0) := (by subst hW; go_simp); have z1 : W.cell? ⟨w.heap.size, 1, none⟩ = some (.int .i64 0) := (by subst hW; go_simp); have z2 : W.cell? ⟨w.heap.size, 2, none⟩ = some (.int .i64 0) := (by subst hW; go_simp); have z3 : W.cell? ⟨w.heap.size, 3, none⟩ = some (.int .i64 0) := (by subst hW; go_simp); have z4 : W.cell? ⟨w.heap.size, 4, none⟩ = some (.int .i64 0) := (by subst hW; go_simp); have z5 : W.cell? ⟨w.heap.size, 5, none⟩ = some (.int .u64 0) := (by subst hW; go_simp); have z6 : W.cell? ⟨w.heap.size, 6, none⟩ = some (.int .u64 0) := (by subst hW; go_simp)
  have hbW : Below w.heap.size w W := by subst hW; exact (by repeat (first | with_reducible exact Below.refl _ _ | with_reducible assumption | with_reducible refine bel_drewN ?_ | with_reducible refine bel_drew ?_ | with_reducible refine bel_alloc ?_ _ | with_reducible refine bel_set ?_ _ ?_ | with_reducible refine bel_trans ?_ (by with_reducible assumption) | ((try dsimp only); omega)))
  have nq : w.heap.size ≠ w1.heap.size := by omega
  clear hW hc1 hf1 hb1
  refine wp_region_can (fun w' => ∀ o, w'.cell? ⟨w1.heap.size, o, none⟩ = W.cell? ⟨w1.heap.size, o, none⟩) [(0, false), (1, false), (2, false), (3, false), (4, false), (5, true), (6, false), (7, false), (8, false), (9, false), (10, false), (11, false), (12, false), (13, false), (14, false), (15, false), (16, false), (17, false), (18, true), (19, false)] (by kernel_rfl) (by kernel_rfl) (fun _ d _ _ _ h => by cases d <;> exact h) ?_ ?_
  · exact fun _ => rfl
  repeat ((with_reducible refine wpCan_isq ?_); first | (apply wpCan_read rfl (by rfl); (· intro w' hS; go_simp; with_reducible rfl); (· try simp only [Act.put, List.setIfInBounds_toArray, List.set_cons_zero, List.set_cons_succ]; with_reducible rfl)) | (apply wpCan_no rfl (by rfl); (· try simp only [Act.put, List.setIfInBounds_toArray, List.set_cons_zero, List.set_cons_succ]; with_reducible rfl)))
  (with_reducible refine wpCan_isl ?_); apply wpCan_no_loud rfl (by rfl); (· try simp only [Act.put, List.setIfInBounds_toArray, List.set_cons_zero, List.set_cons_succ]; with_reducible rfl); (· exact fun _ => rfl)
  repeat ((with_reducible refine wpCan_isq ?_); first | (apply wpCan_read rfl (by rfl); (· intro w' hS; go_simp; with_reducible rfl); (· try simp only [Act.put, List.setIfInBounds_toArray, List.set_cons_zero, List.set_cons_succ]; with_reducible rfl)) | (apply wpCan_no rfl (by rfl); (· try simp only [Act.put, List.setIfInBounds_toArray, List.set_cons_zero, List.set_cons_succ]; with_reducible rfl)))
  (with_reducible refine wpCan_isl ?_); apply wpCan_skip rfl (by rfl); (· go_simp; with_reducible rfl); (· try simp only [Act.put, List.setIfInBounds_toArray, List.set_cons_zero, List.set_cons_succ]; with_reducible rfl); (· intro o; go_simp)
  repeat ((with_reducible refine wpCan_isq ?_); first | (apply wpCan_read rfl (by rfl); (· intro w' hS; go_simp; with_reducible rfl); (· try simp only [Act.put, List.setIfInBounds_toArray, List.set_cons_zero, List.set_cons_succ]; with_reducible rfl)) | (apply wpCan_no rfl (by rfl); (· try simp only [Act.put, List.setIfInBounds_toArray, List.set_cons_zero, List.set_cons_succ]; with_reducible rfl)))
  refine wpCan_nil ?_
  go_wp2
  refine bodyPost_ret (v := .tuple #[.agg #[.int .i64 x.tag, .int .i64 x.k0, .int .i64 x.k1, .int .i64 x.k2, .int .i64 x.k3, .int .u64 x.a, .int .u64 x.b], .bool false]) ?_ rfl ⟨rfl, (by repeat (first | with_reducible exact Below.refl _ _ | with_reducible assumption | with_reducible refine bel_drewN ?_ | with_reducible refine bel_drew ?_ | with_reducible refine bel_alloc ?_ _ | with_reducible refine bel_set ?_ _ ?_ | with_reducible refine bel_trans ?_ (by with_reducible assumption) | ((try dsimp only); omega)))⟩
  simp [results, Tryz.results127, go_sem, *]
set_option maxHeartbeats 1000000 in
set_option maxRecDepth 100000 in
theorem listNode_dead (w : World) (p : Nat) (S : St) (h : Int) (H : Ar w p S) (hu : S.used h = true) (hcn : ¬ 0 < S.cnt h) :
    Calls Tryz.prog 127 #[.pointer (some ⟨p, 0, none⟩), .int .i64 h] w fun e w' => e = .returned (.tuple #[.agg (S.node h).arr, .bool false]) ∧ Below w.heap.size w w' := by
  have HG := fun w' (hb : Below w.heap.size w w') => Get_calls w' p S h (H.below hb)
  have HC := fun w' (hb : Below w.heap.size w w') => Count_calls w' p S h (H.below hb)
  unfold Nd.arr at HG ⊢
  generalize S.node h = x at *
  generalize S.cnt h = c at *
  have q1 : c ≤ 0 := by omega
  have q2 : decide (0 < c) = false := by simp; omega
  rw [hu] at HG
  clear hu
  go_enter Tryz.func127, Tryz.ntmps127
  go_wp2_with fail
  refine (HG _ (by repeat (first | with_reducible exact Below.refl _ _ | with_reducible assumption | with_reducible refine bel_drewN ?_ | with_reducible refine bel_drew ?_ | with_reducible refine bel_alloc ?_ _ | with_reducible refine bel_set ?_ _ ?_ | with_reducible refine bel_trans ?_ (by with_reducible assumption) | ((try dsimp only); omega)))).mono ?_; rintro e w1 ⟨rfl, hb1⟩; obtain ⟨hc1, hf1⟩ := bcell hb1
  have zz := hb1.size; (try simp only [World.size_alloc, World.size_drew, World.size_setCell] at zz); have : w.heap.size < w1.heap.size := (by omega); clear zz
  go_wp2
  generalize hW : w1.alloc _ = W
  have l0 : W.cell? ⟨w1.heap.size, 0, none⟩ = some (.int .i64 x.tag) := (by subst hW; go_simp); have l1 : W.cell? ⟨w1.heap.size, 1, none⟩ = some (.int .i64 x.k0) := (by subst hW; go_simp); have l2 : W.cell? ⟨w1.heap.size, 2, none⟩ = some (.int .i64 x.k1) := (by subst hW; go_simp); have l3 : W.cell? ⟨w1.heap.size, 3, none⟩ = some (.int .i64 x.k2) := (by subst hW; go_simp); have l4 : W.cell? ⟨w1.heap.size, 4, none⟩ = some (.int .i64 x.k3) := (by subst hW; go_simp); have l5 : W.cell? ⟨w1.heap.size, 5, none⟩ = some (.int .u64 x.a) := (by subst hW; go_simp); have l6 : W.cell? ⟨w1.heap.size, 6, none⟩ = some (.int .u64 x.b) := (by subst hW; go_simp)
  have r0 : ∀ i, i < 7 → W.frozen? ⟨w.heap.size, i, none⟩ = false := fun i _ => by subst hW; go_simp
  have z0 : W.cell? ⟨w.heap.size, 0, none⟩ = some (.int .i64 0) := (by subst hW; go_simp); have z1 : W.cell? ⟨w.heap.size, 1, none⟩ = some (.int .i64 0) := (by subst hW; go_simp); have z2 : W.cell? ⟨w.heap.size, 2, none⟩ = some (.int .i64 0) := (by subst hW; go_simp); have z3 : W.cell? ⟨w.heap.size, 3, none⟩ = some (.int .i64 0) := (by subst hW; go_simp); have z4 : W.cell? ⟨w.heap.size, 4, none⟩ = some (.int .i64 0) := (by subst hW; go_simp); have z5 : W.cell? ⟨w.heap.size, 5, none⟩ = some (.int .u64 0) := (by subst hW; go_simp); have z6 : W.cell? ⟨w.heap.size, 6, none⟩ = some (.int .u64 0) := (by subst hW; go_simp)
  have hbW : Below w.heap.size w W := by subst hW; exact (by repeat (first | with_reducible exact Below.refl _ _ | with_reducible assumption | with_reducible refine bel_drewN ?_ | with_reducible refine bel_drew ?_ | with_reducible refine bel_alloc ?_ _ | with_reducible refine bel_set ?_ _ ?_ | with_reducible refine bel_trans ?_ (by with_reducible assumption) | ((try dsimp only); omega)))
  have nq : w.heap.size ≠ w1.heap.size := by omega
  clear hW hc1 hf1 hb1
  refine wp_region_can (fun w' => ∀ o, w'.cell? ⟨w1.heap.size, o, none⟩ = W.cell? ⟨w1.heap.size, o, none⟩) [(0, false), (1, false), (2, false), (3, false), (4, false), (5, true), (6, false), (7, false), (8, false), (9, false), (10, false), (11, false), (12, false), (13, false), (14, false), (15, false), (16, false), (17, false), (18, true), (19, false)] (by kernel_rfl) (by kernel_rfl) (fun _ d _ _ _ h => by cases d <;> exact h) ?_ ?_
  · exact fun _ => rfl
  repeat ((with_reducible refine wpCan_isq ?_); first | (apply wpCan_read rfl (by rfl); (· intro w' hS; go_simp; with_reducible rfl); (· try simp only [Act.put, List.setIfInBounds_toArray, List.set_cons_zero, List.set_cons_succ]; with_reducible rfl)) | (apply wpCan_no rfl (by rfl); (· try simp only [Act.put, List.setIfInBounds_toArray, List.set_cons_zero, List.set_cons_succ]; with_reducible rfl)))
  (with_reducible refine wpCan_isl ?_); apply wpCan_call (HC _ (by repeat (first | with_reducible exact Below.refl _ _ | with_reducible assumption | with_reducible refine bel_drewN ?_ | with_reducible refine bel_drew ?_ | with_reducible refine bel_alloc ?_ _ | with_reducible refine bel_set ?_ _ ?_ | with_reducible refine bel_trans ?_ (by with_reducible assumption) | ((try dsimp only); omega)))) rfl (by rfl); (· go_simp); rintro e w2 ⟨rfl, rfl⟩; apply wpCan_told; (· exact fun _ => rfl); (· try simp only [Act.put, List.setIfInBounds_toArray, List.set_cons_zero, List.set_cons_succ]; with_reducible rfl)
  repeat ((with_reducible refine wpCan_isq ?_); first | (apply wpCan_read rfl (by rfl); (· intro w' hS; go_simp; with_reducible rfl); (· try simp only [Act.put, List.setIfInBounds_toArray, List.set_cons_zero, List.set_cons_succ]; with_reducible rfl)) | (apply wpCan_no rfl (by rfl); (· try simp only [Act.put, List.setIfInBounds_toArray, List.set_cons_zero, List.set_cons_succ]; with_reducible rfl)))
  repeat ((with_reducible refine wpCan_isq ?_); first | (apply wpCan_read rfl (by rfl); (· intro w' hS; go_simp; with_reducible rfl); (· try simp only [Act.put, List.setIfInBounds_toArray, List.set_cons_zero, List.set_cons_succ]; with_reducible rfl)) | (apply wpCan_no rfl (by rfl); (· try simp only [Act.put, List.setIfInBounds_toArray, List.set_cons_zero, List.set_cons_succ]; with_reducible rfl)))
  (with_reducible refine wpCan_isl ?_); apply wpCan_skip rfl (by rfl); (· go_simp; with_reducible rfl); (· try simp only [Act.put, List.setIfInBounds_toArray, List.set_cons_zero, List.set_cons_succ]; with_reducible rfl); (· intro o; go_simp)
  repeat ((with_reducible refine wpCan_isq ?_); first | (apply wpCan_read rfl (by rfl); (· intro w' hS; go_simp; with_reducible rfl); (· try simp only [Act.put, List.setIfInBounds_toArray, List.set_cons_zero, List.set_cons_succ]; with_reducible rfl)) | (apply wpCan_no rfl (by rfl); (· try simp only [Act.put, List.setIfInBounds_toArray, List.set_cons_zero, List.set_cons_succ]; with_reducible rfl)))
  refine wpCan_nil ?_
  go_wp2
  refine bodyPost_ret (v := .tuple #[.agg #[.int .i64 x.tag, .int .i64 x.k0, .int .i64 x.k1, .int .i64 x.k2, .int .i64 x.k3, .int .u64 x.a, .int .u64 x.b], .bool false]) ?_ rfl ⟨rfl, (by repeat (first | with_reducible exact Below.refl _ _ | with_reducible assumption | with_reducible refine bel_drewN ?_ | with_reducible refine bel_drew ?_ | with_reducible refine bel_alloc ?_ _ | with_reducible refine bel_set ?_ _ ?_ | with_reducible refine bel_trans ?_ (by with_reducible assumption) | ((try dsimp only); omega)))⟩
  simp [results, Tryz.results127, go_sem, *]
set_option maxHeartbeats 1000000 in
set_option maxRecDepth 100000 in
theorem listNode_leaf (w : World) (p : Nat) (S : St) (h : Int) (H : Ar w p S) (hu : S.used h = true) (hcn : 0 < S.cnt h) (ht : (S.node h).tag = 4) :
    Calls Tryz.prog 127 #[.pointer (some ⟨p, 0, none⟩), .int .i64 h] w fun e w' => e = .returned (.tuple #[.agg (S.node h).arr, .bool true]) ∧ Below w.heap.size w w' := by
  have HG := fun w' (hb : Below w.heap.size w w') => Get_calls w' p S h (H.below hb)
  have HC := fun w' (hb : Below w.heap.size w w') => Count_calls w' p S h (H.below hb)
  unfold Nd.arr at HG ⊢
  generalize S.node h = x at *
  generalize S.cnt h = c at *
  have t1 : (x.tag == 4) = true := by simp [ht]
  clear ht
  rw [hu] at HG
  clear hu
  go_enter Tryz.func127, Tryz.ntmps127
  go_wp2_with fail
  refine (HG _ (by repeat (first | with_reducible exact Below.refl _ _ | with_reducible assumption | with_reducible refine bel_drewN ?_ | with_reducible refine bel_drew ?_ | with_reducible refine bel_alloc ?_ _ | with_reducible refine bel_set ?_ _ ?_ | with_reducible refine bel_trans ?_ (by with_reducible assumption) | ((try dsimp only); omega)))).mono ?_; rintro e w1 ⟨rfl, hb1⟩; obtain ⟨hc1, hf1⟩ := bcell hb1
  have zz := hb1.size; (try simp only [World.size_alloc, World.size_drew, World.size_setCell] at zz); have : w.heap.size < w1.heap.size := (by omega); clear zz
  go_wp2
  generalize hW : w1.alloc _ = W
  have l0 : W.cell? ⟨w1.heap.size, 0, none⟩ = some (.int .i64 x.tag) := (by subst hW; go_simp); have l1 : W.cell? ⟨w1.heap.size, 1, none⟩ = some (.int .i64 x.k0) := (by subst hW; go_simp); have l2 : W.cell? ⟨w1.heap.size, 2, none⟩ = some (.int .i64 x.k1) := (by subst hW; go_simp); have l3 : W.cell? ⟨w1.heap.size, 3, none⟩ = some (.int .i64 x.k2) := (by subst hW; go_simp); have l4 : W.cell? ⟨w1.heap.size, 4, none⟩ = some (.int .i64 x.k3) := (by subst hW; go_simp); have l5 : W.cell? ⟨w1.heap.size, 5, none⟩ = some (.int .u64 x.a) := (by subst hW; go_simp); have l6 : W.cell? ⟨w1.heap.size, 6, none⟩ = some (.int .u64 x.b) := (by subst hW; go_simp)
  have r0 : ∀ i, i < 7 → W.frozen? ⟨w.heap.size, i, none⟩ = false := fun i _ => by subst hW; go_simp
  have z0 : W.cell? ⟨w.heap.size, 0, none⟩ = some (.int .i64 0) := (by subst hW; go_simp); have z1 : W.cell? ⟨w.heap.size, 1, none⟩ = some (.int .i64 0) := (by subst hW; go_simp); have z2 : W.cell? ⟨w.heap.size, 2, none⟩ = some (.int .i64 0) := (by subst hW; go_simp); have z3 : W.cell? ⟨w.heap.size, 3, none⟩ = some (.int .i64 0) := (by subst hW; go_simp); have z4 : W.cell? ⟨w.heap.size, 4, none⟩ = some (.int .i64 0) := (by subst hW; go_simp); have z5 : W.cell? ⟨w.heap.size, 5, none⟩ = some (.int .u64 0) := (by subst hW; go_simp); have z6 : W.cell? ⟨w.heap.size, 6, none⟩ = some (.int .u64 0) := (by subst hW; go_simp)
  have hbW : Below w.heap.size w W := by subst hW; exact (by repeat (first | with_reducible exact Below.refl _ _ | with_reducible assumption | with_reducible refine bel_drewN ?_ | with_reducible refine bel_drew ?_ | with_reducible refine bel_alloc ?_ _ | with_reducible refine bel_set ?_ _ ?_ | with_reducible refine bel_trans ?_ (by with_reducible assumption) | ((try dsimp only); omega)))
  have nq : w.heap.size ≠ w1.heap.size := by omega
  clear hW hc1 hf1 hb1
  refine wp_region_can (fun w' => ∀ o, w'.cell? ⟨w1.heap.size, o, none⟩ = W.cell? ⟨w1.heap.size, o, none⟩) [(0, false), (1, false), (2, false), (3, false), (4, false), (5, true), (6, false), (7, false), (8, false), (9, false), (10, false), (11, false), (12, false), (13, false), (14, false), (15, false), (16, false), (17, false), (18, true), (19, false)] (by kernel_rfl) (by kernel_rfl) (fun _ d _ _ _ h => by cases d <;> exact h) ?_ ?_
  · exact fun _ => rfl
  repeat ((with_reducible refine wpCan_isq ?_); first | (apply wpCan_read rfl (by rfl); (· intro w' hS; go_simp; with_reducible rfl); (· try simp only [Act.put, List.setIfInBounds_toArray, List.set_cons_zero, List.set_cons_succ]; with_reducible rfl)) | (apply wpCan_no rfl (by rfl); (· try simp only [Act.put, List.setIfInBounds_toArray, List.set_cons_zero, List.set_cons_succ]; with_reducible rfl)))
  (with_reducible refine wpCan_isl ?_); apply wpCan_call (HC _ (by repeat (first | with_reducible exact Below.refl _ _ | with_reducible assumption | with_reducible refine bel_drewN ?_ | with_reducible refine bel_drew ?_ | with_reducible refine bel_alloc ?_ _ | with_reducible refine bel_set ?_ _ ?_ | with_reducible refine bel_trans ?_ (by with_reducible assumption) | ((try dsimp only); omega)))) rfl (by rfl); (· go_simp); rintro e w2 ⟨rfl, rfl⟩; apply wpCan_told; (· exact fun _ => rfl); (· try simp only [Act.put, List.setIfInBounds_toArray, List.set_cons_zero, List.set_cons_succ]; with_reducible rfl)
  repeat ((with_reducible refine wpCan_isq ?_); first | (apply wpCan_read rfl (by rfl); (· intro w' hS; go_simp; with_reducible rfl); (· try simp only [Act.put, List.setIfInBounds_toArray, List.set_cons_zero, List.set_cons_succ]; with_reducible rfl)) | (apply wpCan_no rfl (by rfl); (· try simp only [Act.put, List.setIfInBounds_toArray, List.set_cons_zero, List.set_cons_succ]; with_reducible rfl)))
  repeat ((with_reducible refine wpCan_isq ?_); first | (apply wpCan_read rfl (by rfl); (· intro w' hS; go_simp; with_reducible rfl); (· try simp only [Act.put, List.setIfInBounds_toArray, List.set_cons_zero, List.set_cons_succ]; with_reducible rfl)) | (apply wpCan_no rfl (by rfl); (· try simp only [Act.put, List.setIfInBounds_toArray, List.set_cons_zero, List.set_cons_succ]; with_reducible rfl)))
  (with_reducible refine wpCan_isl ?_); apply wpCan_skip rfl (by rfl); (· go_simp; with_reducible rfl); (· try simp only [Act.put, List.setIfInBounds_toArray, List.set_cons_zero, List.set_cons_succ]; with_reducible rfl); (· intro o; go_simp)
  repeat ((with_reducible refine wpCan_isq ?_); first | (apply wpCan_read rfl (by rfl); (· intro w' hS; go_simp; with_reducible rfl); (· try simp only [Act.put, List.setIfInBounds_toArray, List.set_cons_zero, List.set_cons_succ]; with_reducible rfl)) | (apply wpCan_no rfl (by rfl); (· try simp only [Act.put, List.setIfInBounds_toArray, List.set_cons_zero, List.set_cons_succ]; with_reducible rfl)))
  refine wpCan_nil ?_
  go_wp2
  refine bodyPost_ret (v := .tuple #[.agg #[.int .i64 x.tag, .int .i64 x.k0, .int .i64 x.k1, .int .i64 x.k2, .int .i64 x.k3, .int .u64 x.a, .int .u64 x.b], .bool true]) ?_ rfl ⟨rfl, (by repeat (first | with_reducible exact Below.refl _ _ | with_reducible assumption | with_reducible refine bel_drewN ?_ | with_reducible refine bel_drew ?_ | with_reducible refine bel_alloc ?_ _ | with_reducible refine bel_set ?_ _ ?_ | with_reducible refine bel_trans ?_ (by with_reducible assumption) | ((try dsimp only); omega)))⟩
  simp [results, Tryz.results127, go_sem, *]
set_option maxHeartbeats 1000000 in
set_option maxRecDepth 100000 in
theorem listNode_fork (w : World) (p : Nat) (S : St) (h : Int) (H : Ar w p S) (hu : S.used h = true) (hcn : 0 < S.cnt h) (ht : (S.node h).tag = 5) :
    Calls Tryz.prog 127 #[.pointer (some ⟨p, 0, none⟩), .int .i64 h] w fun e w' => e = .returned (.tuple #[.agg (S.node h).arr, .bool true]) ∧ Below w.heap.size w w' := by
  have HG := fun w' (hb : Below w.heap.size w w') => Get_calls w' p S h (H.below hb)
  have HC := fun w' (hb : Below w.heap.size w w') => Count_calls w' p S h (H.below hb)
  unfold Nd.arr at HG ⊢
  generalize S.node h = x at *
  generalize S.cnt h = c at *
  have t1 : (x.tag == 4) = false := by simp [ht]
  have t2 : (x.tag == 5) = true := by simp [ht]
  clear ht
  rw [hu] at HG
  clear hu
  go_enter Tryz.func127, Tryz.ntmps127
  go_wp2_with fail
  refine (HG _ (by repeat (first | with_reducible exact Below.refl _ _ | with_reducible assumption | with_reducible refine bel_drewN ?_ | with_reducible refine bel_drew ?_ | with_reducible refine bel_alloc ?_ _ | with_reducible refine bel_set ?_ _ ?_ | with_reducible refine bel_trans ?_ (by with_reducible assumption) | ((try dsimp only); omega)))).mono ?_; rintro e w1 ⟨rfl, hb1⟩; obtain ⟨hc1, hf1⟩ := bcell hb1
  have zz := hb1.size; (try simp only [World.size_alloc, World.size_drew, World.size_setCell] at zz); have : w.heap.size < w1.heap.size := (by omega); clear zz
  go_wp2
  generalize hW : w1.alloc _ = W
  have l0 : W.cell? ⟨w1.heap.size, 0, none⟩ = some (.int .i64 x.tag) := (by subst hW; go_simp); have l1 : W.cell? ⟨w1.heap.size, 1, none⟩ = some (.int .i64 x.k0) := (by subst hW; go_simp); have l2 : W.cell? ⟨w1.heap.size, 2, none⟩ = some (.int .i64 x.k1) := (by subst hW; go_simp); have l3 : W.cell? ⟨w1.heap.size, 3, none⟩ = some (.int .i64 x.k2) := (by subst hW; go_simp); have l4 : W.cell? ⟨w1.heap.size, 4, none⟩ = some (.int .i64 x.k3) := (by subst hW; go_simp); have l5 : W.cell? ⟨w1.heap.size, 5, none⟩ = some (.int .u64 x.a) := (by subst hW; go_simp); have l6 : W.cell? ⟨w1.heap.size, 6, none⟩ = some (.int .u64 x.b) := (by subst hW; go_simp)
  have r0 : ∀ i, i < 7 → W.frozen? ⟨w.heap.size, i, none⟩ = false := fun i _ => by subst hW; go_simp
  have z0 : W.cell? ⟨w.heap.size, 0, none⟩ = some (.int .i64 0) := (by subst hW; go_simp); have z1 : W.cell? ⟨w.heap.size, 1, none⟩ = some (.int .i64 0) := (by subst hW; go_simp); have z2 : W.cell? ⟨w.heap.size, 2, none⟩ = some (.int .i64 0) := (by subst hW; go_simp); have z3 : W.cell? ⟨w.heap.size, 3, none⟩ = some (.int .i64 0) := (by subst hW; go_simp); have z4 : W.cell? ⟨w.heap.size, 4, none⟩ = some (.int .i64 0) := (by subst hW; go_simp); have z5 : W.cell? ⟨w.heap.size, 5, none⟩ = some (.int .u64 0) := (by subst hW; go_simp); have z6 : W.cell? ⟨w.heap.size, 6, none⟩ = some (.int .u64 0) := (by subst hW; go_simp)
  have hbW : Below w.heap.size w W := by subst hW; exact (by repeat (first | with_reducible exact Below.refl _ _ | with_reducible assumption | with_reducible refine bel_drewN ?_ | with_reducible refine bel_drew ?_ | with_reducible refine bel_alloc ?_ _ | with_reducible refine bel_set ?_ _ ?_ | with_reducible refine bel_trans ?_ (by with_reducible assumption) | ((try dsimp only); omega)))
  have nq : w.heap.size ≠ w1.heap.size := by omega
  clear hW hc1 hf1 hb1
  refine wp_region_can (fun w' => ∀ o, w'.cell? ⟨w1.heap.size, o, none⟩ = W.cell? ⟨w1.heap.size, o, none⟩) [(0, false), (1, false), (2, false), (3, false), (4, false), (5, true), (6, false), (7, false), (8, false), (9, false), (10, false), (11, false), (12, false), (13, false), (14, false), (15, false), (16, false), (17, false), (18, true), (19, false)] (by kernel_rfl) (by kernel_rfl) (fun _ d _ _ _ h => by cases d <;> exact h) ?_ ?_
  · exact fun _ => rfl
  repeat ((with_reducible refine wpCan_isq ?_); first | (apply wpCan_read rfl (by rfl); (· intro w' hS; go_simp; with_reducible rfl); (· try simp only [Act.put, List.setIfInBounds_toArray, List.set_cons_zero, List.set_cons_succ]; with_reducible rfl)) | (apply wpCan_no rfl (by rfl); (· try simp only [Act.put, List.setIfInBounds_toArray, List.set_cons_zero, List.set_cons_succ]; with_reducible rfl)))
  (with_reducible refine wpCan_isl ?_); apply wpCan_call (HC _ (by repeat (first | with_reducible exact Below.refl _ _ | with_reducible assumption | with_reducible refine bel_drewN ?_ | with_reducible refine bel_drew ?_ | with_reducible refine bel_alloc ?_ _ | with_reducible refine bel_set ?_ _ ?_ | with_reducible refine bel_trans ?_ (by with_reducible assumption) | ((try dsimp only); omega)))) rfl (by rfl); (· go_simp); rintro e w2 ⟨rfl, rfl⟩; apply wpCan_told; (· exact fun _ => rfl); (· try simp only [Act.put, List.setIfInBounds_toArray, List.set_cons_zero, List.set_cons_succ]; with_reducible rfl)
  repeat ((with_reducible refine wpCan_isq ?_); first | (apply wpCan_read rfl (by rfl); (· intro w' hS; go_simp; with_reducible rfl); (· try simp only [Act.put, List.setIfInBounds_toArray, List.set_cons_zero, List.set_cons_succ]; with_reducible rfl)) | (apply wpCan_no rfl (by rfl); (· try simp only [Act.put, List.setIfInBounds_toArray, List.set_cons_zero, List.set_cons_succ]; with_reducible rfl)))
  repeat ((with_reducible refine wpCan_isq ?_); first | (apply wpCan_read rfl (by rfl); (· intro w' hS; go_simp; with_reducible rfl); (· try simp only [Act.put, List.setIfInBounds_toArray, List.set_cons_zero, List.set_cons_succ]; with_reducible rfl)) | (apply wpCan_no rfl (by rfl); (· try simp only [Act.put, List.setIfInBounds_toArray, List.set_cons_zero, List.set_cons_succ]; with_reducible rfl)))
  (with_reducible refine wpCan_isl ?_); apply wpCan_skip rfl (by rfl); (· go_simp; with_reducible rfl); (· try simp only [Act.put, List.setIfInBounds_toArray, List.set_cons_zero, List.set_cons_succ]; with_reducible rfl); (· intro o; go_simp)
  repeat ((with_reducible refine wpCan_isq ?_); first | (apply wpCan_read rfl (by rfl); (· intro w' hS; go_simp; with_reducible rfl); (· try simp only [Act.put, List.setIfInBounds_toArray, List.set_cons_zero, List.set_cons_succ]; with_reducible rfl)) | (apply wpCan_no rfl (by rfl); (· try simp only [Act.put, List.setIfInBounds_toArray, List.set_cons_zero, List.set_cons_succ]; with_reducible rfl)))
  refine wpCan_nil ?_
  go_wp2
  refine bodyPost_ret (v := .tuple #[.agg #[.int .i64 x.tag, .int .i64 x.k0, .int .i64 x.k1, .int .i64 x.k2, .int .i64 x.k3, .int .u64 x.a, .int .u64 x.b], .bool true]) ?_ rfl ⟨rfl, (by repeat (first | with_reducible exact Below.refl _ _ | with_reducible assumption | with_reducible refine bel_drewN ?_ | with_reducible refine bel_drew ?_ | with_reducible refine bel_alloc ?_ _ | with_reducible refine bel_set ?_ _ ?_ | with_reducible refine bel_trans ?_ (by with_reducible assumption) | ((try dsimp only); omega)))⟩
  simp [results, Tryz.results127, go_sem, *]
set_option maxHeartbeats 1000000 in
set_option maxRecDepth 100000 in
theorem listNode_other (w : World) (p : Nat) (S : St) (h : Int) (H : Ar w p S) (hu : S.used h = true) (hcn : 0 < S.cnt h) (h1 : (S.node h).tag ≠ 4) (h2 : (S.node h).tag ≠ 5) :
    Calls Tryz.prog 127 #[.pointer (some ⟨p, 0, none⟩), .int .i64 h] w fun e w' => e = .returned (.tuple #[.agg (S.node h).arr, .bool false]) ∧ Below w.heap.size w w' := by
  have HG := fun w' (hb : Below w.heap.size w w') => Get_calls w' p S h (H.below hb)
  have HC := fun w' (hb : Below w.heap.size w w') => Count_calls w' p S h (H.below hb)
  unfold Nd.arr at HG ⊢
  generalize S.node h = x at *
  generalize S.cnt h = c at *
  have t1 : (x.tag == 4) = false := by simp [h1]
  have t2 : (x.tag == 5) = false := by simp [h2]
  clear h1 h2
  rw [hu] at HG
  clear hu
  go_enter Tryz.func127, Tryz.ntmps127
  go_wp2_with fail
  refine (HG _ (by repeat (first | with_reducible exact Below.refl _ _ | with_reducible assumption | with_reducible refine bel_drewN ?_ | with_reducible refine bel_drew ?_ | with_reducible refine bel_alloc ?_ _ | with_reducible refine bel_set ?_ _ ?_ | with_reducible refine bel_trans ?_ (by with_reducible assumption) | ((try dsimp only); omega)))).mono ?_; rintro e w1 ⟨rfl, hb1⟩; obtain ⟨hc1, hf1⟩ := bcell hb1
  have zz := hb1.size; (try simp only [World.size_alloc, World.size_drew, World.size_setCell] at zz); have : w.heap.size < w1.heap.size := (by omega); clear zz
  go_wp2
  generalize hW : w1.alloc _ = W
  have l0 : W.cell? ⟨w1.heap.size, 0, none⟩ = some (.int .i64 x.tag) := (by subst hW; go_simp); have l1 : W.cell? ⟨w1.heap.size, 1, none⟩ = some (.int .i64 x.k0) := (by subst hW; go_simp); have l2 : W.cell? ⟨w1.heap.size, 2, none⟩ = some (.int .i64 x.k1) := (by subst hW; go_simp); have l3 : W.cell? ⟨w1.heap.size, 3, none⟩ = some (.int .i64 x.k2) := (by subst hW; go_simp); have l4 : W.cell? ⟨w1.heap.size, 4, none⟩ = some (.int .i64 x.k3) := (by subst hW; go_simp); have l5 : W.cell? ⟨w1.heap.size, 5, none⟩ = some (.int .u64 x.a) := (by subst hW; go_simp); have l6 : W.cell? ⟨w1.heap.size, 6, none⟩ = some (.int .u64 x.b) := (by subst hW; go_simp)
  have r0 : ∀ i, i < 7 → W.frozen? ⟨w.heap.size, i, none⟩ = false := fun i _ => by subst hW; go_simp
  have z0 : W.cell? ⟨w.heap.size, 0, none⟩ = some (.int .i64 0) := (by subst hW; go_simp); have z1 : W.cell? ⟨w.heap.size, 1, none⟩ = some (.int .i64 0) := (by subst hW; go_simp); have z2 : W.cell? ⟨w.heap.size, 2, none⟩ = some (.int .i64 0) := (by subst hW; go_simp); have z3 : W.cell? ⟨w.heap.size, 3, none⟩ = some (.int .i64 0) := (by subst hW; go_simp); have z4 : W.cell? ⟨w.heap.size, 4, none⟩ = some (.int .i64 0) := (by subst hW; go_simp); have z5 : W.cell? ⟨w.heap.size, 5, none⟩ = some (.int .u64 0) := (by subst hW; go_simp); have z6 : W.cell? ⟨w.heap.size, 6, none⟩ = some (.int .u64 0) := (by subst hW; go_simp)
  have hbW : Below w.heap.size w W := by subst hW; exact (by repeat (first | with_reducible exact Below.refl _ _ | with_reducible assumption | with_reducible refine bel_drewN ?_ | with_reducible refine bel_drew ?_ | with_reducible refine bel_alloc ?_ _ | with_reducible refine bel_set ?_ _ ?_ | with_reducible refine bel_trans ?_ (by with_reducible assumption) | ((try dsimp only); omega)))
  have nq : w.heap.size ≠ w1.heap.size := by omega
  clear hW hc1 hf1 hb1
  refine wp_region_can (fun w' => ∀ o, w'.cell? ⟨w1.heap.size, o, none⟩ = W.cell? ⟨w1.heap.size, o, none⟩) [(0, false), (1, false), (2, false), (3, false), (4, false), (5, true), (6, false), (7, false), (8, false), (9, false), (10, false), (11, false), (12, false), (13, false), (14, false), (15, false), (16, false), (17, false), (18, true), (19, false)] (by kernel_rfl) (by kernel_rfl) (fun _ d _ _ _ h => by cases d <;> exact h) ?_ ?_
  · exact fun _ => rfl
  repeat ((with_reducible refine wpCan_isq ?_); first | (apply wpCan_read rfl (by rfl); (· intro w' hS; go_simp; with_reducible rfl); (· try simp only [Act.put, List.setIfInBounds_toArray, List.set_cons_zero, List.set_cons_succ]; with_reducible rfl)) | (apply wpCan_no rfl (by rfl); (· try simp only [Act.put, List.setIfInBounds_toArray, List.set_cons_zero, List.set_cons_succ]; with_reducible rfl)))
  (with_reducible refine wpCan_isl ?_); apply wpCan_call (HC _ (by repeat (first | with_reducible exact Below.refl _ _ | with_reducible assumption | with_reducible refine bel_drewN ?_ | with_reducible refine bel_drew ?_ | with_reducible refine bel_alloc ?_ _ | with_reducible refine bel_set ?_ _ ?_ | with_reducible refine bel_trans ?_ (by with_reducible assumption) | ((try dsimp only); omega)))) rfl (by rfl); (· go_simp); rintro e w2 ⟨rfl, rfl⟩; apply wpCan_told; (· exact fun _ => rfl); (· try simp only [Act.put, List.setIfInBounds_toArray, List.set_cons_zero, List.set_cons_succ]; with_reducible rfl)
  repeat ((with_reducible refine wpCan_isq ?_); first | (apply wpCan_read rfl (by rfl); (· intro w' hS; go_simp; with_reducible rfl); (· try simp only [Act.put, List.setIfInBounds_toArray, List.set_cons_zero, List.set_cons_succ]; with_reducible rfl)) | (apply wpCan_no rfl (by rfl); (· try simp only [Act.put, List.setIfInBounds_toArray, List.set_cons_zero, List.set_cons_succ]; with_reducible rfl)))
  repeat ((with_reducible refine wpCan_isq ?_); first | (apply wpCan_read rfl (by rfl); (· intro w' hS; go_simp; with_reducible rfl); (· try simp only [Act.put, List.setIfInBounds_toArray, List.set_cons_zero, List.set_cons_succ]; with_reducible rfl)) | (apply wpCan_no rfl (by rfl); (· try simp only [Act.put, List.setIfInBounds_toArray, List.set_cons_zero, List.set_cons_succ]; with_reducible rfl)))
  (with_reducible refine wpCan_isl ?_); apply wpCan_skip rfl (by rfl); (· go_simp; with_reducible rfl); (· try simp only [Act.put, List.setIfInBounds_toArray, List.set_cons_zero, List.set_cons_succ]; with_reducible rfl); (· intro o; go_simp)
  repeat ((with_reducible refine wpCan_isq ?_); first | (apply wpCan_read rfl (by rfl); (· intro w' hS; go_simp; with_reducible rfl); (· try simp only [Act.put, List.setIfInBounds_toArray, List.set_cons_zero, List.set_cons_succ]; with_reducible rfl)) | (apply wpCan_no rfl (by rfl); (· try simp only [Act.put, List.setIfInBounds_toArray, List.set_cons_zero, List.set_cons_succ]; with_reducible rfl)))
  refine wpCan_nil ?_
  go_wp2
  refine bodyPost_ret (v := .tuple #[.agg #[.int .i64 x.tag, .int .i64 x.k0, .int .i64 x.k1, .int .i64 x.k2, .int .i64 x.k3, .int .u64 x.a, .int .u64 x.b], .bool false]) ?_ rfl ⟨rfl, (by repeat (first | with_reducible exact Below.refl _ _ | with_reducible assumption | with_reducible refine bel_drewN ?_ | with_reducible refine bel_drew ?_ | with_reducible refine bel_alloc ?_ _ | with_reducible refine bel_set ?_ _ ?_ | with_reducible refine bel_trans ?_ (by with_reducible assumption) | ((try dsimp only); omega)))⟩
  simp [results, Tryz.results127, go_sem, *]
theorem listNode_calls (w : World) (p : Nat) (S : St) (h : Int) (H : Ar w p S) :
    Calls Tryz.prog 127 #[.pointer (some ⟨p, 0, none⟩), .int .i64 h] w fun e w' => e = .returned (.tuple #[.agg (S.node h).arr, .bool (S.lRow h)]) ∧ Below w.heap.size w w' := by
  have E : S.lRow h = (S.used h && (decide (0 < S.cnt h) && ((S.node h).tag == 4 || (S.node h).tag == 5))) := rfl
  rw [E]
  cases hu : S.used h with
  | false => simpa using listNode_unused w p S h H hu
  | true =>
    by_cases hc : 0 < S.cnt h
    · by_cases h1 : (S.node h).tag = 4
      · simpa [hc, h1] using listNode_leaf w p S h H hu hc h1
      · by_cases h2 : (S.node h).tag = 5
        · simpa [hc, h1, h2] using listNode_fork w p S h H hu hc h2
        · simpa [hc, beq_false_of_ne h1, beq_false_of_ne h2] using listNode_other w p S h H hu hc h1 h2
    · simpa [hc] using listNode_dead w p S h H hu hc
end Go.Proofs.YtngfalbabgpnnaaGreat

namespace Go.Proofs.YtngfalbabgpnnaaGreat
open Go.RowKit St

theorem lnode_zero (w : World) (p : Nat) (S : St) (H : Ar w p S) :
    Calls Tryz.prog 127 #[.pointer (some ⟨p, 0, none⟩), .int .i64 0] w fun e w' => e = .returned (.tuple #[.agg Nd.zero.arr, .bool false]) ∧ Below w.heap.size w w' := by
  have := listNode_calls w p S 0 H
  rw [(St.zero_free H.2).2.1, St.lRow_zero H.2] at this
  exact this
theorem lnode_item (w : World) (p : Nat) (S : St) (h : Int) (a b : Nat) (H : Ar w p S) (B : S.lt h (.item a b)) :
    Calls Tryz.prog 127 #[.pointer (some ⟨p, 0, none⟩), .int .i64 h] w fun e w' => e = .returned (.tuple #[.agg (itemNd a b).arr, .bool true]) ∧ Below w.heap.size w w' := by
  have := listNode_calls w p S h H
  rw [St.lRow_item B, B.2.1] at this
  exact this
theorem lnode_join (w : World) (p : Nat) (S : St) (h hx hy : Int) (x y : LT) (n : Nat) (H : Ar w p S) (B : S.lt h (.join x y)) (E : S.node h = joinNd hx hy n) :
    Calls Tryz.prog 127 #[.pointer (some ⟨p, 0, none⟩), .int .i64 h] w fun e w' => e = .returned (.tuple #[.agg (joinNd hx hy n).arr, .bool true]) ∧ Below w.heap.size w w' := by
  have := listNode_calls w p S h H
  rw [St.lRow_join B, E] at this
  exact this

set_option maxHeartbeats 1000000 in
theorem lLen_zero (w : World) (p : Nat) (S : St) (H : Ar w p S) :
    Calls Tryz.prog 89 #[.pointer (some ⟨p, 0, none⟩), .int .i64 0] w fun e w' => e = .returned (.int .i64 0) ∧ Below w.heap.size w w' := by
  have HG := fun w' (hb : Below w.heap.size w w') => lnode_zero w' p S (H.below hb)
  unfold Nd.zero Nd.arr at HG
  go_enter Tryz.func89, Tryz.ntmps89
  go_wp2_with fail
  refine (HG _ (by repeat (first | with_reducible exact Below.refl _ _ | with_reducible assumption | with_reducible refine bel_drewN ?_ | with_reducible refine bel_drew ?_ | with_reducible refine bel_alloc ?_ _ | with_reducible refine bel_set ?_ _ ?_ | with_reducible refine bel_trans ?_ (by with_reducible assumption) | ((try dsimp only); omega)))).mono ?_; rintro e w1 ⟨rfl, hb1⟩; obtain ⟨hc1, hf1⟩ := bcell hb1
  go_wp2
  go_ret
  exact ⟨rfl, (by repeat (first | with_reducible exact Below.refl _ _ | with_reducible assumption | with_reducible refine bel_drewN ?_ | with_reducible refine bel_drew ?_ | with_reducible refine bel_alloc ?_ _ | with_reducible refine bel_set ?_ _ ?_ | with_reducible refine bel_trans ?_ (by with_reducible assumption) | ((try dsimp only); omega)))⟩
set_option maxHeartbeats 1000000 in
theorem lLen_item (w : World) (p : Nat) (S : St) (h : Int) (a b : Nat) (H : Ar w p S) (B : S.lt h (.item a b)) :
    Calls Tryz.prog 89 #[.pointer (some ⟨p, 0, none⟩), .int .i64 h] w fun e w' => e = .returned (.int .i64 1) ∧ Below w.heap.size w w' := by
  have HG := fun w' (hb : Below w.heap.size w w') => lnode_item w' p S h a b (H.below hb) B
  clear B
  unfold itemNd Nd.arr at HG
  go_enter Tryz.func89, Tryz.ntmps89
  go_wp2_with fail
  refine (HG _ (by repeat (first | with_reducible exact Below.refl _ _ | with_reducible assumption | with_reducible refine bel_drewN ?_ | with_reducible refine bel_drew ?_ | with_reducible refine bel_alloc ?_ _ | with_reducible refine bel_set ?_ _ ?_ | with_reducible refine bel_trans ?_ (by with_reducible assumption) | ((try dsimp only); omega)))).mono ?_; rintro e w1 ⟨rfl, hb1⟩; obtain ⟨hc1, hf1⟩ := bcell hb1
  go_wp2
  go_ret
  exact ⟨rfl, (by repeat (first | with_reducible exact Below.refl _ _ | with_reducible assumption | with_reducible refine bel_drewN ?_ | with_reducible refine bel_drew ?_ | with_reducible refine bel_alloc ?_ _ | with_reducible refine bel_set ?_ _ ?_ | with_reducible refine bel_trans ?_ (by with_reducible assumption) | ((try dsimp only); omega)))⟩
set_option maxHeartbeats 1000000 in
theorem lLen_join (w : World) (p : Nat) (S : St) (h : Int) (x y : LT) (H : Ar w p S) (B : S.lt h (.join x y)) (hl : x.items.length + y.items.length < 9223372036854775808) :
    Calls Tryz.prog 89 #[.pointer (some ⟨p, 0, none⟩), .int .i64 h] w fun e w' => e = .returned (.int .i64 (x.items.length + y.items.length : Nat)) ∧ Below w.heap.size w w' := by
  obtain ⟨hx, hy, E, _⟩ := B.2
  have HG := fun w' (hb : Below w.heap.size w w') => lnode_join w' p S h hx hy x y _ (H.below hb) B E
  clear B E
  unfold joinNd Nd.arr at HG
  generalize x.items.length + y.items.length = n at *
  go_enter Tryz.func89, Tryz.ntmps89
  go_wp2_with fail
  refine (HG _ (by repeat (first | with_reducible exact Below.refl _ _ | with_reducible assumption | with_reducible refine bel_drewN ?_ | with_reducible refine bel_drew ?_ | with_reducible refine bel_alloc ?_ _ | with_reducible refine bel_set ?_ _ ?_ | with_reducible refine bel_trans ?_ (by with_reducible assumption) | ((try dsimp only); omega)))).mono ?_; rintro e w1 ⟨rfl, hb1⟩; obtain ⟨hc1, hf1⟩ := bcell hb1
  go_wp2
  go_ret
  exact ⟨by simp, (by repeat (first | with_reducible exact Below.refl _ _ | with_reducible assumption | with_reducible refine bel_drewN ?_ | with_reducible refine bel_drew ?_ | with_reducible refine bel_alloc ?_ _ | with_reducible refine bel_set ?_ _ ?_ | with_reducible refine bel_trans ?_ (by with_reducible assumption) | ((try dsimp only); omega)))⟩
theorem lLen_calls (w : World) (p : Nat) (S : St) (h : Int) (l : List (Nat × Nat)) (H : Ar w p S) (B : S.lr h l) (hl : l.length < 9223372036854775808) :
    Calls Tryz.prog 89 #[.pointer (some ⟨p, 0, none⟩), .int .i64 h] w fun e w' => e = .returned (.int .i64 (l.length : Nat)) ∧ Below w.heap.size w w' := by
  rcases B with ⟨rfl, rfl⟩ | ⟨t, h1, rfl⟩
  · exact lLen_zero w p S H
  · cases t with
    | item a b => exact lLen_item w p S h a b H h1
    | join x y =>
      simp only [LT.items, List.length_append] at hl ⊢
      exact lLen_join w p S h x y H h1 hl
theorem lrOf {S : St} {h : Int} {t : LT} (B : S.lt h t) : S.lr h t.items := Or.inr ⟨t, B, rfl⟩

set_option maxHeartbeats 1000000 in
theorem lkeep_calls (w : World) (p tb : Nat) (S : St) (e h : Int) (H : Ar w p S) (T : TreeAt w p tb e) :
    Calls Tryz.prog 96 #[.pointer (some ⟨tb, 0, none⟩), .int .i64 h] w fun r w' => r = .returned (.int .i64 h) ∧ Ar w' p (S.keep h) ∧ Fr [] p w w' := by
  have HK := Keep_calls w p S h H
  obtain ⟨c0, c1, fz, _⟩ := T
  go_enter Tryz.func96, Tryz.ntmps96
  go_wp2_with fail
  refine HK.mono ?_; rintro r w1 ⟨rfl, HA, F⟩
  go_wp2
  go_ret
  exact ⟨rfl, HA, F⟩

set_option maxHeartbeats 1000000 in
theorem lhigh_zero (w : World) (p tb : Nat) (S : St) (e : Int) (H : Ar w p S) (T : TreeAt w p tb e) :
    Calls Tryz.prog 129 #[.pointer (some ⟨tb, 0, none⟩), .int .i64 0] w fun o w' => o = .returned (.int .i64 0) ∧ Below w.heap.size w w' := by
  have HG := fun w' (hb : Below w.heap.size w w') => lnode_zero w' p S (H.below hb)
  unfold Nd.zero Nd.arr at HG
  obtain ⟨d0, d1, dz, dl, _⟩ := T
  go_enter Tryz.func129, Tryz.ntmps129
  go_wp2_with fail
  refine (HG _ (by repeat (first | with_reducible exact Below.refl _ _ | with_reducible assumption | with_reducible refine bel_drewN ?_ | with_reducible refine bel_drew ?_ | with_reducible refine bel_alloc ?_ _ | with_reducible refine bel_set ?_ _ ?_ | with_reducible refine bel_trans ?_ (by with_reducible assumption) | ((try dsimp only); omega)))).mono ?_; rintro e w1 ⟨rfl, hb1⟩; obtain ⟨hc1, hf1⟩ := bcell hb1
  go_wp2
  go_ret
  exact ⟨rfl, (by repeat (first | with_reducible exact Below.refl _ _ | with_reducible assumption | with_reducible refine bel_drewN ?_ | with_reducible refine bel_drew ?_ | with_reducible refine bel_alloc ?_ _ | with_reducible refine bel_set ?_ _ ?_ | with_reducible refine bel_trans ?_ (by with_reducible assumption) | ((try dsimp only); omega)))⟩
set_option maxHeartbeats 1000000 in
theorem lhigh_item (w : World) (p tb : Nat) (S : St) (e h : Int) (a b : Nat) (H : Ar w p S) (T : TreeAt w p tb e) (B : S.lt h (.item a b)) :
    Calls Tryz.prog 129 #[.pointer (some ⟨tb, 0, none⟩), .int .i64 h] w fun o w' => o = .returned (.int .i64 1) ∧ Below w.heap.size w w' := by
  have HG := fun w' (hb : Below w.heap.size w w') => lnode_item w' p S h a b (H.below hb) B
  clear B
  unfold itemNd Nd.arr at HG
  obtain ⟨d0, d1, dz, dl, _⟩ := T
  go_enter Tryz.func129, Tryz.ntmps129
  go_wp2_with fail
  refine (HG _ (by repeat (first | with_reducible exact Below.refl _ _ | with_reducible assumption | with_reducible refine bel_drewN ?_ | with_reducible refine bel_drew ?_ | with_reducible refine bel_alloc ?_ _ | with_reducible refine bel_set ?_ _ ?_ | with_reducible refine bel_trans ?_ (by with_reducible assumption) | ((try dsimp only); omega)))).mono ?_; rintro e w1 ⟨rfl, hb1⟩; obtain ⟨hc1, hf1⟩ := bcell hb1
  go_wp2
  go_ret
  exact ⟨rfl, (by repeat (first | with_reducible exact Below.refl _ _ | with_reducible assumption | with_reducible refine bel_drewN ?_ | with_reducible refine bel_drew ?_ | with_reducible refine bel_alloc ?_ _ | with_reducible refine bel_set ?_ _ ?_ | with_reducible refine bel_trans ?_ (by with_reducible assumption) | ((try dsimp only); omega)))⟩
set_option maxHeartbeats 2000000 in
set_option maxRecDepth 100000 in
theorem lhigh_join (w : World) (p tb : Nat) (S : St) (e h hx hy : Int) (x y : LT) (n : Nat) (H : Ar w p S) (T : TreeAt w p tb e) (B : S.lt h (.join x y)) (E : S.node h = joinNd hx hy n)
    (hX : ∀ w' (_ : Ar w' p S) (_ : TreeAt w' p tb e), Calls Tryz.prog 129 #[.pointer (some ⟨tb, 0, none⟩), .int .i64 hx] w' fun o w'' => o = .returned (.int .i64 (x.high : Nat)) ∧ Below w'.heap.size w' w'')
    (hY : ∀ w' (_ : Ar w' p S) (_ : TreeAt w' p tb e), Calls Tryz.prog 129 #[.pointer (some ⟨tb, 0, none⟩), .int .i64 hy] w' fun o w'' => o = .returned (.int .i64 (y.high : Nat)) ∧ Below w'.heap.size w' w'')
    (hs : x.high + y.high < 1000000) :
    Calls Tryz.prog 129 #[.pointer (some ⟨tb, 0, none⟩), .int .i64 h] w fun o w' => o = .returned (.int .i64 ((LT.join x y).high : Nat)) ∧ Below w.heap.size w w' := by
  have hT := T
  have HG := fun w' (hb : Below w.heap.size w w') => lnode_join w' p S h hx hy x y n (H.below hb) B E
  unfold joinNd Nd.arr at HG
  have fin : ((LT.join x y).high : Int) = 1 + max (x.high : Int) (y.high : Int) := by simp only [LT.high]; omega
  rw [fin]
  have v1 : IntKind.i64.wrap (1 + (x.high : Int)) = 1 + (x.high : Int) := by simp [IntKind.wrap, IntKind.bits, IntKind.signed]; omega
  have v2 : IntKind.i64.wrap (1 + (y.high : Int)) = 1 + (y.high : Int) := by simp [IntKind.wrap, IntKind.bits, IntKind.signed]; omega
  clear fin E B
  generalize x.high = a at *
  generalize y.high = b at *
  obtain ⟨d0, d1, dz, dl, _⟩ := T
  go_enter Tryz.func129, Tryz.ntmps129
  go_wp2_with fail
  refine (HG _ (by repeat (first | with_reducible exact Below.refl _ _ | with_reducible assumption | with_reducible refine bel_drewN ?_ | with_reducible refine bel_drew ?_ | with_reducible refine bel_alloc ?_ _ | with_reducible refine bel_set ?_ _ ?_ | with_reducible refine bel_trans ?_ (by with_reducible assumption) | ((try dsimp only); omega)))).mono ?_; rintro e1 w1 ⟨rfl, hb1⟩; obtain ⟨hc1, hf1⟩ := bcell hb1
  go_wp2
  generalize hW : w1.alloc _ = W
  have l0 : W.cell? ⟨w1.heap.size, 0, none⟩ = some (.int .i64 5) := (by subst hW; go_simp); have l1 : W.cell? ⟨w1.heap.size, 1, none⟩ = some (.int .i64 hx) := (by subst hW; go_simp); have l2 : W.cell? ⟨w1.heap.size, 2, none⟩ = some (.int .i64 hy) := (by subst hW; go_simp); have l3 : W.cell? ⟨w1.heap.size, 3, none⟩ = some (.int .i64 0) := (by subst hW; go_simp); have l4 : W.cell? ⟨w1.heap.size, 4, none⟩ = some (.int .i64 0) := (by subst hW; go_simp); have l5 : W.cell? ⟨w1.heap.size, 5, none⟩ = some (.int .u64 n) := (by subst hW; go_simp); have l6 : W.cell? ⟨w1.heap.size, 6, none⟩ = some (.int .u64 0) := (by subst hW; go_simp)
  have hbW : Below w.heap.size w W := by subst hW; exact (by repeat (first | with_reducible exact Below.refl _ _ | with_reducible assumption | with_reducible refine bel_drewN ?_ | with_reducible refine bel_drew ?_ | with_reducible refine bel_alloc ?_ _ | with_reducible refine bel_set ?_ _ ?_ | with_reducible refine bel_trans ?_ (by with_reducible assumption) | ((try dsimp only); omega)))
  have sz : w1.heap.size < W.heap.size := by subst hW; simp
  clear hW hc1 hf1 hb1
  refine wp_region_can (fun w' => ∀ o, w'.cell? ⟨w1.heap.size, o, none⟩ = W.cell? ⟨w1.heap.size, o, none⟩) [(0, false), (1, false), (2, false), (3, false), (5, false), (6, false), (7, false), (8, false), (4, true), (9, true), (10, false), (11, false), (12, false)] (by kernel_rfl) (by kernel_rfl) (fun _ d _ _ _ h => by cases d <;> exact h) ?_ ?_
  · exact fun _ => rfl
  repeat ((with_reducible refine wpCan_isq ?_); first | (apply wpCan_read rfl (by rfl); (· intro w' hS; go_simp; with_reducible rfl); (· try simp only [Act.put, List.setIfInBounds_toArray, List.set_cons_zero, List.set_cons_succ]; with_reducible rfl)) | (apply wpCan_no rfl (by rfl); (· try simp only [Act.put, List.setIfInBounds_toArray, List.set_cons_zero, List.set_cons_succ]; with_reducible rfl)))
  (with_reducible refine wpCan_isl ?_); apply wpCan_call (hX _ (H.below (bel_drew hbW)) (hT.below H (bel_drew hbW))) rfl (by rfl); (· go_simp); rintro o a1 ⟨rfl, ha1⟩; apply wpCan_told; (· exact fun o => ha1.cell sz); (· try simp only [Act.put, List.setIfInBounds_toArray, List.set_cons_zero, List.set_cons_succ]; with_reducible rfl)
  have Ha1 : Below w.heap.size w a1 := bel_trans (bel_drew hbW) ha1
  (with_reducible refine wpCan_isl ?_); apply wpCan_call (hY _ (H.below Ha1) (hT.below H Ha1)) rfl (by rfl); (· go_simp); rintro o b1 ⟨rfl, hb1⟩; apply wpCan_told; (· exact fun o => (hb1.cell (Nat.lt_of_lt_of_le sz ha1.size)).trans (ha1.cell sz)); (· try simp only [Act.put, List.setIfInBounds_toArray, List.set_cons_zero, List.set_cons_succ]; with_reducible rfl)
  repeat ((with_reducible refine wpCan_isq ?_); first | (apply wpCan_read rfl (by rfl); (· intro w' hS; go_simp; with_reducible rfl); (· try simp only [Act.put, List.setIfInBounds_toArray, List.set_cons_zero, List.set_cons_succ]; with_reducible rfl)) | (apply wpCan_no rfl (by rfl); (· try simp only [Act.put, List.setIfInBounds_toArray, List.set_cons_zero, List.set_cons_succ]; with_reducible rfl)))
  refine wpCan_nil ?_
  go_wp2
  · go_ret
    exact ⟨congrArg (fun z => Ending.returned (.int .i64 z)) (show (1 + (b : Int)) = 1 + max (a : Int) (b : Int) by omega), bel_trans Ha1 hb1⟩
  · go_ret
    exact ⟨congrArg (fun z => Ending.returned (.int .i64 z)) (show (1 + (a : Int)) = 1 + max (a : Int) (b : Int) by omega), bel_trans Ha1 hb1⟩

theorem lhigh_calls (p tb : Nat) (S : St) (e : Int) : ∀ (t : LT) (h : Int) (w : World), Ar w p S → TreeAt w p tb e → S.lt h t → t.items.length < 1000000 →
    Calls Tryz.prog 129 #[.pointer (some ⟨tb, 0, none⟩), .int .i64 h] w fun o w' => o = .returned (.int .i64 (t.high : Nat)) ∧ Below w.heap.size w w'
  | .item a b, h, w, H, T, B, _ => lhigh_item w p tb S e h a b H T B
  | .join x y, h, w, H, T, B, hl => by
    obtain ⟨hx, hy, E, bx, by'⟩ := B.2
    simp only [LT.items, List.length_append] at hl
    have := x.high_le
    have := y.high_le
    exact lhigh_join w p tb S e h hx hy x y _ H T B E (fun w' H' T' => lhigh_calls p tb S e x hx w' H' T' bx (by omega)) (fun w' H' T' => lhigh_calls p tb S e y hy w' H' T' by' (by omega)) (by omega)

set_option maxHeartbeats 2000000 in
set_option maxRecDepth 100000 in
theorem lopen_calls (w : World) (p tb : Nat) (S : St) (f : Int → Nat) (e h : Int) (x y : LT) (H : Ar w p S) (T : TreeAt w p tb e) (I : S.Inv (more h f)) (sl : slack f 4) (B : S.lt h (.join x y)) :
    Calls Tryz.prog 130 #[.pointer (some ⟨tb, 0, none⟩), .int .i64 h] w fun o w' => ∃ S' hx hy, o = .returned (.tuple #[.int .i64 hx, .int .i64 hy]) ∧ Ar w' p S' ∧ TreeAt w' p tb e ∧ Fr [] p w w' ∧
      S'.Inv (more hx (more hy f)) ∧ Grow S S' ∧ S'.usedN = S.usedN ∧ S'.lt hx x ∧ S'.lt hy y := by
  have hT := T
  obtain ⟨hx, hy, E, bx, by'⟩ := B.2
  have HG := fun w' (hb : Below w.heap.size w w') => lnode_join w' p S h hx hy x y _ (H.below hb) B E
  have fin : (((S.keep hx).keep hy).drop h).Inv (more hx (more hy f)) ∧ Grow S (((S.keep hx).keep hy).drop h) ∧ (((S.keep hx).keep hy).drop h).usedN = S.usedN ∧ (((S.keep hx).keep hy).drop h).lt hx x ∧ (((S.keep hx).keep hy).drop h).lt hy y := by
    have i1 := (I.keep bx.live (by have := sl hx; simp only [more]; split <;> omega)).1
    have l2 : (S.keep hx).live hy := by
      have y0 := (live.ne H.2 by'.live).1
      exact i1.kid_pos (g := h) (by rw [keep_used]; exact B.1.1) (by omega) (by rw [keep_node, E]; exact kc_pos.2 (by simp [joinNd]))
    have i2 := (i1.keep l2 (by have := sl hy; simp only [more]; split <;> split <;> omega)).1
    rw [more_comm hy hx, more_comm hy h, more_comm hx h] at i2
    have i3 := i2.drop
    have g : Grow S (((S.keep hx).keep hy).drop h) := ((Grow.keep S hx).trans (Grow.keep _ hy)).trans (Grow.drop _ h)
    have x0 := (live.ne H.2 bx.live).1
    have y0 := (live.ne H.2 by'.live).1
    refine ⟨i3, g, ?_, lt_kp g.keeps I i3 (i3.held_pos (by omega) (by simp only [more]; simp)) bx, lt_kp g.keeps I i3 (i3.held_pos (by omega) (by rw [more_comm hx hy, more_self]; omega)) by'⟩
    rw [Inv.usedN_congr (drop_n _ _) (drop_used _ _), Inv.usedN_congr (keep_n _ _) (keep_used _ _), Inv.usedN_congr (keep_n _ _) (keep_used _ _)]
  have fin := hid fin
  unfold joinNd Nd.arr at HG
  generalize x.items.length + y.items.length = n at *
  clear B E bx by' I
  obtain ⟨d0, d1, dz, dl, _⟩ := T
  go_enter Tryz.func130, Tryz.ntmps130
  go_wp2_with fail
  refine (HG _ (by repeat (first | with_reducible exact Below.refl _ _ | with_reducible assumption | with_reducible refine bel_drewN ?_ | with_reducible refine bel_drew ?_ | with_reducible refine bel_alloc ?_ _ | with_reducible refine bel_set ?_ _ ?_ | with_reducible refine bel_trans ?_ (by with_reducible assumption) | ((try dsimp only); omega)))).mono ?_; rintro e1 w1 ⟨rfl, hb1⟩; obtain ⟨hc1, hf1⟩ := bcell hb1
  go_wp2
  generalize hW : w1.alloc _ = W
  have l0 : W.cell? ⟨w1.heap.size, 0, none⟩ = some (.int .i64 5) := (by subst hW; go_simp); have l1 : W.cell? ⟨w1.heap.size, 1, none⟩ = some (.int .i64 hx) := (by subst hW; go_simp); have l2 : W.cell? ⟨w1.heap.size, 2, none⟩ = some (.int .i64 hy) := (by subst hW; go_simp); have l3 : W.cell? ⟨w1.heap.size, 3, none⟩ = some (.int .i64 0) := (by subst hW; go_simp); have l4 : W.cell? ⟨w1.heap.size, 4, none⟩ = some (.int .i64 0) := (by subst hW; go_simp); have l5 : W.cell? ⟨w1.heap.size, 5, none⟩ = some (.int .u64 n) := (by subst hW; go_simp); have l6 : W.cell? ⟨w1.heap.size, 6, none⟩ = some (.int .u64 0) := (by subst hW; go_simp)
  have hbW : Below w.heap.size w W := by subst hW; exact (by repeat (first | with_reducible exact Below.refl _ _ | with_reducible assumption | with_reducible refine bel_drewN ?_ | with_reducible refine bel_drew ?_ | with_reducible refine bel_alloc ?_ _ | with_reducible refine bel_set ?_ _ ?_ | with_reducible refine bel_trans ?_ (by with_reducible assumption) | ((try dsimp only); omega)))
  have LW : Loc p W w1.heap.size := by subst hW; exact Loc.new (H.below hb1) _
  have HW := H.below hbW
  have TW := hT.below H hbW
  have FW : Fr [] p w W := Fr.of_below H hbW
  clear hW hc1 hf1
  refine wp_region_can (fun w' => ∀ o, w'.cell? ⟨w1.heap.size, o, none⟩ = W.cell? ⟨w1.heap.size, o, none⟩) [(0, false), (1, false), (2, false), (3, false), (5, false), (6, false), (7, false), (8, false), (4, true), (9, true), (10, false), (11, false)] (by kernel_rfl) (by kernel_rfl) (fun _ d _ _ _ h => by cases d <;> exact h) ?_ ?_
  · exact fun _ => rfl
  repeat ((with_reducible refine wpCan_isq ?_); first | (apply wpCan_read rfl (by rfl); (· intro w' hS; go_simp; with_reducible rfl); (· try simp only [Act.put, List.setIfInBounds_toArray, List.set_cons_zero, List.set_cons_succ]; with_reducible rfl)) | (apply wpCan_no rfl (by rfl); (· try simp only [Act.put, List.setIfInBounds_toArray, List.set_cons_zero, List.set_cons_succ]; with_reducible rfl)))
  (with_reducible refine wpCan_isl ?_); apply wpCan_call (lkeep_calls _ p tb S e hx HW.drew (hT.below H (bel_drew hbW))) rfl (by rfl); (· go_simp); rintro o w2 ⟨rfl, H2, F2⟩; apply wpCan_told; (· exact fun o => World.cell?_of_block (a := ⟨w1.heap.size, o, none⟩) (F2.loc LW.drew (by simp)).2); (· try simp only [Act.put, List.setIfInBounds_toArray, List.set_cons_zero, List.set_cons_succ]; with_reducible rfl)
  have T2 := (hT.below H (bel_drew hbW)).fr F2
  have L2 := F2.loc LW.drew (by simp)
  (with_reducible refine wpCan_isl ?_); apply wpCan_call (lkeep_calls _ p tb _ e hy H2 T2) rfl (by rfl); (· go_simp); rintro o w3 ⟨rfl, H3, F3⟩; apply wpCan_told; (· exact fun o => (World.cell?_of_block (a := ⟨w1.heap.size, o, none⟩) (F3.loc L2.1 (by simp)).2).trans (World.cell?_of_block (a := ⟨w1.heap.size, o, none⟩) L2.2)); (· try simp only [Act.put, List.setIfInBounds_toArray, List.set_cons_zero, List.set_cons_succ]; with_reducible rfl)
  have T3 := T2.fr F3
  repeat ((with_reducible refine wpCan_isq ?_); first | (apply wpCan_read rfl (by rfl); (· intro w' hS; go_simp; with_reducible rfl); (· try simp only [Act.put, List.setIfInBounds_toArray, List.set_cons_zero, List.set_cons_succ]; with_reducible rfl)) | (apply wpCan_no rfl (by rfl); (· try simp only [Act.put, List.setIfInBounds_toArray, List.set_cons_zero, List.set_cons_succ]; with_reducible rfl)))
  refine wpCan_nil ?_
  have c30 := T3.c0
  go_wp2_with fail
  refine (Drop_calls w3 p _ h H3).mono ?_
  rintro o w4 ⟨rfl, H4, F4⟩
  go_wp2
  go_ret2
  exact ⟨_, _, _, rfl, H4, T3.fr F4, ((FW.drew.trans F2).trans F3).trans F4, fin.out⟩

end Go.Proofs.YtngfalbabgpnnaaGreat
