/-
  The walks of package list: node, item, pair.
  The walks of package list: join.
  The walks of package list: join, the left one too high.
-/
import Derived.Test.YtngfalbabgpnnaaGreatM8
import Derived.Test.YtngfalbabgpnnaaGreatM11
set_option linter.unusedVariables false
set_option linter.unusedSimpArgs false
namespace Go.Proofs.YtngfalbabgpnnaaGreat
open Go.RowKit St

theorem Fr.drewL {X : List Nat} {p : Nat} {w w' : World} (F : Fr X p w.drew w') : Fr X p w w' := (Fr.refl X p w).drew.trans F

set_option maxHeartbeats 4000000 in
set_option maxRecDepth 100000 in
theorem ltnode_err (w : World) (p tb : Nat) (S : St) (e : Int) (x : Nd) (H : Ar w p S) (T : TreeAt w p tb e) (he : e ≠ 0) :
    Calls Tryz.prog 128 #[.pointer (some ⟨tb, 0, none⟩), .agg x.arr] w fun r w' => r = .returned (.int .i64 0) ∧ Ar w' p ((S.drop x.k0).drop x.k1) ∧ Fr [] p w w' := by
  have hT := T
  obtain ⟨c0, c1, fz, lt, _⟩ := T
  have hee : (e == 0) = false := by simp [he]
  unfold Nd.arr
  go_enter Tryz.func128, Tryz.ntmps128
  go_wp2
  generalize hW : w.alloc _ = W
  have l0 : W.cell? ⟨w.heap.size, 0, none⟩ = some (.int .i64 x.tag) := (by subst hW; go_simp); have l1 : W.cell? ⟨w.heap.size, 1, none⟩ = some (.int .i64 x.k0) := (by subst hW; go_simp); have l2 : W.cell? ⟨w.heap.size, 2, none⟩ = some (.int .i64 x.k1) := (by subst hW; go_simp); have l3 : W.cell? ⟨w.heap.size, 3, none⟩ = some (.int .i64 x.k2) := (by subst hW; go_simp); have l4 : W.cell? ⟨w.heap.size, 4, none⟩ = some (.int .i64 x.k3) := (by subst hW; go_simp); have l5 : W.cell? ⟨w.heap.size, 5, none⟩ = some (.int .u64 x.a) := (by subst hW; go_simp); have l6 : W.cell? ⟨w.heap.size, 6, none⟩ = some (.int .u64 x.b) := (by subst hW; go_simp)
  have hbW : Below w.heap.size w W := by subst hW; exact (by repeat (first | with_reducible exact Below.refl _ _ | with_reducible assumption | with_reducible refine bel_drewN ?_ | with_reducible refine bel_drew ?_ | with_reducible refine bel_alloc ?_ _ | with_reducible refine bel_set ?_ _ ?_ | with_reducible refine bel_trans ?_ (by with_reducible assumption) | ((try dsimp only); omega)))
  have A3 : Ar W p S := by subst hW; exact H.alloc _
  have T3 : TreeAt W p tb e := hT.below H hbW
  have L3 : Loc p W w.heap.size := by subst hW; exact Loc.new H _
  have F3 : Fr [] p w W := Fr.of_below H hbW
  have hc2 : ∀ o, W.cell? ⟨w.heap.size, o, none⟩ = W.cell? ⟨w.heap.size, o, none⟩ := fun _ => rfl
  have d0 := T3.c0
  clear hW c0 c1 fz

  refine wp_region_can (fun w' => w'.cell? ⟨tb, 0, none⟩ = some (.pointer (some ⟨p, 0, none⟩)) ∧ ∀ o, w'.cell? ⟨w.heap.size, o, none⟩ = W.cell? ⟨w.heap.size, o, none⟩) [(0, false), (1, false), (2, false), (3, false), (4, false), (5, false), (6, false), (7, true)] (by kernel_rfl) (by kernel_rfl) (fun _ d _ _ _ h => by cases d <;> exact h) ?_ ?_
  · exact ⟨T3.c0, hc2⟩
  repeat ((with_reducible refine wpCan_isq ?_); first | (apply wpCan_read rfl (by rfl); (· intro w' hS; go_simp; with_reducible rfl); (· try simp only [Act.put, List.setIfInBounds_toArray, List.set_cons_zero, List.set_cons_succ]; with_reducible rfl)) | (apply wpCan_no rfl (by rfl); (· try simp only [Act.put, List.setIfInBounds_toArray, List.set_cons_zero, List.set_cons_succ]; with_reducible rfl)))
  (with_reducible refine wpCan_isl ?_); apply wpCan_call (Drop_calls _ p _ x.k0 A3.drew) rfl (by rfl); (· go_simp); rintro r w4 ⟨rfl, H4, F4⟩; apply wpCan_told; (· exact ⟨(T3.fr F4.drewL).c0, fun o => (World.cell?_of_block (a := ⟨w.heap.size, o, none⟩) (F4.loc L3.drew (by simp)).2).trans (hc2 o)⟩); (· try simp only [Act.put, List.setIfInBounds_toArray, List.set_cons_zero, List.set_cons_succ]; with_reducible rfl)
  refine wpCan_nil ?_
  have T4 := T3.fr F4.drewL
  have L4 := F4.loc L3.drew (by simp)
  have hc4 : ∀ o, w4.cell? ⟨w.heap.size, o, none⟩ = W.cell? ⟨w.heap.size, o, none⟩ := fun o => (World.cell?_of_block (a := ⟨w.heap.size, o, none⟩) L4.2).trans (hc2 o)
  have t40 := T4.c0
  have n41 := (hc4 1).trans l1
  have n42 := (hc4 2).trans l2
  clear hc2
  go_wp2
  refine wp_region_can (fun w' => w'.cell? ⟨tb, 0, none⟩ = some (.pointer (some ⟨p, 0, none⟩)) ∧ ∀ o, w'.cell? ⟨w.heap.size, o, none⟩ = W.cell? ⟨w.heap.size, o, none⟩) [(0, false), (1, false), (2, false), (3, false), (4, false), (5, false), (6, false), (7, true)] (by kernel_rfl) (by kernel_rfl) (fun _ d _ _ _ h => by cases d <;> exact h) ?_ ?_
  · exact ⟨T4.c0, hc4⟩
  repeat ((with_reducible refine wpCan_isq ?_); first | (apply wpCan_read rfl (by rfl); (· intro w' hS; go_simp; with_reducible rfl); (· try simp only [Act.put, List.setIfInBounds_toArray, List.set_cons_zero, List.set_cons_succ]; with_reducible rfl)) | (apply wpCan_no rfl (by rfl); (· try simp only [Act.put, List.setIfInBounds_toArray, List.set_cons_zero, List.set_cons_succ]; with_reducible rfl)))
  (with_reducible refine wpCan_isl ?_); apply wpCan_call (Drop_calls _ p _ x.k1 H4.drew) rfl (by rfl); (· go_simp); rintro r w5 ⟨rfl, H5, F5⟩; apply wpCan_told; (· exact ⟨(T4.fr F5.drewL).c0, fun o => (World.cell?_of_block (a := ⟨w.heap.size, o, none⟩) (F5.loc L4.1.drew (by simp)).2).trans (hc4 o)⟩); (· try simp only [Act.put, List.setIfInBounds_toArray, List.set_cons_zero, List.set_cons_succ]; with_reducible rfl)
  refine wpCan_nil ?_
  have T5 := T4.fr F5.drewL
  go_wp2
  go_ret
  exact ⟨rfl, H5, (F3.trans F4.drewL).trans F5.drewL⟩

set_option maxHeartbeats 4000000 in
set_option maxRecDepth 100000 in
theorem ltnode_ok (w : World) (p tb : Nat) (S : St) (x : Nd) (H : Ar w p S) (T : TreeAt w p tb 0) :
    Calls Tryz.prog 128 #[.pointer (some ⟨tb, 0, none⟩), .agg x.arr] w fun r w' => r = .returned (.int .i64 (S.make x).1) ∧ Ar w' p (((S.make x).2.2.drop x.k0).drop x.k1) ∧ TreeAt w' p tb (S.make x).2.1 ∧ Fr [tb] p w w' := by
  have hT := T
  obtain ⟨c0, c1, fz, lt, _⟩ := T
  have HM := fun w' (h : Ar w' p S) => Make_calls w' p S x h
  unfold Nd.arr at HM ⊢
  generalize S.make x = R at *
  obtain ⟨rr, ee, S1⟩ := R
  simp only at HM ⊢
  go_enter Tryz.func128, Tryz.ntmps128
  go_wp2
  generalize hW : w.alloc _ = W
  have l0 : W.cell? ⟨w.heap.size, 0, none⟩ = some (.int .i64 x.tag) := (by subst hW; go_simp); have l1 : W.cell? ⟨w.heap.size, 1, none⟩ = some (.int .i64 x.k0) := (by subst hW; go_simp); have l2 : W.cell? ⟨w.heap.size, 2, none⟩ = some (.int .i64 x.k1) := (by subst hW; go_simp); have l3 : W.cell? ⟨w.heap.size, 3, none⟩ = some (.int .i64 x.k2) := (by subst hW; go_simp); have l4 : W.cell? ⟨w.heap.size, 4, none⟩ = some (.int .i64 x.k3) := (by subst hW; go_simp); have l5 : W.cell? ⟨w.heap.size, 5, none⟩ = some (.int .u64 x.a) := (by subst hW; go_simp); have l6 : W.cell? ⟨w.heap.size, 6, none⟩ = some (.int .u64 x.b) := (by subst hW; go_simp)
  have hbW : Below w.heap.size w W := by subst hW; exact (by repeat (first | with_reducible exact Below.refl _ _ | with_reducible assumption | with_reducible refine bel_drewN ?_ | with_reducible refine bel_drew ?_ | with_reducible refine bel_alloc ?_ _ | with_reducible refine bel_set ?_ _ ?_ | with_reducible refine bel_trans ?_ (by with_reducible assumption) | ((try dsimp only); omega)))
  have HW : Ar W p S := by subst hW; exact H.alloc _
  have TW : TreeAt W p tb 0 := hT.below H hbW
  have LW : Loc p W w.heap.size := by subst hW; exact Loc.new H _
  have FW : Fr [] p w W := Fr.of_below H hbW
  clear hW
  refine wp_region_can (fun w' => w'.cell? ⟨tb, 0, none⟩ = some (.pointer (some ⟨p, 0, none⟩)) ∧ ∀ o, w'.cell? ⟨w.heap.size, o, none⟩ = W.cell? ⟨w.heap.size, o, none⟩) [(0, false), (1, false), (2, false), (3, false), (4, false), (5, false), (6, true), (7, false), (8, false), (9, false), (10, false), (11, false), (12, false), (13, true)] (by kernel_rfl) (by kernel_rfl) (fun _ d _ _ _ h => by cases d <;> exact h) ?_ ?_
  · exact ⟨TW.c0, fun _ => rfl⟩
  repeat ((with_reducible refine wpCan_isq ?_); first | (apply wpCan_read rfl (by rfl); (· intro w' hS; go_simp; with_reducible rfl); (· try simp only [Act.put, List.setIfInBounds_toArray, List.set_cons_zero, List.set_cons_succ]; with_reducible rfl)) | (apply wpCan_no rfl (by rfl); (· try simp only [Act.put, List.setIfInBounds_toArray, List.set_cons_zero, List.set_cons_succ]; with_reducible rfl)))
  have TD : TreeAt W.drew p tb 0 := TW.below HW (by repeat (first | with_reducible exact Below.refl _ _ | with_reducible assumption | with_reducible refine bel_drewN ?_ | with_reducible refine bel_drew ?_ | with_reducible refine bel_alloc ?_ _ | with_reducible refine bel_set ?_ _ ?_ | with_reducible refine bel_trans ?_ (by with_reducible assumption) | ((try dsimp only); omega)))
  (with_reducible refine wpCan_isl ?_); apply wpCan_call (HM _ HW.drew) rfl (by rfl); (· go_simp); rintro r w2 ⟨rfl, HA, F2⟩; apply wpCan_told; (· exact ⟨(TD.fr F2).c0, fun o => World.cell?_of_block (a := ⟨w.heap.size, o, none⟩) (F2.loc LW (by simp)).2⟩); (· try simp only [Act.put, List.setIfInBounds_toArray, List.set_cons_zero, List.set_cons_succ]; with_reducible rfl)
  have T2 := TD.fr F2
  have L2 := F2.loc LW.drew (by simp)
  obtain ⟨d0, d1, dz, dl⟩ := T2
  repeat ((with_reducible refine wpCan_isq ?_); first | (apply wpCan_read rfl (by rfl); (· intro w' hS; go_simp; with_reducible rfl); (· try simp only [Act.put, List.setIfInBounds_toArray, List.set_cons_zero, List.set_cons_succ]; with_reducible rfl)) | (apply wpCan_no rfl (by rfl); (· try simp only [Act.put, List.setIfInBounds_toArray, List.set_cons_zero, List.set_cons_succ]; with_reducible rfl)))
  have T2 : TreeAt w2 p tb 0 := ⟨d0, d1, dz, dl⟩
  have ntb : w.heap.size ≠ tb := fun h => by have := hT.loc.1; omega
  have hc2 : ∀ o, (w2.setCell ⟨tb, 1, none⟩ (.int .i64 ee)).cell? ⟨w.heap.size, o, none⟩ = W.cell? ⟨w.heap.size, o, none⟩ := fun o => by
    rw [World.cell?_setCell_other _ _ _ _ (fun h => ntb (Addr.mk.inj h).1.symm)]
    exact World.cell?_of_block (a := ⟨w.heap.size, o, none⟩) L2.2
  (with_reducible refine wpCan_isl ?_); apply wpCan_skip rfl (by rfl); (· go_simp; with_reducible rfl); (· try simp only [Act.put, List.setIfInBounds_toArray, List.set_cons_zero, List.set_cons_succ]; with_reducible rfl); (· exact ⟨(T2.set _).c0, hc2⟩)
  refine wpCan_nil ?_
  have T3 := T2.set ee
  have A3 := HA.setTree T2 ee
  have F3 := Fr.setTree T2 ee
  have L3 := L2.1.setCell (a := ⟨tb, 1, none⟩) (.int .i64 ee) dl.ne
  generalize w2.setCell _ _ = w3 at *
  clear T2 L2 d0 d1 dz
  have d0 := T3.c0
  have n31 := (hc2 1).trans l1
  clear c0 c1 fz
  go_wp2

  refine wp_region_can (fun w' => w'.cell? ⟨tb, 0, none⟩ = some (.pointer (some ⟨p, 0, none⟩)) ∧ ∀ o, w'.cell? ⟨w.heap.size, o, none⟩ = W.cell? ⟨w.heap.size, o, none⟩) [(0, false), (1, false), (2, false), (3, false), (4, false), (5, false), (6, false), (7, true)] (by kernel_rfl) (by kernel_rfl) (fun _ d _ _ _ h => by cases d <;> exact h) ?_ ?_
  · exact ⟨T3.c0, hc2⟩
  repeat ((with_reducible refine wpCan_isq ?_); first | (apply wpCan_read rfl (by rfl); (· intro w' hS; go_simp; with_reducible rfl); (· try simp only [Act.put, List.setIfInBounds_toArray, List.set_cons_zero, List.set_cons_succ]; with_reducible rfl)) | (apply wpCan_no rfl (by rfl); (· try simp only [Act.put, List.setIfInBounds_toArray, List.set_cons_zero, List.set_cons_succ]; with_reducible rfl)))
  (with_reducible refine wpCan_isl ?_); apply wpCan_call (Drop_calls _ p _ x.k0 A3.drew) rfl (by rfl); (· go_simp); rintro r w4 ⟨rfl, H4, F4⟩; apply wpCan_told; (· exact ⟨(T3.fr F4.drewL).c0, fun o => (World.cell?_of_block (a := ⟨w.heap.size, o, none⟩) (F4.loc L3.drew (by simp)).2).trans (hc2 o)⟩); (· try simp only [Act.put, List.setIfInBounds_toArray, List.set_cons_zero, List.set_cons_succ]; with_reducible rfl)
  refine wpCan_nil ?_
  have T4 := T3.fr F4.drewL
  have L4 := F4.loc L3.drew (by simp)
  have hc4 : ∀ o, w4.cell? ⟨w.heap.size, o, none⟩ = W.cell? ⟨w.heap.size, o, none⟩ := fun o => (World.cell?_of_block (a := ⟨w.heap.size, o, none⟩) L4.2).trans (hc2 o)
  have t40 := T4.c0
  have n41 := (hc4 1).trans l1
  have n42 := (hc4 2).trans l2
  clear hc2
  go_wp2
  refine wp_region_can (fun w' => w'.cell? ⟨tb, 0, none⟩ = some (.pointer (some ⟨p, 0, none⟩)) ∧ ∀ o, w'.cell? ⟨w.heap.size, o, none⟩ = W.cell? ⟨w.heap.size, o, none⟩) [(0, false), (1, false), (2, false), (3, false), (4, false), (5, false), (6, false), (7, true)] (by kernel_rfl) (by kernel_rfl) (fun _ d _ _ _ h => by cases d <;> exact h) ?_ ?_
  · exact ⟨T4.c0, hc4⟩
  repeat ((with_reducible refine wpCan_isq ?_); first | (apply wpCan_read rfl (by rfl); (· intro w' hS; go_simp; with_reducible rfl); (· try simp only [Act.put, List.setIfInBounds_toArray, List.set_cons_zero, List.set_cons_succ]; with_reducible rfl)) | (apply wpCan_no rfl (by rfl); (· try simp only [Act.put, List.setIfInBounds_toArray, List.set_cons_zero, List.set_cons_succ]; with_reducible rfl)))
  (with_reducible refine wpCan_isl ?_); apply wpCan_call (Drop_calls _ p _ x.k1 H4.drew) rfl (by rfl); (· go_simp); rintro r w5 ⟨rfl, H5, F5⟩; apply wpCan_told; (· exact ⟨(T4.fr F5.drewL).c0, fun o => (World.cell?_of_block (a := ⟨w.heap.size, o, none⟩) (F5.loc L4.1.drew (by simp)).2).trans (hc4 o)⟩); (· try simp only [Act.put, List.setIfInBounds_toArray, List.set_cons_zero, List.set_cons_succ]; with_reducible rfl)
  refine wpCan_nil ?_
  have T5 := T4.fr F5.drewL
  go_wp2
  go_ret
  exact ⟨rfl, H5, T5, (((FW.any.drew.trans F2.any).trans F3).trans F4.drewL.any).trans F5.drewL.any⟩

theorem ltnode_calls (w : World) (p tb : Nat) (S : St) (f : Int → Nat) (e : Int) (x : Nd) (H : Ar w p S) (T : TreeAt w p tb e) (he : e = 0 ∨ e = 2) (I : S.Inv (more x.k0 (more x.k1 f))) (h23 : x.k2 = 0 ∧ x.k3 = 0) (ht : 1 ≤ x.tag ∧ x.tag ≤ 6) :
    Calls Tryz.prog 128 #[.pointer (some ⟨tb, 0, none⟩), .agg x.arr] w fun o w' => ∃ S' r e', o = .returned (.int .i64 r) ∧ Ar w' p S' ∧ TreeAt w' p tb e' ∧ Fr [tb] p w w' ∧ Res S f e S' r e' 1 ∧ (e' = 0 → S'.node r = x ∧ S'.live r) := by
  have gd : ∀ T : St, Grow T ((T.drop x.k0).drop x.k1) := fun T => (Grow.drop _ _).trans (Grow.drop _ _)
  have ud : ∀ T : St, ((T.drop x.k0).drop x.k1).usedN = T.usedN := fun T => by rw [Inv.usedN_congr (drop_n _ _) (drop_used _ _), Inv.usedN_congr (drop_n _ _) (drop_used _ _)]
  rcases he with rfl | rfl
  · refine (ltnode_ok w p tb S x H T).mono ?_
    rintro o w' ⟨rfl, HA, T', F⟩
    refine ⟨_, _, _, rfl, HA, T', F, ?_⟩
    have hk : ∀ k, k ≠ 0 → 0 < kc x k → S.live k := fun k k0 h => I.held_pos k0 (by
      unfold kc at h; rw [h23.1, h23.2, if_neg (Ne.symm k0)] at h; simp only [more, eq_comm (a := k)]; omega)
    rcases I.make ht hk with ⟨em, en⟩ | ⟨r, em, r1, ru, hp, hlt, hu⟩
    · rw [em]
      exact ⟨⟨gd _, by rw [ud]; (try dsimp only); omega, Or.inr ⟨rfl, rfl, I.drop.drop⟩, fun h => absurd rfl h, fun _ h => by omega⟩, fun h => absurd h (by simp)⟩
    · rw [em]
      rw [more_comm r, more_comm r] at hp
      have hd := hp.drop.drop
      refine ⟨⟨(Grow.put ru).trans (gd _), by rw [ud]; (try dsimp only); omega, Or.inl ⟨rfl, hd⟩, fun h => absurd rfl h, fun _ _ => rfl⟩, fun _ => ⟨?_, hd.held_pos (by omega) (by rw [more_self]; omega)⟩⟩
      rw [drop_node, drop_node, put_node, if_pos rfl]
  · refine (ltnode_err w p tb S 2 x H T (by decide)).mono ?_
    rintro o w' ⟨rfl, HA, F⟩
    exact ⟨_, 0, 2, rfl, HA, T.fr F, F.any, ⟨gd _, by rw [ud]; (try dsimp only); omega, Or.inr ⟨rfl, rfl, I.drop.drop⟩, fun _ => by decide, fun h => absurd h (by decide)⟩, fun h => absurd h (by simp)⟩

set_option maxHeartbeats 1000000 in
theorem litem_calls (w : World) (p tb : Nat) (S : St) (f : Int → Nat) (e : Int) (a b : Nat) (H : Ar w p S) (T : TreeAt w p tb e) (he : e = 0 ∨ e = 2) (I : S.Inv f) (ha : a < 9223372036854775808) (hb : b < 9223372036854775808) :
    Calls Tryz.prog 94 #[.pointer (some ⟨tb, 0, none⟩), .agg #[.int .i64 a, .int .i64 b]] w fun o w' => ∃ S' r e', o = .returned (.int .i64 r) ∧ Ar w' p S' ∧ TreeAt w' p tb e' ∧ Fr [tb] p w w' ∧ Res S f e S' r e' 1 ∧ (e' = 0 → S'.lt r (.item a b)) := by
  have HN := fun w' (h : Ar w' p S) (T : TreeAt w' p tb e) => ltnode_calls w' p tb S f e (itemNd a b) h T he I.zero.zero ⟨rfl, rfl⟩ (by simp [itemNd])
  have un := u64_id (x := (a : Int)) (by omega) (by omega)
  have vn := u64_id (x := (b : Int)) (by omega) (by omega)
  unfold itemNd Nd.arr at HN
  have ha := hid ha
  have hb := hid hb
  go_enter Tryz.func94, Tryz.ntmps94
  go_wp2_with fail
  refine (HN _ (H.alloc _) (T.below H (by repeat (first | with_reducible exact Below.refl _ _ | with_reducible assumption | with_reducible refine bel_drewN ?_ | with_reducible refine bel_drew ?_ | with_reducible refine bel_alloc ?_ _ | with_reducible refine bel_set ?_ _ ?_ | with_reducible refine bel_trans ?_ (by with_reducible assumption) | ((try dsimp only); omega))))).mono ?_
  rintro o w1 ⟨S', r, e', rfl, HA, T', F, R, G⟩
  go_wp2
  go_ret
  exact ⟨S', r, e', rfl, HA, T', (Fr.of_below H (by repeat (first | with_reducible exact Below.refl _ _ | with_reducible assumption | with_reducible refine bel_drewN ?_ | with_reducible refine bel_drew ?_ | with_reducible refine bel_alloc ?_ _ | with_reducible refine bel_set ?_ _ ?_ | with_reducible refine bel_trans ?_ (by with_reducible assumption) | ((try dsimp only); omega)))).trans F, R, fun h => ⟨(G h).2, (G h).1, ha.out, hb.out⟩⟩

set_option maxHeartbeats 4000000 in
set_option maxRecDepth 100000 in
theorem lpair_calls (w : World) (p tb : Nat) (S : St) (f : Int → Nat) (e x y : Int) (lx ly : List (Nat × Nat)) (H : Ar w p S) (T : TreeAt w p tb e) (he : e = 0 ∨ e = 2) (I : S.Inv (more x (more y f)))
    (Bx : S.lr x lx) (By : S.lr y ly) (hl : lx.length + ly.length < 1000000) :
    Calls Tryz.prog 131 #[.pointer (some ⟨tb, 0, none⟩), .int .i64 x, .int .i64 y] w fun o w' => ∃ S' r e', o = .returned (.int .i64 r) ∧ Ar w' p S' ∧ TreeAt w' p tb e' ∧ Fr [tb] p w w' ∧ Res S f e S' r e' 1 ∧
      (e' = 0 → S'.live r ∧ ∀ tx ty, S.lt x tx → S.lt y ty → tx.items = lx → ty.items = ly → S'.lt r (.join tx ty)) := by
  have hT := T
  have HN := fun w' (h : Ar w' p S) (T : TreeAt w' p tb e) => ltnode_calls w' p tb S f e (joinNd x y (lx.length + ly.length)) h T he I ⟨rfl, rfl⟩ (by simp [joinNd])
  have HLx := fun w' (h : Ar w' p S) => lLen_calls w' p S x lx h Bx (by omega)
  have HLy := fun w' (h : Ar w' p S) => lLen_calls w' p S y ly h By (by omega)
  have fin : ∀ S' r, Grow S S' → S'.Inv (more r f) → S'.node r = joinNd x y (lx.length + ly.length) → S'.live r → (∀ tx ty, S.lt x tx → S.lt y ty → tx.items = lx → ty.items = ly → S'.lt r (.join tx ty)) := by
    intro S' r g i en lr tx ty bx by' ex ey
    have x0 : x ≠ 0 := fun q => by have := (live.ne H.2 bx.live).1; omega
    have y0 : y ≠ 0 := fun q => by have := (live.ne H.2 by'.live).1; omega
    refine ⟨lr, x, y, by rw [ex, ey]; exact en, lt_kp g.keeps I i (i.kid_pos lr.1 x0 (by rw [en]; exact kc_pos.2 (by simp [joinNd]))) bx, lt_kp g.keeps I i (i.kid_pos lr.1 y0 (by rw [en]; exact kc_pos.2 (by simp [joinNd]))) by'⟩
  have fin := hid fin
  unfold joinNd Nd.arr at HN
  have w1 := u64_id (x := ((lx.length : Nat) : Int) + (ly.length : Nat)) (by omega) (by omega)
  simp only [Int.natCast_add] at HN
  have v1 : IntKind.i64.wrap (((lx.length : Nat) : Int) + (ly.length : Nat)) = ((lx.length : Nat) : Int) + (ly.length : Nat) := by simp [IntKind.wrap, IntKind.bits, IntKind.signed]; omega
  clear I Bx By
  generalize lx.length = nx at *
  generalize ly.length = ny at *
  have d0 := hT.c0
  go_enter Tryz.func131, Tryz.ntmps131
  go_wp2
  refine wp_region_can (fun w' => w'.cell? ⟨tb, 0, none⟩ = some (.pointer (some ⟨p, 0, none⟩))) [(0, false), (1, false), (2, false), (3, false), (4, false), (5, false), (6, false), (7, false), (8, false), (10, false), (11, false), (12, false), (13, false), (14, false), (9, true), (15, true), (16, false), (17, false), (18, false), (19, true), (20, false)] (by kernel_rfl) (by kernel_rfl) (fun _ d _ _ _ h => by cases d <;> exact h) ?_ ?_
  · exact T.c0
  repeat ((with_reducible refine wpCan_isq ?_); first | (apply wpCan_read rfl (by rfl); (· intro w' hS; go_simp; with_reducible rfl); (· try simp only [Act.put, List.setIfInBounds_toArray, List.set_cons_zero, List.set_cons_succ]; with_reducible rfl)) | (apply wpCan_no rfl (by rfl); (· try simp only [Act.put, List.setIfInBounds_toArray, List.set_cons_zero, List.set_cons_succ]; with_reducible rfl)))
  (with_reducible refine wpCan_isl ?_); apply wpCan_call (HLx _ H.drew) rfl (by rfl); (· go_simp); rintro o a1 ⟨rfl, ha1⟩; apply wpCan_told; (· exact ((T.below H (bel_drew (Below.refl _ _))).below H.drew ha1).c0); (· try simp only [Act.put, List.setIfInBounds_toArray, List.set_cons_zero, List.set_cons_succ]; with_reducible rfl)
  have Ha1 : Below w.heap.size w a1 := bel_trans (bel_drew (Below.refl _ w)) ha1
  have HAa1 := H.below Ha1
  (with_reducible refine wpCan_isl ?_); apply wpCan_call (HLy _ HAa1) rfl (by rfl); (· go_simp); rintro o b1 ⟨rfl, hb1⟩; apply wpCan_told; (· exact (hT.below H (bel_trans Ha1 hb1)).c0); (· try simp only [Act.put, List.setIfInBounds_toArray, List.set_cons_zero, List.set_cons_succ]; with_reducible rfl)
  have Hb1 : Below w.heap.size w b1 := bel_trans Ha1 hb1
  have HU := H.below Hb1
  have TU := hT.below H Hb1
  repeat ((with_reducible refine wpCan_isq ?_); first | (apply wpCan_read rfl (by rfl); (· intro w' hS; go_simp; with_reducible rfl); (· try simp only [Act.put, List.setIfInBounds_toArray, List.set_cons_zero, List.set_cons_succ]; with_reducible rfl)) | (apply wpCan_no rfl (by rfl); (· try simp only [Act.put, List.setIfInBounds_toArray, List.set_cons_zero, List.set_cons_succ]; with_reducible rfl)))
  (with_reducible refine wpCan_isl ?_); apply wpCan_call (HN _ HU TU) rfl (by rfl); (· go_simp); rintro o c1 ⟨S', r, e', rfl, HA, T', F, R, G⟩; apply wpCan_told; (· exact T'.c0); (· try simp only [Act.put, List.setIfInBounds_toArray, List.set_cons_zero, List.set_cons_succ]; with_reducible rfl)
  repeat ((with_reducible refine wpCan_isq ?_); first | (apply wpCan_read rfl (by rfl); (· intro w' hS; go_simp; with_reducible rfl); (· try simp only [Act.put, List.setIfInBounds_toArray, List.set_cons_zero, List.set_cons_succ]; with_reducible rfl)) | (apply wpCan_no rfl (by rfl); (· try simp only [Act.put, List.setIfInBounds_toArray, List.set_cons_zero, List.set_cons_succ]; with_reducible rfl)))
  refine wpCan_nil ?_
  go_wp2
  go_ret
  refine ⟨S', r, e', rfl, HA, T', (Fr.of_below H Hb1).trans F, R, fun h => ⟨(G h).2, fin.out S' r R.grow R.inv ?_ (G h).2⟩⟩
  have := (G h).1
  unfold joinNd
  rw [this, Int.natCast_add]
end Go.Proofs.YtngfalbabgpnnaaGreat

namespace Go.Proofs.YtngfalbabgpnnaaGreat
open Go.RowKit St

namespace LT
def leaves : LT → Nat
  | item _ _ => 1
  | join x y => x.leaves + y.leaves
def fat : LT → Prop
  | item _ _ => True
  | join x y => x.fat ∧ y.fat
def ok (_ : LT) : Prop := True
theorem fat.ok {t : LT} (_ : t.fat) : t.ok := trivial
theorem leaves_eq (t : LT) : t.leaves = t.items.length := by
  induction t with
  | item a b => rfl
  | join x y hx hy => simp only [leaves, items, List.length_append, hx, hy]
theorem fat.len {t : LT} (_ : t.fat) : t.leaves = t.items.length := t.leaves_eq
theorem isfat (t : LT) : t.fat := by
  induction t with
  | item a b => trivial
  | join x y hx hy => exact ⟨hx, hy⟩
theorem high_leaves (t : LT) : t.high ≤ t.leaves := by rw [t.leaves_eq]; exact t.high_le
end LT

namespace St
/-- A tree whose root stays live stays. -/
theorem lt_root {S S' : St} {f' : Int → Nat} (h : Grow S S') (H' : S'.Inv f') : ∀ {t : LT} {x : Int}, S'.live x → S.lt x t → S'.lt x t
  | .item _ _, x, v, b => ⟨v, by rw [h.node x b.1.1]; exact b.2.1, b.2.2⟩
  | .join _ _, x, v, b => by
    obtain ⟨hl, hx, hy, e, bx, by'⟩ := b
    have ex := h.node x hl.1
    have x0 : hx ≠ 0 := fun q => by
      have := bx.live; have := H'.wf.out 0 (Or.inl (by decide)); have := h.used hx (bx.live).1; subst q; simp_all
    have y0 : hy ≠ 0 := fun q => by
      have := by'.live; have := H'.wf.out 0 (Or.inl (by decide)); have := h.used hy (by'.live).1; subst q; simp_all
    exact ⟨v, hx, hy, by rw [ex]; exact e, lt_root h H' (H'.kid_pos v.1 x0 (by rw [ex, e]; exact kc_pos.2 (by simp [joinNd]))) bx,
      lt_root h H' (H'.kid_pos v.1 y0 (by rw [ex, e]; exact kc_pos.2 (by simp [joinNd]))) by'⟩
end St
theorem lt_ne {S : St} {f : Int → Nat} (I : S.Inv f) {x : Int} {t : LT} (b : S.lt x t) : x ≠ 0 := by have := (live.ne I.wf b.live).1; omega
theorem lhighX_calls (p tb : Nat) (S : St) (e : Int) (t : LT) (h : Int) (w : World) (H : Ar w p S) (T : TreeAt w p tb e) (B : S.lt h t) (hl : t.leaves < 1000000) :
    Calls Tryz.prog 129 #[.pointer (some ⟨tb, 0, none⟩), .int .i64 h] w fun o w' => o = .returned (.int .i64 (t.high : Nat)) ∧ Below w.heap.size w w' :=
  lhigh_calls p tb S e t h w H T B (by rw [← t.leaves_eq]; exact hl)

/-- Whatever lies at a handle. -/
def St.lany (S : St) (x : Int) : Prop := ∃ l, S.lr x l ∧ l.length < 400000
theorem lany_zero (S : St) : S.lany 0 := ⟨[], Or.inl ⟨rfl, rfl⟩, by simp⟩
theorem lany_lt {S : St} {x : Int} {t : LT} (b : S.lt x t) (_ : t.ok) (h : t.items.length < 400000) : S.lany x := ⟨t.items, lrOf b, h⟩
theorem lany_root {S S' : St} {f' : Int → Nat} (h : Grow S S') (H' : S'.Inv f') {x : Int} (v : x ≠ 0 → S'.live x) (a : S.lany x) : S'.lany x := by
  obtain ⟨l, b, hl⟩ := a
  refine ⟨l, ?_, hl⟩
  rcases b with b | ⟨t, b, o⟩
  · exact Or.inl b
  · refine Or.inr ⟨t, lt_root h H' (v fun q => ?_) b, o⟩
    have := b.live; have := H'.wf.out 0 (Or.inl (by decide)); have := h.used x (b.live).1; subst q; simp_all
theorem lpairX_calls (w : World) (p tb : Nat) (S : St) (f : Int → Nat) (e x y : Int) (tx ty : LT) (H : Ar w p S) (T : TreeAt w p tb e) (he : e = 0 ∨ e = 2) (I : S.Inv (more x (more y f)))
    (ax : S.lany x) (ay : S.lany y) (hB : e = 0 → (S.lt x tx ∧ tx.fat) ∧ S.lt y ty ∧ ty.fat) (hl : tx.items.length + ty.items.length < 400000) :
    Calls Tryz.prog 131 #[.pointer (some ⟨tb, 0, none⟩), .int .i64 x, .int .i64 y] w fun o w' => ∃ S' r e', o = .returned (.int .i64 r) ∧ Ar w' p S' ∧ TreeAt w' p tb e' ∧ Fr [tb] p w w' ∧ Res S f e S' r e' 1 ∧
      S'.lany r ∧ (e' = 0 → S'.lt r (.join tx ty) ∧ (LT.join tx ty).fat) := by
  rcases he with rfl | rfl
  · obtain ⟨⟨bx, ox⟩, by', oy⟩ := hB rfl
    refine (lpair_calls w p tb S f 0 x y tx.items ty.items H T (Or.inl rfl) I (lrOf bx) (lrOf by') (by omega)).mono ?_
    rintro o w1 ⟨S', r, e', rfl, H1, T1, F1, R, G⟩
    have G' : e' = 0 → S'.lt r (.join tx ty) ∧ (LT.join tx ty).fat := fun h => ⟨(G h).2 tx ty bx by' rfl rfl, ox, oy⟩
    refine ⟨S', r, e', rfl, H1, T1, F1, R, ?_, G'⟩
    rcases R.out with ⟨q, _⟩ | ⟨_, rfl, _⟩
    · exact lany_lt (G' q).1 (LT.fat.ok (G' q).2) (by simpa [LT.items] using hl)
    · exact lany_zero _
  · obtain ⟨lx, bx, hx⟩ := ax
    obtain ⟨ly, by', hy⟩ := ay
    refine (lpair_calls w p tb S f 2 x y lx ly H T (Or.inr rfl) I bx by' (by omega)).mono ?_
    rintro o w1 ⟨S', r, e', rfl, H1, T1, F1, R, G⟩
    have : e' = 2 := by rcases R.e2 with q | q; exact absurd q (R.err (by decide)); exact q
    subst this
    rcases R.out with ⟨q, _⟩ | ⟨_, rfl, _⟩
    · exact absurd q (by decide)
    · exact ⟨S', 0, 2, rfl, H1, T1, F1, R, lany_zero _, fun q => absurd q (by decide)⟩


/-- What join leaves. -/
def JoinR (S : St) (f : Int → Nat) (lx ly : List (Nat × Nat)) (e : Int) (S' : St) (r e' : Int) : Prop :=
  Res S f e S' r e' 3 ∧ (e' = 0 → S'.lr r (lx ++ ly))

theorem lany_high (p tb : Nat) (S : St) (e h : Int) (w : World) (H : Ar w p S) (T : TreeAt w p tb e) (a : S.lany h) :
    ∃ n : Nat, n < 1000000 ∧ ∀ w', Below w.heap.size w w' → Calls Tryz.prog 129 #[.pointer (some ⟨tb, 0, none⟩), .int .i64 h] w' fun o w'' => o = .returned (.int .i64 (n : Int)) ∧ Below w'.heap.size w' w'' := by
  obtain ⟨l, b, hl⟩ := a
  rcases b with ⟨rfl, rfl⟩ | ⟨t, b, rfl⟩
  · exact ⟨0, by decide, fun w' hb => lhigh_zero w' p tb S e (H.below hb) (T.below H hb)⟩
  · exact ⟨t.high, by have := t.high_le; omega, fun w' hb => lhigh_calls p tb S e t h w' (H.below hb) (T.below H hb) b (by omega)⟩

set_option maxHeartbeats 4000000 in
set_option maxRecDepth 100000 in
theorem ljoin_err (w : World) (p tb : Nat) (S : St) (f : Int → Nat) (x y : Int) (lx ly : List (Nat × Nat)) (H : Ar w p S) (T : TreeAt w p tb 2) (I : S.Inv (more x (more y f))) (ax : S.lany x) (ay : S.lany y) :
    Calls Tryz.prog 95 #[.pointer (some ⟨tb, 0, none⟩), .int .i64 x, .int .i64 y] w fun o w' => ∃ S' r e', o = .returned (.int .i64 r) ∧ Ar w' p S' ∧ TreeAt w' p tb e' ∧ Fr [tb] p w w' ∧ JoinR S f lx ly 2 S' r e' := by
  have hT := T
  obtain ⟨n, hn, HX⟩ := lany_high p tb S 2 x w H T ax
  obtain ⟨m, hm, HY⟩ := lany_high p tb S 2 y w H T ay
  obtain ⟨d0, d1, dz, dl, _⟩ := T
  clear ax ay
  go_enter Tryz.func95, Tryz.ntmps95
  go_wp2_with fail
  refine (HX _ (by repeat (first | with_reducible exact Below.refl _ _ | with_reducible assumption | with_reducible refine bel_drewN ?_ | with_reducible refine bel_drew ?_ | with_reducible refine bel_alloc ?_ _ | with_reducible refine bel_set ?_ _ ?_ | with_reducible refine bel_trans ?_ (by with_reducible assumption) | ((try dsimp only); omega)))).mono ?_; rintro o w1 ⟨rfl, hb1⟩
  go_wp2_with fail
  refine (HY _ (by repeat (first | with_reducible exact Below.refl _ _ | with_reducible assumption | with_reducible refine bel_drewN ?_ | with_reducible refine bel_drew ?_ | with_reducible refine bel_alloc ?_ _ | with_reducible refine bel_set ?_ _ ?_ | with_reducible refine bel_trans ?_ (by with_reducible assumption) | ((try dsimp only); omega)))).mono ?_; rintro o w2 ⟨rfl, hb2⟩
  have hb3 := bel_trans hb1 hb2
  have T2 := hT.below H hb3
  have H2 := H.below hb3
  have e02 := T2.c0
  have e12 := T2.c1
  clear d0 d1 dz hb1 hb2 HX HY
  go_wp2_with fail
  refine (Drop_calls _ p _ x H2).mono ?_; rintro o w3 ⟨rfl, H3, F3⟩
  have T3 := T2.fr F3
  have e03 := T3.c0
  clear e02 e12
  go_wp2_with fail
  refine (Drop_calls _ p _ y H3).mono ?_; rintro o w4 ⟨rfl, H4, F4⟩
  have T4 := T3.fr F4
  go_wp2
  go_ret
  exact ⟨_, 0, 2, rfl, H4, T4, ((Fr.of_below H hb3).trans F3.any).trans F4.any, ⟨(Grow.drop _ _).trans (Grow.drop _ _), by rw [Inv.usedN_congr (drop_n _ _) (drop_used _ _), Inv.usedN_congr (drop_n _ _) (drop_used _ _)]; omega, Or.inr ⟨rfl, rfl, I.drop.drop⟩, fun _ => by decide, fun h => absurd h (by decide)⟩, fun h => absurd h (by decide)⟩

set_option maxHeartbeats 4000000 in
set_option maxRecDepth 100000 in
/-- One of the two is empty. -/
theorem ljoin_zero (w : World) (p tb : Nat) (S : St) (f : Int → Nat) (x y : Int) (lx ly : List (Nat × Nat)) (H : Ar w p S) (T : TreeAt w p tb 0) (I : S.Inv (more x (more y f))) (ax : S.lr x lx) (ay : S.lr y ly) (hl : lx.length + ly.length < 400000) (h0 : x = 0 ∨ y = 0) :
    Calls Tryz.prog 95 #[.pointer (some ⟨tb, 0, none⟩), .int .i64 x, .int .i64 y] w fun o w' => ∃ S' r e', o = .returned (.int .i64 r) ∧ Ar w' p S' ∧ TreeAt w' p tb e' ∧ Fr [tb] p w w' ∧ JoinR S f lx ly 0 S' r e' := by
  have hT := T
  obtain ⟨n, hn, HX⟩ := lany_high p tb S 0 x w H T ⟨lx, ax, by omega⟩
  obtain ⟨m, hm, HY⟩ := lany_high p tb S 0 y w H T ⟨ly, ay, by omega⟩
  obtain ⟨d0, d1, dz, dl, _⟩ := T
  have nx := (lr_len H.2 ax).1
  have ny := (lr_len H.2 ay).1
  have bd : ∀ z : Int, (∃ l, S.lr z l) → IntKind.i64.wrap z = z := by
    rintro z ⟨l, b⟩
    rcases b with ⟨rfl, _⟩ | ⟨t, b, _⟩
    · rfl
    · have := live.ne H.2 b.live
      have := H.2.nle
      simp [IntKind.wrap, IntKind.bits, IntKind.signed]; omega
  have bx := bd x ⟨_, ax⟩
  have by' := bd y ⟨_, ay⟩
  have hax := hid ax
  have hay := hid ay
  clear bd ax ay
  rcases h0 with rfl | rfl
  · have nx1 := hid (nx rfl)
    clear ny nx
    go_enter Tryz.func95, Tryz.ntmps95
    go_wp2_with fail
    refine (HX _ (by repeat (first | with_reducible exact Below.refl _ _ | with_reducible assumption | with_reducible refine bel_drewN ?_ | with_reducible refine bel_drew ?_ | with_reducible refine bel_alloc ?_ _ | with_reducible refine bel_set ?_ _ ?_ | with_reducible refine bel_trans ?_ (by with_reducible assumption) | ((try dsimp only); omega)))).mono ?_; rintro o w1 ⟨rfl, hb1⟩
    go_wp2_with fail
    refine (HY _ (by repeat (first | with_reducible exact Below.refl _ _ | with_reducible assumption | with_reducible refine bel_drewN ?_ | with_reducible refine bel_drew ?_ | with_reducible refine bel_alloc ?_ _ | with_reducible refine bel_set ?_ _ ?_ | with_reducible refine bel_trans ?_ (by with_reducible assumption) | ((try dsimp only); omega)))).mono ?_; rintro o w2 ⟨rfl, hb2⟩
    have hb3 := bel_trans hb1 hb2
    have T2 := hT.below H hb3
    have H2 := H.below hb3
    have e02 := T2.c0
    have e12 := T2.c1
    go_wp2
    go_ret
    refine ⟨S, y, 0, by simp, H2, T2, Fr.of_below H hb3, ⟨Grow.refl S, by omega, Or.inl ⟨rfl, I.unzero⟩, fun h => absurd rfl h, fun _ _ => rfl⟩, fun _ => ?_⟩
    rw [nx1.out]; exact hay.out
  · have ny1 := hid (ny rfl)
    clear ny nx
    have hz : (x == 0) = true ∨ (x == 0) = false := by cases (x == 0) <;> simp
    go_enter Tryz.func95, Tryz.ntmps95
    go_wp2_with fail
    refine (HX _ (by repeat (first | with_reducible exact Below.refl _ _ | with_reducible assumption | with_reducible refine bel_drewN ?_ | with_reducible refine bel_drew ?_ | with_reducible refine bel_alloc ?_ _ | with_reducible refine bel_set ?_ _ ?_ | with_reducible refine bel_trans ?_ (by with_reducible assumption) | ((try dsimp only); omega)))).mono ?_; rintro o w1 ⟨rfl, hb1⟩
    go_wp2_with fail
    refine (HY _ (by repeat (first | with_reducible exact Below.refl _ _ | with_reducible assumption | with_reducible refine bel_drewN ?_ | with_reducible refine bel_drew ?_ | with_reducible refine bel_alloc ?_ _ | with_reducible refine bel_set ?_ _ ?_ | with_reducible refine bel_trans ?_ (by with_reducible assumption) | ((try dsimp only); omega)))).mono ?_; rintro o w2 ⟨rfl, hb2⟩
    have hb3 := bel_trans hb1 hb2
    have T2 := hT.below H hb3
    have H2 := H.below hb3
    have e02 := T2.c0
    have e12 := T2.c1
    have fin : ∃ S' r e', Ending.returned (.int .i64 x) = .returned (.int .i64 r) ∧ Ar w2 p S' ∧ TreeAt w2 p tb e' ∧ Fr [tb] p w w2 ∧ JoinR S f lx ly 0 S' r e' := by
      refine ⟨S, x, 0, rfl, H2, T2, Fr.of_below H hb3, ⟨Grow.refl S, by omega, Or.inl ⟨rfl, ?_⟩, fun h => absurd rfl h, fun _ _ => rfl⟩, fun _ => ?_⟩
      · rw [more_comm] at I; exact I.unzero
      · rw [ny1.out, List.append_nil]; exact hax.out
    rcases hz with hz | hz
    · go_wp2
      go_ret
      simpa using fin
    · go_wp2
      go_ret
      simpa using fin
set_option maxHeartbeats 4000000 in
set_option maxRecDepth 100000 in
/-- The left one is not too high, nor the right one. -/
theorem ljoin_even (w : World) (p tb : Nat) (S : St) (f : Int → Nat) (x y : Int) (tx ty : LT) (H : Ar w p S) (T : TreeAt w p tb 0) (I : S.Inv (more x (more y f)))
    (bx : S.lt x tx) (fx : tx.fat) (by' : S.lt y ty) (fy : ty.fat) (hl : tx.items.length + ty.items.length < 400000) (h1 : tx.high ≤ ty.high + 1) (h2 : ty.high ≤ tx.high + 1) :
    Calls Tryz.prog 95 #[.pointer (some ⟨tb, 0, none⟩), .int .i64 x, .int .i64 y] w fun o w' => ∃ S' r e', o = .returned (.int .i64 r) ∧ Ar w' p S' ∧ TreeAt w' p tb e' ∧ Fr [tb] p w w' ∧ JoinR S f tx.items ty.items 0 S' r e' := by
  have hT := T
  have l1 := fx.len
  have l2 := fy.len
  have HX := fun w' (hb : Below w.heap.size w w') => lhighX_calls p tb S 0 tx x w' (H.below hb) (hT.below H hb) bx (by omega)
  have HY := fun w' (hb : Below w.heap.size w w') => lhighX_calls p tb S 0 ty y w' (H.below hb) (hT.below H hb) by' (by omega)
  have HP := fun w' (hb : Below w.heap.size w w') => lpairX_calls w' p tb S f 0 x y tx ty (H.below hb) (hT.below H hb) (Or.inl rfl) I (lany_lt bx (LT.fat.ok fx) (by omega)) (lany_lt by' (LT.fat.ok fy) (by omega)) (fun _ => ⟨⟨bx, fx⟩, by', fy⟩) hl
  have a1 := tx.high_leaves
  have a2 := ty.high_leaves
  have zx : (x == 0) = false := by simp [lt_ne I bx]
  have zy : (y == 0) = false := by simp [lt_ne I by']
  obtain ⟨d0, d1, dz, dl, _⟩ := T
  generalize tx.high = p1 at *
  generalize ty.high = p2 at *
  have q1 : ¬ ((p1 : Int) > (p2 : Int) + 1) := by omega
  have q2 : ¬ ((p2 : Int) > (p1 : Int) + 1) := by omega
  have q3 : (p1 : Int) ≤ (p2 : Int) + 1 := by omega
  have q4 : (p2 : Int) ≤ (p1 : Int) + 1 := by omega
  have v1 : IntKind.i64.wrap ((p1 : Int) + 1) = (p1 : Int) + 1 := by simp [IntKind.wrap, IntKind.bits, IntKind.signed]; omega
  have v2 : IntKind.i64.wrap ((p2 : Int) + 1) = (p2 : Int) + 1 := by simp [IntKind.wrap, IntKind.bits, IntKind.signed]; omega
  clear l1 l2 a1 a2 bx fx by' fy I h1 h2
  go_enter Tryz.func95, Tryz.ntmps95
  go_wp2_with fail
  refine (HX _ (by repeat (first | with_reducible exact Below.refl _ _ | with_reducible assumption | with_reducible refine bel_drewN ?_ | with_reducible refine bel_drew ?_ | with_reducible refine bel_alloc ?_ _ | with_reducible refine bel_set ?_ _ ?_ | with_reducible refine bel_trans ?_ (by with_reducible assumption) | ((try dsimp only); omega)))).mono ?_; rintro o w1 ⟨rfl, hb1⟩
  go_wp2_with fail
  refine (HY _ (by repeat (first | with_reducible exact Below.refl _ _ | with_reducible assumption | with_reducible refine bel_drewN ?_ | with_reducible refine bel_drew ?_ | with_reducible refine bel_alloc ?_ _ | with_reducible refine bel_set ?_ _ ?_ | with_reducible refine bel_trans ?_ (by with_reducible assumption) | ((try dsimp only); omega)))).mono ?_; rintro o w2 ⟨rfl, hb2⟩
  have hb3 := bel_trans hb1 hb2
  have e02 := (hT.below H hb3).c0
  have e12 := (hT.below H hb3).c1
  go_wp2_with fail
  refine (HP _ (by repeat (first | with_reducible exact Below.refl _ _ | with_reducible assumption | with_reducible refine bel_drewN ?_ | with_reducible refine bel_drew ?_ | with_reducible refine bel_alloc ?_ _ | with_reducible refine bel_set ?_ _ ?_ | with_reducible refine bel_trans ?_ (by with_reducible assumption) | ((try dsimp only); omega)))).mono ?_; rintro o w3 ⟨S', r, e', rfl, H3, T3, F3, R, _, G⟩
  go_wp2
  go_ret
  exact ⟨S', r, e', rfl, H3, T3, (Fr.of_below H hb3).trans F3, resMono R (by decide), fun h => Or.inr ⟨_, (G h).1, rfl⟩⟩
end Go.Proofs.YtngfalbabgpnnaaGreat

namespace Go.Proofs.YtngfalbabgpnnaaGreat
open Go.RowKit St

set_option maxHeartbeats 4000000 in
set_option maxRecDepth 100000 in
theorem ljoin_left1 (w : World) (p tb : Nat) (S : St) (f : Int → Nat) (x y : Int) (u v ty : LT) (H : Ar w p S) (T : TreeAt w p tb 0) (I : S.Inv (more x (more y f))) (sl : slack f 8)
    (bx : S.lt x (.join u v)) (fu : u.fat) (fv : v.fat) (by' : S.lt y ty) (fy : ty.fat) (hl : u.items.length + v.items.length + ty.items.length < 400000) (h1 : ty.high + 1 < (LT.join u v).high) (h2 : v.high ≤ u.high) :
    Calls Tryz.prog 95 #[.pointer (some ⟨tb, 0, none⟩), .int .i64 x, .int .i64 y] w fun o w' => ∃ S' r e', o = .returned (.int .i64 r) ∧ Ar w' p S' ∧ TreeAt w' p tb e' ∧ Fr [tb] p w w' ∧ JoinR S f (LT.join u v).items ty.items 0 S' r e' := by
  have hT := T
  have l1 := fu.len
  have l2 := fv.len
  have l3 := fy.len
  have HX := fun w' (hb : Below w.heap.size w w') => lhighX_calls p tb S 0 _ x w' (H.below hb) (hT.below H hb) bx (by simp only [LT.leaves]; omega)
  have HY := fun w' (hb : Below w.heap.size w w') => lhighX_calls p tb S 0 ty y w' (H.below hb) (hT.below H hb) by' (by omega)
  have HO := fun w' (hb : Below w.heap.size w w') => lopen_calls w' p tb S (more y f) 0 x u v (H.below hb) (hT.below H hb) I ((sl.le (m := 5) (by omega)).more y) bx
  have a1 := (LT.join u v).high_leaves
  simp only [LT.leaves] at a1
  have a2 := ty.high_leaves
  have a3 := u.high_leaves
  have a4 := v.high_leaves
  have zx : (x == 0) = false := by simp [lt_ne I bx]
  have zy : (y == 0) = false := by simp [lt_ne I by']
  obtain ⟨d0, d1, dz, dl, _⟩ := T
  have q1 : (((LT.join u v).high : Nat) : Int) > (ty.high : Int) + 1 := by omega
  have v1 := wrap_add1 (p := ty.high) (by omega)
  have hy := hid by'
  have y0 : y ≠ 0 := lt_ne I by'
  generalize hp1 : (LT.join u v).high = p1 at *
  generalize hp2 : ty.high = p2 at *
  have hp1 := hid hp1
  have hp2 := hid hp2
  clear by' bx I
  go_enter Tryz.func95, Tryz.ntmps95
  go_wp2_with fail
  refine (HX _ (by repeat (first | with_reducible exact Below.refl _ _ | with_reducible assumption | with_reducible refine bel_drewN ?_ | with_reducible refine bel_drew ?_ | with_reducible refine bel_alloc ?_ _ | with_reducible refine bel_set ?_ _ ?_ | with_reducible refine bel_trans ?_ (by with_reducible assumption) | ((try dsimp only); omega)))).mono ?_; rintro o w1 ⟨rfl, hb1⟩
  go_wp2_with fail
  refine (HY _ (by repeat (first | with_reducible exact Below.refl _ _ | with_reducible assumption | with_reducible refine bel_drewN ?_ | with_reducible refine bel_drew ?_ | with_reducible refine bel_alloc ?_ _ | with_reducible refine bel_set ?_ _ ?_ | with_reducible refine bel_trans ?_ (by with_reducible assumption) | ((try dsimp only); omega)))).mono ?_; rintro o w2 ⟨rfl, hb2⟩
  have hb3 := bel_trans hb1 hb2
  have e02 := (hT.below H hb3).c0
  have e12 := (hT.below H hb3).c1
  clear HX HY hb1 hb2
  go_wp2_with fail
  refine (HO _ (by repeat (first | with_reducible exact Below.refl _ _ | with_reducible assumption | with_reducible refine bel_drewN ?_ | with_reducible refine bel_drew ?_ | with_reducible refine bel_alloc ?_ _ | with_reducible refine bel_set ?_ _ ?_ | with_reducible refine bel_trans ?_ (by with_reducible assumption) | ((try dsimp only); omega)))).mono ?_; rintro o w3 ⟨S1, hu, hv, rfl, H3, T3, F3, I1, g1, u1, bu, bv⟩
  have by1 := lt_root g1 I1 (held3 I1 y0) hy.out
  have T3' := T3
  have HX := fun w' (hb : Below w3.heap.size w3 w') => lhighX_calls p tb S1 0 u hu w' (H3.below hb) (T3'.below H3 hb) bu (by omega)
  have HY := fun w' (hb : Below w3.heap.size w3 w') => lhighX_calls p tb S1 0 v hv w' (H3.below hb) (T3'.below H3 hb) bv (by omega)
  have hu0 := lt_ne I1 bu
  have hv0 := lt_ne I1 bv
  have I1b : S1.Inv (more hv (more y (more hu f))) := by rw [more_comm hu hv, more_comm hu y] at I1; exact I1
  have HP := fun w' (hb : Below w3.heap.size w3 w') => lpairX_calls w' p tb S1 (more hu f) 0 hv y v ty (H3.below hb) (T3'.below H3 hb) (Or.inl rfl) I1b (lany_lt bv (LT.fat.ok fv) (by omega)) (lany_lt by1 (LT.fat.ok fy) (by omega)) (fun _ => ⟨⟨bv, fv⟩, by1, fy⟩) (by omega)
  have q2 : ((u.high : Nat) : Int) ≥ (v.high : Int) := by omega
  have bu' := hid bu
  generalize hp3 : u.high = p3 at *
  generalize hp4 : v.high = p4 at *
  clear HO bu bv by1 I1b
  have I1 := hid I1
  go_wp2_with fail
  refine (HX _ (by repeat (first | with_reducible exact Below.refl _ _ | with_reducible assumption | with_reducible refine bel_drewN ?_ | with_reducible refine bel_drew ?_ | with_reducible refine bel_alloc ?_ _ | with_reducible refine bel_set ?_ _ ?_ | with_reducible refine bel_trans ?_ (by with_reducible assumption) | ((try dsimp only); omega)))).mono ?_; rintro o w4 ⟨rfl, hb4⟩
  go_wp2_with fail
  refine (HY _ (by repeat (first | with_reducible exact Below.refl _ _ | with_reducible assumption | with_reducible refine bel_drewN ?_ | with_reducible refine bel_drew ?_ | with_reducible refine bel_alloc ?_ _ | with_reducible refine bel_set ?_ _ ?_ | with_reducible refine bel_trans ?_ (by with_reducible assumption) | ((try dsimp only); omega)))).mono ?_; rintro o w5 ⟨rfl, hb5⟩
  have hb6 := bel_trans hb4 hb5
  clear HX HY hb4 hb5
  go_wp2_with fail
  refine (HP _ (by repeat (first | with_reducible exact Below.refl _ _ | with_reducible assumption | with_reducible refine bel_drewN ?_ | with_reducible refine bel_drew ?_ | with_reducible refine bel_alloc ?_ _ | with_reducible refine bel_set ?_ _ ?_ | with_reducible refine bel_trans ?_ (by with_reducible assumption) | ((try dsimp only); omega)))).mono ?_; rintro o w6 ⟨S2, r1, e1, rfl, H6, T6, F6, R1, ar1, G1⟩
  have I2 : S2.Inv (more hu (more r1 f)) := by have := R1.inv; rw [more_comm r1 hu] at this; exact this
  have bu2 := lt_root R1.grow I2 (held1 I2 hu0) bu'.out
  go_wp2_with fail
  refine (lpairX_calls w6 p tb S2 f e1 hu r1 u (.join v ty) H6 T6 R1.e2 I2 (lany_lt bu2 (LT.fat.ok fu) (by omega)) ar1 (fun q => ⟨⟨bu2, fu⟩, (G1 q).1, (G1 q).2⟩) (by simp only [LT.items, List.length_append]; omega)).mono ?_
  rintro o w7 ⟨S3, r, e', rfl, H7, T7, F7, R2, _, G2⟩
  go_wp2
  go_ret
  refine ⟨S3, r, e', rfl, H7, T7, ?_, resMono (resTwo g1 u1 R1 R2) (by decide), fun h => Or.inr ⟨_, (G2 h).1, ?_⟩⟩
  · exact (((Fr.of_below H hb3).trans F3.any).trans ((Fr.of_below H3 hb6).trans F6)).trans F7
  · simp only [LT.items, List.append_assoc]
set_option maxHeartbeats 4000000 in
set_option maxRecDepth 100000 in
theorem ljoin_left2 (w : World) (p tb : Nat) (S : St) (f : Int → Nat) (x y : Int) (u b c ty : LT) (H : Ar w p S) (T : TreeAt w p tb 0) (I : S.Inv (more x (more y f))) (sl : slack f 8)
    (bx : S.lt x (.join u (.join b c))) (fu : u.fat) (fv : (LT.join b c).fat) (by' : S.lt y ty) (fy : ty.fat) (hl : u.items.length + (LT.join b c).items.length + ty.items.length < 400000) (h1 : ty.high + 1 < (LT.join u (.join b c)).high) (h2 : u.high < (LT.join b c).high) :
    Calls Tryz.prog 95 #[.pointer (some ⟨tb, 0, none⟩), .int .i64 x, .int .i64 y] w fun o w' => ∃ S' r e', o = .returned (.int .i64 r) ∧ Ar w' p S' ∧ TreeAt w' p tb e' ∧ Fr [tb] p w w' ∧ JoinR S f (LT.join u (.join b c)).items ty.items 0 S' r e' := by
  have hT := T
  have l1 := fu.len
  have l2 := fv.len
  simp only [LT.leaves] at l2
  have l3 := fy.len
  have HX := fun w' (hb : Below w.heap.size w w') => lhighX_calls p tb S 0 _ x w' (H.below hb) (hT.below H hb) bx (by simp only [LT.leaves]; omega)
  have HY := fun w' (hb : Below w.heap.size w w') => lhighX_calls p tb S 0 ty y w' (H.below hb) (hT.below H hb) by' (by omega)
  have HO := fun w' (hb : Below w.heap.size w w') => lopen_calls w' p tb S (more y f) 0 x u (.join b c) (H.below hb) (hT.below H hb) I ((sl.le (m := 5) (by omega)).more y) bx
  have a1 := (LT.join u (.join b c)).high_leaves
  simp only [LT.leaves] at a1
  have a2 := ty.high_leaves
  have a3 := u.high_leaves
  have a4 := (LT.join b c).high_leaves
  simp only [LT.leaves] at a4
  have zx : (x == 0) = false := by simp [lt_ne I bx]
  have zy : (y == 0) = false := by simp [lt_ne I by']
  obtain ⟨d0, d1, dz, dl, _⟩ := T
  have q1 : (((LT.join u (.join b c)).high : Nat) : Int) > (ty.high : Int) + 1 := by omega
  have v1 := wrap_add1 (p := ty.high) (by omega)
  have hy := hid by'
  have y0 : y ≠ 0 := lt_ne I by'
  generalize hp1 : (LT.join u (.join b c)).high = p1 at *
  generalize hp2 : ty.high = p2 at *
  have hp1 := hid hp1
  have hp2 := hid hp2
  clear by' bx I
  go_enter Tryz.func95, Tryz.ntmps95
  go_wp2_with fail
  refine (HX _ (by repeat (first | with_reducible exact Below.refl _ _ | with_reducible assumption | with_reducible refine bel_drewN ?_ | with_reducible refine bel_drew ?_ | with_reducible refine bel_alloc ?_ _ | with_reducible refine bel_set ?_ _ ?_ | with_reducible refine bel_trans ?_ (by with_reducible assumption) | ((try dsimp only); omega)))).mono ?_; rintro o w1 ⟨rfl, hb1⟩
  go_wp2_with fail
  refine (HY _ (by repeat (first | with_reducible exact Below.refl _ _ | with_reducible assumption | with_reducible refine bel_drewN ?_ | with_reducible refine bel_drew ?_ | with_reducible refine bel_alloc ?_ _ | with_reducible refine bel_set ?_ _ ?_ | with_reducible refine bel_trans ?_ (by with_reducible assumption) | ((try dsimp only); omega)))).mono ?_; rintro o w2 ⟨rfl, hb2⟩
  have hb3 := bel_trans hb1 hb2
  have e02 := (hT.below H hb3).c0
  have e12 := (hT.below H hb3).c1
  clear HX HY hb1 hb2
  go_wp2_with fail
  refine (HO _ (by repeat (first | with_reducible exact Below.refl _ _ | with_reducible assumption | with_reducible refine bel_drewN ?_ | with_reducible refine bel_drew ?_ | with_reducible refine bel_alloc ?_ _ | with_reducible refine bel_set ?_ _ ?_ | with_reducible refine bel_trans ?_ (by with_reducible assumption) | ((try dsimp only); omega)))).mono ?_; rintro o w3 ⟨S1, hu, hv, rfl, H3, T3, F3, I1, g1, u1, bu, bv⟩
  have by1 := lt_root g1 I1 (held3 I1 y0) hy.out
  have T3' := T3
  have HX := fun w' (hb : Below w3.heap.size w3 w') => lhighX_calls p tb S1 0 u hu w' (H3.below hb) (T3'.below H3 hb) bu (by omega)
  have HY := fun w' (hb : Below w3.heap.size w3 w') => lhighX_calls p tb S1 0 (.join b c) hv w' (H3.below hb) (T3'.below H3 hb) bv (by simp only [LT.leaves]; omega)
  have hu0 := lt_ne I1 bu
  have hv0 := lt_ne I1 bv
  have I1b : S1.Inv (more hv (more hu (more y f))) := by rw [more_comm hu hv] at I1; exact I1
  have HP := fun w' (hb : Below w3.heap.size w3 w') => lopen_calls w' p tb S1 (more hu (more y f)) 0 hv b c (H3.below hb) (T3'.below H3 hb) I1b (((sl.le (m := 6) (by omega)).more y).more hu) bv
  have q2 : ¬ ((u.high : Nat) : Int) ≥ ((LT.join b c).high : Int) := by omega
  have q3 : ((u.high : Nat) : Int) < ((LT.join b c).high : Int) := by omega
  have bu' := hid bu
  have by1 := hid by1
  have HY : ∀ w', Below w3.heap.size w3 w' → Calls Tryz.prog 129 #[.pointer (some ⟨tb, 0, none⟩), .int .i64 hv] w' fun o w'' => o = .returned (.int .i64 ((LT.join b c).high : Nat)) ∧ Below w'.heap.size w' w'' := HY
  obtain ⟨fb, fc⟩ := fv
  simp only [LT.items, List.length_append] at hl
  generalize hp3 : u.high = p3 at *
  generalize hp4 : (LT.join b c).high = p4 at *
  clear HO bu bv I1b I1
  go_wp2_with fail
  refine (HX _ (by repeat (first | with_reducible exact Below.refl _ _ | with_reducible assumption | with_reducible refine bel_drewN ?_ | with_reducible refine bel_drew ?_ | with_reducible refine bel_alloc ?_ _ | with_reducible refine bel_set ?_ _ ?_ | with_reducible refine bel_trans ?_ (by with_reducible assumption) | ((try dsimp only); omega)))).mono ?_; rintro o w4 ⟨rfl, hb4⟩
  go_wp2_with fail
  refine (HY _ (by repeat (first | with_reducible exact Below.refl _ _ | with_reducible assumption | with_reducible refine bel_drewN ?_ | with_reducible refine bel_drew ?_ | with_reducible refine bel_alloc ?_ _ | with_reducible refine bel_set ?_ _ ?_ | with_reducible refine bel_trans ?_ (by with_reducible assumption) | ((try dsimp only); omega)))).mono ?_; rintro o w5 ⟨rfl, hb5⟩
  have hb6 := bel_trans hb4 hb5
  clear HX HY hb4 hb5
  go_wp2_with fail
  refine (HP _ (by repeat (first | with_reducible exact Below.refl _ _ | with_reducible assumption | with_reducible refine bel_drewN ?_ | with_reducible refine bel_drew ?_ | with_reducible refine bel_alloc ?_ _ | with_reducible refine bel_set ?_ _ ?_ | with_reducible refine bel_trans ?_ (by with_reducible assumption) | ((try dsimp only); omega)))).mono ?_; rintro o w6 ⟨S2, hb, hc, rfl, H6, T6, F6, I2, g2, u2, bb, bc⟩
  have hb0 := lt_ne I2 bb
  have hc0 := lt_ne I2 bc
  have I2b : S2.Inv (more hu (more hb (more hc (more y f)))) := by rw [more_comm hc hu, more_comm hb hu] at I2; exact I2
  have bu2 := lt_root g2 I2b (held1 I2b hu0) bu'.out
  have by2 := lt_root g2 I2b (held4 I2b y0) by1.out
  have bc' := hid bc
  have by2' := hid by2
  have A2 := lany_lt bu2 (LT.fat.ok fu) (by omega)
  have A3 := lany_lt bb (LT.fat.ok fb) (by omega)
  go_wp2_with fail
  refine (lpairX_calls w6 p tb S2 (more hc (more y f)) 0 hu hb u b H6 T6 (Or.inl rfl) I2b A2 A3 (fun _ => ⟨⟨bu2, fu⟩, bb, fb⟩) (by omega)).mono ?_
  rintro o w7 ⟨S3, r1, e1, rfl, H7, T7, F7, R1, ar1, G1⟩
  have I3 : S3.Inv (more hc (more y (more r1 f))) := by have := R1.inv; rw [more_comm r1 hc, more_comm r1 y] at this; exact this
  have bc3 := lt_root R1.grow I3 (held1 I3 hc0) bc'.out
  have by3 := lt_root R1.grow I3 (held2 I3 y0) by2'.out
  clear HP bc by2 by1
  go_wp2_with fail
  refine (lpairX_calls w7 p tb S3 (more r1 f) e1 hc y c ty H7 T7 R1.e2 I3 (lany_lt bc3 (LT.fat.ok fc) (by omega)) (lany_lt by3 (LT.fat.ok fy) (by omega)) (fun _ => ⟨⟨bc3, fc⟩, by3, fy⟩) (by omega)).mono ?_
  rintro o w8 ⟨S4, r2, e2, rfl, H8, T8, F8, R2, ar2, G2⟩
  have I4 : S4.Inv (more r1 (more r2 f)) := by have := R2.inv; rw [more_comm r2 r1] at this; exact this
  have ar1' := lany_root R2.grow I4 (held1 I4) ar1
  have e12 : e2 = 0 → e1 = 0 := fun q => by rcases R1.e2 with h | h; exact h; exact absurd q (R2.err (by omega))
  have B1 : e2 = 0 → S4.lt r1 (.join u b) ∧ (LT.join u b).fat := fun q => ⟨lt_root R2.grow I4 (held1 I4 (lt_ne R1.inv (G1 (e12 q)).1)) (G1 (e12 q)).1, (G1 (e12 q)).2⟩
  go_wp2_with fail
  refine (lpairX_calls w8 p tb S4 f e2 r1 r2 (.join u b) (.join c ty) H8 T8 R2.e2 I4 ar1' ar2 (fun q => ⟨B1 q, G2 q⟩) (by simp only [LT.items, List.length_append]; omega)).mono ?_
  rintro o w9 ⟨S5, r, e', rfl, H9, T9, F9, R3, _, G3⟩
  go_wp2
  go_ret
  refine ⟨S5, r, e', rfl, H9, T9, ?_, resTwo (Grow.refl S) rfl (resTwo (g1.trans g2) (u2.trans u1) R1 R2) R3, fun h => Or.inr ⟨_, (G3 h).1, ?_⟩⟩
  · exact (((((Fr.of_below H hb3).trans F3.any).trans ((Fr.of_below H3 hb6).trans F6.any)).trans F7).trans F8).trans F9
  · simp only [LT.items, List.append_assoc]
end Go.Proofs.YtngfalbabgpnnaaGreat
