/-
  The walks of tree.high, tree.open, tree.pairOr, tree.told.
  The walks of tree.open, tree.pairOr.
  The walk of tree.fork.
  The walk of tree.fork: the left one is too high.
  The walk of tree.fork: the right one is too high.
-/
import Derived.Test.YtngfalbabgpnnaaGreatM6
set_option linter.unusedVariables false
set_option linter.unusedSimpArgs false
namespace Go.Proofs.YtngfalbabgpnnaaGreat
open Go.RowKit St

set_option maxHeartbeats 1000000 in
theorem high_zero (w : World) (p tb : Nat) (S : St) (e : Int) (H : Ar w p S) (T : TreeAt w p tb e) :
    Calls Tryz.prog 156 #[.pointer (some ⟨tb, 0, none⟩), .int .i64 0] w fun o w' => o = .returned (.int .i64 0) ∧ Below w.heap.size w w' := by
  have HG := fun w' (hb : Below w.heap.size w w') => row_zero w' p S (H.below hb)
  unfold Nd.zero Nd.arr at HG
  obtain ⟨d0, d1, dz, dl, _⟩ := T
  go_enter Tryz.func156, Tryz.ntmps156
  go_wp2_with fail
  refine (HG _ (by repeat (first | with_reducible exact Below.refl _ _ | with_reducible assumption | with_reducible refine bel_drewN ?_ | with_reducible refine bel_drew ?_ | with_reducible refine bel_alloc ?_ _ | with_reducible refine bel_set ?_ _ ?_ | with_reducible refine bel_trans ?_ (by with_reducible assumption) | ((try dsimp only); omega)))).mono ?_; rintro e w1 ⟨rfl, hb1⟩; obtain ⟨hc1, hf1⟩ := bcell hb1
  go_wp2
  go_ret
  exact ⟨rfl, (by repeat (first | with_reducible exact Below.refl _ _ | with_reducible assumption | with_reducible refine bel_drewN ?_ | with_reducible refine bel_drew ?_ | with_reducible refine bel_alloc ?_ _ | with_reducible refine bel_set ?_ _ ?_ | with_reducible refine bel_trans ?_ (by with_reducible assumption) | ((try dsimp only); omega)))⟩
set_option maxHeartbeats 1000000 in
theorem high_leaf (w : World) (p tb : Nat) (S : St) (e h : Int) (l : List Bool) (H : Ar w p S) (T : TreeAt w p tb e) (B : S.bt h (.leaf l)) :
    Calls Tryz.prog 156 #[.pointer (some ⟨tb, 0, none⟩), .int .i64 h] w fun o w' => o = .returned (.int .i64 1) ∧ Below w.heap.size w w' := by
  have HG := fun w' (hb : Below w.heap.size w w') => row_leaf w' p S h l (H.below hb) B
  unfold leafNd Nd.arr at HG
  generalize bitsOf l = b at *
  generalize l.length = n at *
  obtain ⟨d0, d1, dz, dl, _⟩ := T
  go_enter Tryz.func156, Tryz.ntmps156
  go_wp2_with fail
  refine (HG _ (by repeat (first | with_reducible exact Below.refl _ _ | with_reducible assumption | with_reducible refine bel_drewN ?_ | with_reducible refine bel_drew ?_ | with_reducible refine bel_alloc ?_ _ | with_reducible refine bel_set ?_ _ ?_ | with_reducible refine bel_trans ?_ (by with_reducible assumption) | ((try dsimp only); omega)))).mono ?_; rintro e w1 ⟨rfl, hb1⟩; obtain ⟨hc1, hf1⟩ := bcell hb1
  go_wp2
  go_ret
  exact ⟨rfl, (by repeat (first | with_reducible exact Below.refl _ _ | with_reducible assumption | with_reducible refine bel_drewN ?_ | with_reducible refine bel_drew ?_ | with_reducible refine bel_alloc ?_ _ | with_reducible refine bel_set ?_ _ ?_ | with_reducible refine bel_trans ?_ (by with_reducible assumption) | ((try dsimp only); omega)))⟩
set_option maxHeartbeats 2000000 in
set_option maxRecDepth 100000 in
theorem high_fork (w : World) (p tb : Nat) (S : St) (e h hx hy : Int) (x y : BT) (n o : Nat) (H : Ar w p S) (T : TreeAt w p tb e) (B : S.bt h (.fork x y)) (E : S.node h = forkNd hx hy n o)
    (hX : ∀ w' (_ : Ar w' p S) (_ : TreeAt w' p tb e), Calls Tryz.prog 156 #[.pointer (some ⟨tb, 0, none⟩), .int .i64 hx] w' fun o w'' => o = .returned (.int .i64 (x.high : Nat)) ∧ Below w'.heap.size w' w'')
    (hY : ∀ w' (_ : Ar w' p S) (_ : TreeAt w' p tb e), Calls Tryz.prog 156 #[.pointer (some ⟨tb, 0, none⟩), .int .i64 hy] w' fun o w'' => o = .returned (.int .i64 (y.high : Nat)) ∧ Below w'.heap.size w' w'')
    (hs : x.high + y.high < 1000000) :
    Calls Tryz.prog 156 #[.pointer (some ⟨tb, 0, none⟩), .int .i64 h] w fun o w' => o = .returned (.int .i64 ((BT.fork x y).high : Nat)) ∧ Below w.heap.size w w' := by
  have hT := T
  have HG := fun w' (hb : Below w.heap.size w w') => row_fork w' p S h hx hy x y n o (H.below hb) B E
  unfold forkNd Nd.arr at HG
  have fin : ((BT.fork x y).high : Int) = 1 + max (x.high : Int) (y.high : Int) := by simp only [BT.high]; omega
  rw [fin]
  have v1 : IntKind.i64.wrap (1 + (x.high : Int)) = 1 + (x.high : Int) := by simp [IntKind.wrap, IntKind.bits, IntKind.signed]; omega
  have v2 : IntKind.i64.wrap (1 + (y.high : Int)) = 1 + (y.high : Int) := by simp [IntKind.wrap, IntKind.bits, IntKind.signed]; omega
  clear fin E B
  generalize x.high = a at *
  generalize y.high = b at *
  obtain ⟨d0, d1, dz, dl, _⟩ := T
  go_enter Tryz.func156, Tryz.ntmps156
  go_wp2_with fail
  refine (HG _ (by repeat (first | with_reducible exact Below.refl _ _ | with_reducible assumption | with_reducible refine bel_drewN ?_ | with_reducible refine bel_drew ?_ | with_reducible refine bel_alloc ?_ _ | with_reducible refine bel_set ?_ _ ?_ | with_reducible refine bel_trans ?_ (by with_reducible assumption) | ((try dsimp only); omega)))).mono ?_; rintro e1 w1 ⟨rfl, hb1⟩; obtain ⟨hc1, hf1⟩ := bcell hb1
  go_wp2
  generalize hW : w1.alloc _ = W
  have l0 : W.cell? ⟨w1.heap.size, 0, none⟩ = some (.int .i64 2) := (by subst hW; go_simp); have l1 : W.cell? ⟨w1.heap.size, 1, none⟩ = some (.int .i64 hx) := (by subst hW; go_simp); have l2 : W.cell? ⟨w1.heap.size, 2, none⟩ = some (.int .i64 hy) := (by subst hW; go_simp); have l3 : W.cell? ⟨w1.heap.size, 3, none⟩ = some (.int .i64 0) := (by subst hW; go_simp); have l4 : W.cell? ⟨w1.heap.size, 4, none⟩ = some (.int .i64 0) := (by subst hW; go_simp); have l5 : W.cell? ⟨w1.heap.size, 5, none⟩ = some (.int .u64 n) := (by subst hW; go_simp); have l6 : W.cell? ⟨w1.heap.size, 6, none⟩ = some (.int .u64 o) := (by subst hW; go_simp)
  have hbW : Below w.heap.size w W := by subst hW; exact (by repeat (first | with_reducible exact Below.refl _ _ | with_reducible assumption | with_reducible refine bel_drewN ?_ | with_reducible refine bel_drew ?_ | with_reducible refine bel_alloc ?_ _ | with_reducible refine bel_set ?_ _ ?_ | with_reducible refine bel_trans ?_ (by with_reducible assumption) | ((try dsimp only); omega)))
  have sz : w1.heap.size < W.heap.size := by subst hW; simp
  clear hW hc1 hf1 hb1
  refine wp_region_can (fun w' => ∀ o, w'.cell? ⟨w1.heap.size, o, none⟩ = W.cell? ⟨w1.heap.size, o, none⟩) [(0, false), (1, false), (2, false), (3, false), (5, false), (6, false), (7, false), (8, false), (4, true), (9, true), (10, false), (11, false), (12, false)] (by kernel_rfl) (by kernel_rfl) (fun _ d _ _ _ h => by cases d <;> exact h) ?_ ?_
  · exact fun _ => rfl
  repeat ((with_reducible refine wpCan_isq ?_); first | (apply wpCan_read rfl (by rfl); (· intro w' hS; go_simp; with_reducible rfl); (· try simp only [Act.put, List.setIfInBounds_toArray, List.set_cons_zero, List.set_cons_succ]; with_reducible rfl)) | (apply wpCan_no rfl (by rfl); (· try simp only [Act.put, List.setIfInBounds_toArray, List.set_cons_zero, List.set_cons_succ]; with_reducible rfl)))
  (with_reducible refine wpCan_isl ?_); apply wpCan_call (hX _ (H.below (bel_drew hbW)) (hT.below H (bel_drew hbW))) rfl (by rfl); (· go_simp); rintro o a1 ⟨rfl, ha1⟩; apply wpCan_told; (· exact fun o => ha1.cell sz); (· try simp only [Act.put, List.setIfInBounds_toArray, List.set_cons_zero, List.set_cons_succ]; with_reducible rfl)
  have Ha1 : Below w.heap.size w a1 := bel_trans (bel_drew hbW) ha1
  (with_reducible refine wpCan_isl ?_); apply wpCan_call (hY _ (H.below Ha1) (hT.below H Ha1)) rfl (by rfl); (· go_simp); rintro o b1 ⟨rfl, hb1⟩; apply wpCan_told; (· exact fun o => (hb1.cell (Nat.lt_of_lt_of_le sz ha1.size)).trans (ha1.cell sz)); (· try simp only [Act.put, List.setIfInBounds_toArray, List.set_cons_zero, List.set_cons_succ]; with_reducible rfl)
  repeat ((with_reducible refine wpCan_isq ?_); first | (apply wpCan_read rfl (by rfl); (· intro w' hS; go_simp; with_reducible rfl); (· try simp only [Act.put, List.setIfInBounds_toArray, List.set_cons_zero, List.set_cons_succ]; with_reducible rfl)) | (apply wpCan_no rfl (by rfl); (· try simp only [Act.put, List.setIfInBounds_toArray, List.set_cons_zero, List.set_cons_succ]; with_reducible rfl)))
  refine wpCan_nil ?_
  go_wp2
  · go_ret
    exact ⟨congrArg (fun z => Ending.returned (.int .i64 z)) (show (1 + (b : Int)) = 1 + max (a : Int) (b : Int) by omega), bel_trans Ha1 hb1⟩
  · go_ret
    exact ⟨congrArg (fun z => Ending.returned (.int .i64 z)) (show (1 + (a : Int)) = 1 + max (a : Int) (b : Int) by omega), bel_trans Ha1 hb1⟩

theorem thigh_calls (p tb : Nat) (S : St) (e : Int) : ∀ (t : BT) (h : Int) (w : World), Ar w p S → TreeAt w p tb e → S.bt h t → t.leaves < 1000000 →
    Calls Tryz.prog 156 #[.pointer (some ⟨tb, 0, none⟩), .int .i64 h] w fun o w' => o = .returned (.int .i64 (t.high : Nat)) ∧ Below w.heap.size w w'
  | .leaf l, h, w, H, T, B, _ => high_leaf w p tb S e h l H T B
  | .fork x y, h, w, H, T, B, hl => by
    obtain ⟨hx, hy, E, bx, by'⟩ := B.2
    simp only [BT.leaves] at hl
    have := x.high_le
    have := y.high_le
    exact high_fork w p tb S e h hx hy x y _ _ H T B E (fun w' H' T' => thigh_calls p tb S e x hx w' H' T' bx (by omega)) (fun w' H' T' => thigh_calls p tb S e y hy w' H' T' by' (by omega)) (by omega)

set_option maxHeartbeats 2000000 in
theorem told_calls (w : World) (p tb : Nat) (e h : Int) (T : TreeAt w p tb e) :
    Calls Tryz.prog 87 #[.pointer (some ⟨tb, 0, none⟩), .int .i64 h] w fun o w' => o = .returned (.tuple #[.int .i64 (if e = 0 then h else 0), .int .i64 e]) ∧ Below w.heap.size w w' := by
  obtain ⟨d0, d1, dz, dl, _⟩ := T
  by_cases he : e = 0
  · subst he
    go_enter Tryz.func87, Tryz.ntmps87
    go_wp2
    go_ret2
    exact ⟨rfl, (by repeat (first | with_reducible exact Below.refl _ _ | with_reducible assumption | with_reducible refine bel_drewN ?_ | with_reducible refine bel_drew ?_ | with_reducible refine bel_alloc ?_ _ | with_reducible refine bel_set ?_ _ ?_ | with_reducible refine bel_trans ?_ (by with_reducible assumption) | ((try dsimp only); omega)))⟩
  · have hee : (e == 0) = false := by simp [he]
    rw [if_neg he]
    go_enter Tryz.func87, Tryz.ntmps87
    go_wp2
    refine wp_region_can (fun w' => ∀ o, w'.cell? ⟨tb, o, none⟩ = w.cell? ⟨tb, o, none⟩) [(0, false), (1, false), (2, false), (3, false), (4, false), (5, false)] (by kernel_rfl) (by kernel_rfl) (fun _ d _ _ _ h => by cases d <;> exact h) ?_ ?_
    · exact fun _ => rfl
    repeat ((with_reducible refine wpCan_isq ?_); first | (apply wpCan_read rfl (by rfl); (· intro w' hS; go_simp; with_reducible rfl); (· try simp only [Act.put, List.setIfInBounds_toArray, List.set_cons_zero, List.set_cons_succ]; with_reducible rfl)) | (apply wpCan_no rfl (by rfl); (· try simp only [Act.put, List.setIfInBounds_toArray, List.set_cons_zero, List.set_cons_succ]; with_reducible rfl)))
    refine wpCan_nil ?_
    go_wp2
    go_ret2
    exact ⟨rfl, (by repeat (first | with_reducible exact Below.refl _ _ | with_reducible assumption | with_reducible refine bel_drewN ?_ | with_reducible refine bel_drew ?_ | with_reducible refine bel_alloc ?_ _ | with_reducible refine bel_set ?_ _ ?_ | with_reducible refine bel_trans ?_ (by with_reducible assumption) | ((try dsimp only); omega)))⟩

/-- A list that was just written out: [h]. -/
theorem drop1_calls (w : World) (p tb : Nat) (S : St) (e h : Int) (T0 : TypeId) (H : Ar w p S) (T : TreeAt w p tb e) :
    Calls Tryz.prog 154 #[.pointer (some ⟨tb, 0, none⟩), .slice (some ⟨w.heap.size, 0, none⟩) 1 1] (w.alloc (.cells #[.int .i64 h] T0)) fun r w' => r = .returned (.tuple #[]) ∧ Ar w' p (S.drop h) ∧ Fr [] p w w' :=
  (tdrop_calls (w.alloc (.cells #[.int .i64 h] T0)) p tb w.heap.size 0 1 S e [h] (H.alloc _) (T.below H (bel_alloc (Below.refl _ _) _)) (by simp) (by simp)
    (fun i x hx => by match i, hx with | 0, hx => simp at hx; subst hx; rw [World.cell?_alloc_at _ _ _ _ (by simp)]; rfl) (Loc.new H _)).mono fun _ _ h => ⟨h.1, h.2.1, (Fr.alloc1 H.lt _).trans h.2.2⟩
/-- [x, y]. -/
theorem drop2_calls (w : World) (p tb : Nat) (S : St) (e x y : Int) (T0 : TypeId) (H : Ar w p S) (T : TreeAt w p tb e) :
    Calls Tryz.prog 154 #[.pointer (some ⟨tb, 0, none⟩), .slice (some ⟨w.heap.size, 0, none⟩) 2 2] (w.alloc (.cells #[.int .i64 x, .int .i64 y] T0)) fun r w' => r = .returned (.tuple #[]) ∧ Ar w' p ((S.drop x).drop y) ∧ Fr [] p w w' :=
  (tdrop_calls (w.alloc (.cells #[.int .i64 x, .int .i64 y] T0)) p tb w.heap.size 0 2 S e [x, y] (H.alloc _) (T.below H (bel_alloc (Below.refl _ _) _)) (by simp) (by simp)
    (fun i z hx => by match i, hx with | 0, hx => (simp at hx; subst hx; rw [World.cell?_alloc_at _ _ _ _ (by simp)]; rfl) | 1, hx => (simp at hx; subst hx; rw [World.cell?_alloc_at _ _ _ _ (by simp)]; rfl)) (Loc.new H _)).mono fun _ _ h => ⟨h.1, h.2.1, (Fr.alloc1 H.lt _).trans h.2.2⟩
end Go.Proofs.YtngfalbabgpnnaaGreat

namespace Go.Proofs.YtngfalbabgpnnaaGreat
open Go.RowKit St

set_option maxHeartbeats 2000000 in
set_option maxRecDepth 100000 in
theorem topen_calls (w : World) (p tb : Nat) (S : St) (f : Int → Nat) (e h : Int) (x y : BT) (H : Ar w p S) (T : TreeAt w p tb e) (I : S.Inv (more h f)) (sl : slack f 4) (B : S.bt h (.fork x y)) :
    Calls Tryz.prog 157 #[.pointer (some ⟨tb, 0, none⟩), .int .i64 h] w fun o w' => ∃ S' hx hy, o = .returned (.tuple #[.int .i64 hx, .int .i64 hy]) ∧ Ar w' p S' ∧ TreeAt w' p tb e ∧ Fr [] p w w' ∧
      S'.Inv (more hx (more hy f)) ∧ Grow S S' ∧ S'.usedN = S.usedN ∧ S'.bt hx x ∧ S'.bt hy y := by
  have hT := T
  obtain ⟨hx, hy, E, bx, by'⟩ := B.2
  have HG := fun w' (hb : Below w.heap.size w w') => row_fork w' p S h hx hy x y _ _ (H.below hb) B E
  have fin : (((S.keep hx).keep hy).drop h).Inv (more hx (more hy f)) ∧ Grow S (((S.keep hx).keep hy).drop h) ∧ (((S.keep hx).keep hy).drop h).usedN = S.usedN ∧ (((S.keep hx).keep hy).drop h).bt hx x ∧ (((S.keep hx).keep hy).drop h).bt hy y := by
    have i1 := (I.keep bx.live (by have := sl hx; simp only [more]; split <;> omega)).1
    have l2 : (S.keep hx).live hy := by
      have y0 := (live.ne H.2 by'.live).1
      exact i1.kid_pos (g := h) (by rw [keep_used]; exact B.1.1) (by omega) (by rw [keep_node, E]; exact kc_pos.2 (by simp [forkNd]))
    have i2 := (i1.keep l2 (by have := sl hy; simp only [more]; split <;> split <;> omega)).1
    rw [more_comm hy hx, more_comm hy h, more_comm hx h] at i2
    have i3 := i2.drop
    have g : Grow S (((S.keep hx).keep hy).drop h) := ((Grow.keep S hx).trans (Grow.keep _ hy)).trans (Grow.drop _ h)
    have x0 := (live.ne H.2 bx.live).1
    have y0 := (live.ne H.2 by'.live).1
    refine ⟨i3, g, ?_, bt_root g i3 (i3.held_pos (by omega) (by simp only [more]; simp)) bx, bt_root g i3 (i3.held_pos (by omega) (by rw [more_comm hx hy, more_self]; omega)) by'⟩
    rw [Inv.usedN_congr (drop_n _ _) (drop_used _ _), Inv.usedN_congr (keep_n _ _) (keep_used _ _), Inv.usedN_congr (keep_n _ _) (keep_used _ _)]
  have fin := hid fin
  unfold forkNd Nd.arr at HG
  generalize x.bits.length + y.bits.length = n at *
  generalize x.bits.count true + y.bits.count true = o at *
  clear B E bx by' I
  obtain ⟨d0, d1, dz, dl, _⟩ := T
  go_enter Tryz.func157, Tryz.ntmps157
  go_wp2_with fail
  refine (HG _ (by repeat (first | with_reducible exact Below.refl _ _ | with_reducible assumption | with_reducible refine bel_drewN ?_ | with_reducible refine bel_drew ?_ | with_reducible refine bel_alloc ?_ _ | with_reducible refine bel_set ?_ _ ?_ | with_reducible refine bel_trans ?_ (by with_reducible assumption) | ((try dsimp only); omega)))).mono ?_; rintro e1 w1 ⟨rfl, hb1⟩; obtain ⟨hc1, hf1⟩ := bcell hb1
  go_wp2
  generalize hW : w1.alloc _ = W
  have l0 : W.cell? ⟨w1.heap.size, 0, none⟩ = some (.int .i64 2) := (by subst hW; go_simp); have l1 : W.cell? ⟨w1.heap.size, 1, none⟩ = some (.int .i64 hx) := (by subst hW; go_simp); have l2 : W.cell? ⟨w1.heap.size, 2, none⟩ = some (.int .i64 hy) := (by subst hW; go_simp); have l3 : W.cell? ⟨w1.heap.size, 3, none⟩ = some (.int .i64 0) := (by subst hW; go_simp); have l4 : W.cell? ⟨w1.heap.size, 4, none⟩ = some (.int .i64 0) := (by subst hW; go_simp); have l5 : W.cell? ⟨w1.heap.size, 5, none⟩ = some (.int .u64 n) := (by subst hW; go_simp); have l6 : W.cell? ⟨w1.heap.size, 6, none⟩ = some (.int .u64 o) := (by subst hW; go_simp)
  have hbW : Below w.heap.size w W := by subst hW; exact (by repeat (first | with_reducible exact Below.refl _ _ | with_reducible assumption | with_reducible refine bel_drewN ?_ | with_reducible refine bel_drew ?_ | with_reducible refine bel_alloc ?_ _ | with_reducible refine bel_set ?_ _ ?_ | with_reducible refine bel_trans ?_ (by with_reducible assumption) | ((try dsimp only); omega)))
  have LW : Loc p W w1.heap.size := by subst hW; exact Loc.new (H.below hb1) _
  have HW := H.below hbW
  have TW := hT.below H hbW
  have FW : Fr [] p w W := Fr.of_below H hbW
  clear hW hc1 hf1
  refine wp_region_can (fun w' => ∀ o, w'.cell? ⟨w1.heap.size, o, none⟩ = W.cell? ⟨w1.heap.size, o, none⟩) [(0, false), (1, false), (2, false), (3, false), (5, false), (6, false), (7, false), (8, false), (4, true), (9, true), (10, false), (11, false)] (by kernel_rfl) (by kernel_rfl) (fun _ d _ _ _ h => by cases d <;> exact h) ?_ ?_
  · exact fun _ => rfl
  repeat ((with_reducible refine wpCan_isq ?_); first | (apply wpCan_read rfl (by rfl); (· intro w' hS; go_simp; with_reducible rfl); (· try simp only [Act.put, List.setIfInBounds_toArray, List.set_cons_zero, List.set_cons_succ]; with_reducible rfl)) | (apply wpCan_no rfl (by rfl); (· try simp only [Act.put, List.setIfInBounds_toArray, List.set_cons_zero, List.set_cons_succ]; with_reducible rfl)))
  (with_reducible refine wpCan_isl ?_); apply wpCan_call (tkeep_calls _ p tb S e hx HW.drew (hT.below H (bel_drew hbW))) rfl (by rfl); (· go_simp); rintro o w2 ⟨rfl, H2, F2⟩; apply wpCan_told; (· exact fun o => World.cell?_of_block (a := ⟨w1.heap.size, o, none⟩) (F2.loc LW.drew (by simp)).2); (· try simp only [Act.put, List.setIfInBounds_toArray, List.set_cons_zero, List.set_cons_succ]; with_reducible rfl)
  have T2 := (hT.below H (bel_drew hbW)).fr F2
  have L2 := F2.loc LW.drew (by simp)
  (with_reducible refine wpCan_isl ?_); apply wpCan_call (tkeep_calls _ p tb _ e hy H2 T2) rfl (by rfl); (· go_simp); rintro o w3 ⟨rfl, H3, F3⟩; apply wpCan_told; (· exact fun o => (World.cell?_of_block (a := ⟨w1.heap.size, o, none⟩) (F3.loc L2.1 (by simp)).2).trans (World.cell?_of_block (a := ⟨w1.heap.size, o, none⟩) L2.2)); (· try simp only [Act.put, List.setIfInBounds_toArray, List.set_cons_zero, List.set_cons_succ]; with_reducible rfl)
  have T3 := T2.fr F3
  repeat ((with_reducible refine wpCan_isq ?_); first | (apply wpCan_read rfl (by rfl); (· intro w' hS; go_simp; with_reducible rfl); (· try simp only [Act.put, List.setIfInBounds_toArray, List.set_cons_zero, List.set_cons_succ]; with_reducible rfl)) | (apply wpCan_no rfl (by rfl); (· try simp only [Act.put, List.setIfInBounds_toArray, List.set_cons_zero, List.set_cons_succ]; with_reducible rfl)))
  refine wpCan_nil ?_
  go_wp2_with fail
  refine (drop1_calls w3 p tb _ e h _ H3 T3).mono ?_
  rintro o w4 ⟨rfl, H4, F4⟩
  go_wp2
  go_ret2
  exact ⟨_, _, _, rfl, H4, T3.fr F4, ((FW.drew.trans F2).trans F3).trans F4, fin.out⟩

set_option maxHeartbeats 2000000 in
theorem tpairOr_calls (w : World) (p tb : Nat) (S : St) (f : Int → Nat) (e x y : Int) (tx ty : BT) (H : Ar w p S) (T : TreeAt w p tb e) (he : e = 0 ∨ e = 2) (I : S.Inv (more x (more y f)))
    (hB : e = 0 → (S.bt x tx ∧ tx.ok) ∧ S.bt y ty ∧ ty.ok) (hl : tx.bits.length + ty.bits.length < 1000000) :
    Calls Tryz.prog 124 #[.pointer (some ⟨tb, 0, none⟩), .int .i64 x, .int .i64 y] w fun o w' => ∃ S' r e', o = .returned (.int .i64 r) ∧ Ar w' p S' ∧ TreeAt w' p tb e' ∧ Fr [tb] p w w' ∧ Res S f e S' r e' 1 ∧
      (e' = 0 → S'.bt r (.fork tx ty)) := by
  have hT := T
  obtain ⟨d0, d1, dz, dl, _⟩ := T
  rcases he with rfl | rfl
  · obtain ⟨⟨bx, ox⟩, by', oy⟩ := hB rfl
    have HP := fun w' (h : Ar w' p S) (T : TreeAt w' p tb 0) => tpair_calls w' p tb S f 0 x y tx.bits ty.bits h T (Or.inl rfl) I (brOk bx ox) (brOk by' oy) hl
    go_enter Tryz.func124, Tryz.ntmps124
    go_wp2_with fail
    refine (HP _ H hT).mono ?_
    rintro o w1 ⟨S', r, e', rfl, H1, T1, F1, R, G⟩
    go_wp2
    go_ret
    exact ⟨S', r, e', rfl, H1, T1, F1, R, fun h => (G h).2 tx ty bx by' rfl rfl⟩
  · go_enter Tryz.func124, Tryz.ntmps124
    go_wp2_with fail
    refine (drop2_calls w p tb S 2 x y _ H hT).mono ?_
    rintro o w1 ⟨rfl, H1, F1⟩
    go_wp2
    go_ret
    exact ⟨_, 0, 2, rfl, H1, hT.fr F1, F1.any, ⟨(Grow.drop _ _).trans (Grow.drop _ _), by rw [Inv.usedN_congr (drop_n _ _) (drop_used _ _), Inv.usedN_congr (drop_n _ _) (drop_used _ _)]; omega, Or.inr ⟨rfl, rfl, I.drop.drop⟩, fun _ => by decide, fun h => absurd h (by decide)⟩, fun h => absurd h (by decide)⟩
end Go.Proofs.YtngfalbabgpnnaaGreat

namespace Go.Proofs.YtngfalbabgpnnaaGreat
open Go.RowKit St

/-- A handle of some row, or 0. -/
def St.any (S : St) (x : Int) : Prop := ∃ l, S.br x l ∧ l.length < 400000
theorem any_zero (S : St) : S.any 0 := ⟨[], Or.inl ⟨rfl, rfl⟩, by simp⟩
theorem any_bt {S : St} {x : Int} {t : BT} (b : S.bt x t) (o : t.ok) (h : t.bits.length < 400000) : S.any x := ⟨t.bits, brOk b o, h⟩
theorem any_root {S S' : St} {f' : Int → Nat} (h : Grow S S') (H' : S'.Inv f') {x : Int} (v : x ≠ 0 → S'.live x) (a : S.any x) : S'.any x := by
  obtain ⟨l, b, hl⟩ := a
  rcases b with ⟨rfl, rfl⟩ | ⟨t, b, o, rfl⟩
  · exact any_zero _
  · by_cases q : x = 0
    · subst q; exact any_zero _
    · exact any_bt (bt_root h H' (v q) b) o hl

theorem tpairX_calls (w : World) (p tb : Nat) (S : St) (f : Int → Nat) (e x y : Int) (tx ty : BT) (H : Ar w p S) (T : TreeAt w p tb e) (he : e = 0 ∨ e = 2) (I : S.Inv (more x (more y f)))
    (ax : S.any x) (ay : S.any y) (hB : e = 0 → (S.bt x tx ∧ tx.fat) ∧ S.bt y ty ∧ ty.fat) (hl : tx.bits.length + ty.bits.length < 400000) :
    Calls Tryz.prog 155 #[.pointer (some ⟨tb, 0, none⟩), .int .i64 x, .int .i64 y] w fun o w' => ∃ S' r e', o = .returned (.int .i64 r) ∧ Ar w' p S' ∧ TreeAt w' p tb e' ∧ Fr [tb] p w w' ∧ Res S f e S' r e' 1 ∧
      S'.any r ∧ (e' = 0 → S'.bt r (.fork tx ty) ∧ (BT.fork tx ty).fat) := by
  rcases he with rfl | rfl
  · obtain ⟨⟨bx, ox⟩, by', oy⟩ := hB rfl
    refine (tpair_calls w p tb S f 0 x y tx.bits ty.bits H T (Or.inl rfl) I (brFat bx ox) (brFat by' oy) (by omega)).mono ?_
    rintro o w1 ⟨S', r, e', rfl, H1, T1, F1, R, G⟩
    have G' : e' = 0 → S'.bt r (.fork tx ty) ∧ (BT.fork tx ty).fat := fun h => ⟨(G h).2 tx ty bx by' rfl rfl, ox, oy⟩
    refine ⟨S', r, e', rfl, H1, T1, F1, R, ?_, G'⟩
    rcases R.out with ⟨q, _⟩ | ⟨_, rfl, _⟩
    · exact any_bt (G' q).1 (BT.fat.ok (G' q).2) (by simpa [BT.bits] using hl)
    · exact any_zero _
  · obtain ⟨lx, bx, hx⟩ := ax
    obtain ⟨ly, by', hy⟩ := ay
    refine (tpair_calls w p tb S f 2 x y lx ly H T (Or.inr rfl) I bx by' (by omega)).mono ?_
    rintro o w1 ⟨S', r, e', rfl, H1, T1, F1, R, G⟩
    have : e' = 2 := by rcases R.e2 with q | q; exact absurd q (R.err (by decide)); exact q
    subst this
    rcases R.out with ⟨q, _⟩ | ⟨_, rfl, _⟩
    · exact absurd q (by decide)
    · exact ⟨S', 0, 2, rfl, H1, T1, F1, R, any_zero _, fun q => absurd q (by decide)⟩

theorem resTwo {S S1 S2 S3 : St} {f f1 : Int → Nat} {r1 r e1 e' : Int} {c1 c2 : Nat} (g : Grow S S1) (u : S1.usedN = S.usedN) (R1 : Res S1 f1 0 S2 r1 e1 c1) (R2 : Res S2 f e1 S3 r e' c2) : Res S f 0 S3 r e' (c1 + c2) :=
  ⟨(g.trans R1.grow).trans R2.grow, by have := R1.made; have := R2.made; omega, R2.out, fun h => absurd rfl h, fun _ h => by
    have a := R1.room rfl (by rw [g.n]; omega)
    exact R2.room a (by rw [R1.grow.n, g.n]; have := R1.made; omega)⟩

/-- What fork leaves. -/
def ForkR (S : St) (f : Int → Nat) (tx ty : BT) (e : Int) (S' : St) (r e' : Int) : Prop :=
  Res S f e S' r e' 3 ∧ (e' = 0 → ∃ t, S'.bt r t ∧ t.fat ∧ t.bits = tx.bits ++ ty.bits ∧ t.leaves = tx.leaves + ty.leaves)

theorem resMono {S S' : St} {f : Int → Nat} {e r e' : Int} {c d : Nat} (R : Res S f e S' r e' c) (h : c ≤ d) : Res S f e S' r e' d :=
  ⟨R.grow, by have := R.made; omega, R.out, R.err, fun a b => R.room a (by omega)⟩

set_option maxHeartbeats 2000000 in
set_option maxRecDepth 100000 in
theorem tfork_err (w : World) (p tb : Nat) (S : St) (f : Int → Nat) (x y : Int) (tx ty : BT) (H : Ar w p S) (T : TreeAt w p tb 2) (I : S.Inv (more x (more y f))) :
    Calls Tryz.prog 125 #[.pointer (some ⟨tb, 0, none⟩), .int .i64 x, .int .i64 y] w fun o w' => ∃ S' r e', o = .returned (.int .i64 r) ∧ Ar w' p S' ∧ TreeAt w' p tb e' ∧ Fr [tb] p w w' ∧ ForkR S f tx ty 2 S' r e' := by
  have hT := T
  obtain ⟨d0, d1, dz, dl, _⟩ := T
  go_enter Tryz.func125, Tryz.ntmps125
  go_wp2_with fail
  refine (drop2_calls w p tb S 2 x y _ H hT).mono ?_
  rintro o w1 ⟨rfl, H1, F1⟩
  go_wp2
  go_ret
  exact ⟨_, 0, 2, rfl, H1, hT.fr F1, F1.any, ⟨(Grow.drop _ _).trans (Grow.drop _ _), by rw [Inv.usedN_congr (drop_n _ _) (drop_used _ _), Inv.usedN_congr (drop_n _ _) (drop_used _ _)]; omega, Or.inr ⟨rfl, rfl, I.drop.drop⟩, fun _ => by decide, fun h => absurd h (by decide)⟩, fun h => absurd h (by decide)⟩

set_option maxHeartbeats 4000000 in
set_option maxRecDepth 100000 in
/-- The left one is not too high, nor the right one. -/
theorem tfork_even (w : World) (p tb : Nat) (S : St) (f : Int → Nat) (x y : Int) (tx ty : BT) (H : Ar w p S) (T : TreeAt w p tb 0) (I : S.Inv (more x (more y f)))
    (bx : S.bt x tx) (fx : tx.fat) (by' : S.bt y ty) (fy : ty.fat) (hl : tx.bits.length + ty.bits.length < 400000) (h1 : tx.high ≤ ty.high + 1) (h2 : ty.high ≤ tx.high + 1) :
    Calls Tryz.prog 125 #[.pointer (some ⟨tb, 0, none⟩), .int .i64 x, .int .i64 y] w fun o w' => ∃ S' r e', o = .returned (.int .i64 r) ∧ Ar w' p S' ∧ TreeAt w' p tb e' ∧ Fr [tb] p w w' ∧ ForkR S f tx ty 0 S' r e' := by
  have hT := T
  have l1 := fx.len
  have l2 := fy.len
  have HX := fun w' (hb : Below w.heap.size w w') => thigh_calls p tb S 0 tx x w' (H.below hb) (hT.below H hb) bx (by omega)
  have HY := fun w' (hb : Below w.heap.size w w') => thigh_calls p tb S 0 ty y w' (H.below hb) (hT.below H hb) by' (by omega)
  have HP := fun w' (hb : Below w.heap.size w w') => tpairX_calls w' p tb S f 0 x y tx ty (H.below hb) (hT.below H hb) (Or.inl rfl) I (any_bt bx (BT.fat.ok fx) (by omega)) (any_bt by' (BT.fat.ok fy) (by omega)) (fun _ => ⟨⟨bx, fx⟩, by', fy⟩) hl
  have a1 := tx.high_le
  have a2 := ty.high_le
  obtain ⟨d0, d1, dz, dl, _⟩ := T
  generalize tx.high = p1 at *
  generalize ty.high = p2 at *
  have q1 : ¬ ((p1 : Int) > (p2 : Int) + 1) := by omega
  have q2 : ¬ ((p2 : Int) > (p1 : Int) + 1) := by omega
  have q3 : (p1 : Int) ≤ (p2 : Int) + 1 := by omega
  have q4 : (p2 : Int) ≤ (p1 : Int) + 1 := by omega
  have v1 : IntKind.i64.wrap ((p1 : Int) + 1) = (p1 : Int) + 1 := by simp [IntKind.wrap, IntKind.bits, IntKind.signed]; omega
  have v2 : IntKind.i64.wrap ((p2 : Int) + 1) = (p2 : Int) + 1 := by simp [IntKind.wrap, IntKind.bits, IntKind.signed]; omega
  clear l1 l2 a1 a2 bx fx by' fy I h1 h2
  go_enter Tryz.func125, Tryz.ntmps125
  go_wp2_with fail
  refine (HX _ (by repeat (first | with_reducible exact Below.refl _ _ | with_reducible assumption | with_reducible refine bel_drewN ?_ | with_reducible refine bel_drew ?_ | with_reducible refine bel_alloc ?_ _ | with_reducible refine bel_set ?_ _ ?_ | with_reducible refine bel_trans ?_ (by with_reducible assumption) | ((try dsimp only); omega)))).mono ?_; rintro o w1 ⟨rfl, hb1⟩
  go_wp2_with fail
  refine (HY _ (by repeat (first | with_reducible exact Below.refl _ _ | with_reducible assumption | with_reducible refine bel_drewN ?_ | with_reducible refine bel_drew ?_ | with_reducible refine bel_alloc ?_ _ | with_reducible refine bel_set ?_ _ ?_ | with_reducible refine bel_trans ?_ (by with_reducible assumption) | ((try dsimp only); omega)))).mono ?_; rintro o w2 ⟨rfl, hb2⟩
  have hb3 := bel_trans hb1 hb2
  go_wp2_with fail
  refine (HP _ (by repeat (first | with_reducible exact Below.refl _ _ | with_reducible assumption | with_reducible refine bel_drewN ?_ | with_reducible refine bel_drew ?_ | with_reducible refine bel_alloc ?_ _ | with_reducible refine bel_set ?_ _ ?_ | with_reducible refine bel_trans ?_ (by with_reducible assumption) | ((try dsimp only); omega)))).mono ?_; rintro o w3 ⟨S', r, e', rfl, H3, T3, F3, R, _, G⟩
  go_wp2
  go_ret
  exact ⟨S', r, e', rfl, H3, T3, (Fr.of_below H hb3).trans F3, resMono R (by decide), fun h => ⟨_, (G h).1, (G h).2, rfl, rfl⟩⟩
end Go.Proofs.YtngfalbabgpnnaaGreat

namespace Go.Proofs.YtngfalbabgpnnaaGreat
open Go.RowKit St

theorem held1 {S : St} {f : Int → Nat} {x : Int} (I : S.Inv (more x f)) (h : x ≠ 0) : S.live x := I.held_pos h (by rw [more_self]; omega)
theorem held2 {S : St} {f : Int → Nat} {x y : Int} (I : S.Inv (more y (more x f))) (h : x ≠ 0) : S.live x := by rw [more_comm] at I; exact held1 I h
theorem held3 {S : St} {f : Int → Nat} {x y z : Int} (I : S.Inv (more z (more y (more x f)))) (h : x ≠ 0) : S.live x := by rw [more_comm y x] at I; exact held2 I h
theorem held4 {S : St} {f : Int → Nat} {x y z u : Int} (I : S.Inv (more u (more z (more y (more x f))))) (h : x ≠ 0) : S.live x := by rw [more_comm y x] at I; exact held3 I h
theorem bt_ne {S : St} {f : Int → Nat} (I : S.Inv f) {x : Int} {t : BT} (b : S.bt x t) : x ≠ 0 := by have := (live.ne I.wf b.live).1; omega
theorem wrap_add1 {p : Nat} (h : p < 1000000) : IntKind.i64.wrap ((p : Int) + 1) = (p : Int) + 1 := by simp [IntKind.wrap, IntKind.bits, IntKind.signed]; omega

set_option maxHeartbeats 4000000 in
set_option maxRecDepth 100000 in
theorem tfork_left1 (w : World) (p tb : Nat) (S : St) (f : Int → Nat) (x y : Int) (u v ty : BT) (H : Ar w p S) (T : TreeAt w p tb 0) (I : S.Inv (more x (more y f))) (sl : slack f 8)
    (bx : S.bt x (.fork u v)) (fu : u.fat) (fv : v.fat) (by' : S.bt y ty) (fy : ty.fat) (hl : u.bits.length + v.bits.length + ty.bits.length < 400000) (h1 : ty.high + 1 < (BT.fork u v).high) (h2 : v.high ≤ u.high) :
    Calls Tryz.prog 125 #[.pointer (some ⟨tb, 0, none⟩), .int .i64 x, .int .i64 y] w fun o w' => ∃ S' r e', o = .returned (.int .i64 r) ∧ Ar w' p S' ∧ TreeAt w' p tb e' ∧ Fr [tb] p w w' ∧ ForkR S f (.fork u v) ty 0 S' r e' := by
  have hT := T
  have l1 := fu.len
  have l2 := fv.len
  have l3 := fy.len
  have HX := fun w' (hb : Below w.heap.size w w') => thigh_calls p tb S 0 _ x w' (H.below hb) (hT.below H hb) bx (by simp only [BT.leaves]; omega)
  have HY := fun w' (hb : Below w.heap.size w w') => thigh_calls p tb S 0 ty y w' (H.below hb) (hT.below H hb) by' (by omega)
  have HO := fun w' (hb : Below w.heap.size w w') => topen_calls w' p tb S (more y f) 0 x u v (H.below hb) (hT.below H hb) I ((sl.le (m := 5) (by omega)).more y) bx
  have a1 := (BT.fork u v).high_le
  simp only [BT.leaves] at a1
  have a2 := ty.high_le
  have a3 := u.high_le
  have a4 := v.high_le
  obtain ⟨d0, d1, dz, dl, _⟩ := T
  have q1 : (((BT.fork u v).high : Nat) : Int) > (ty.high : Int) + 1 := by omega
  have v1 := wrap_add1 (p := ty.high) (by omega)
  have hy := hid by'
  have y0 : y ≠ 0 := bt_ne I by'
  generalize hp1 : (BT.fork u v).high = p1 at *
  generalize hp2 : ty.high = p2 at *
  have hp1 := hid hp1
  have hp2 := hid hp2
  clear by' bx I
  go_enter Tryz.func125, Tryz.ntmps125
  go_wp2_with fail
  refine (HX _ (by repeat (first | with_reducible exact Below.refl _ _ | with_reducible assumption | with_reducible refine bel_drewN ?_ | with_reducible refine bel_drew ?_ | with_reducible refine bel_alloc ?_ _ | with_reducible refine bel_set ?_ _ ?_ | with_reducible refine bel_trans ?_ (by with_reducible assumption) | ((try dsimp only); omega)))).mono ?_; rintro o w1 ⟨rfl, hb1⟩
  go_wp2_with fail
  refine (HY _ (by repeat (first | with_reducible exact Below.refl _ _ | with_reducible assumption | with_reducible refine bel_drewN ?_ | with_reducible refine bel_drew ?_ | with_reducible refine bel_alloc ?_ _ | with_reducible refine bel_set ?_ _ ?_ | with_reducible refine bel_trans ?_ (by with_reducible assumption) | ((try dsimp only); omega)))).mono ?_; rintro o w2 ⟨rfl, hb2⟩
  have hb3 := bel_trans hb1 hb2
  clear HX HY hb1 hb2
  go_wp2_with fail
  refine (HO _ (by repeat (first | with_reducible exact Below.refl _ _ | with_reducible assumption | with_reducible refine bel_drewN ?_ | with_reducible refine bel_drew ?_ | with_reducible refine bel_alloc ?_ _ | with_reducible refine bel_set ?_ _ ?_ | with_reducible refine bel_trans ?_ (by with_reducible assumption) | ((try dsimp only); omega)))).mono ?_; rintro o w3 ⟨S1, hu, hv, rfl, H3, T3, F3, I1, g1, u1, bu, bv⟩
  have by1 := bt_root g1 I1 (held3 I1 y0) hy.out
  have T3' := T3
  have HX := fun w' (hb : Below w3.heap.size w3 w') => thigh_calls p tb S1 0 u hu w' (H3.below hb) (T3'.below H3 hb) bu (by omega)
  have HY := fun w' (hb : Below w3.heap.size w3 w') => thigh_calls p tb S1 0 v hv w' (H3.below hb) (T3'.below H3 hb) bv (by omega)
  have hu0 := bt_ne I1 bu
  have hv0 := bt_ne I1 bv
  have I1b : S1.Inv (more hv (more y (more hu f))) := by rw [more_comm hu hv, more_comm hu y] at I1; exact I1
  have HP := fun w' (hb : Below w3.heap.size w3 w') => tpairX_calls w' p tb S1 (more hu f) 0 hv y v ty (H3.below hb) (T3'.below H3 hb) (Or.inl rfl) I1b (any_bt bv (BT.fat.ok fv) (by omega)) (any_bt by1 (BT.fat.ok fy) (by omega)) (fun _ => ⟨⟨bv, fv⟩, by1, fy⟩) (by omega)
  have q2 : ((u.high : Nat) : Int) ≥ (v.high : Int) := by omega
  have bu' := hid bu
  generalize hp3 : u.high = p3 at *
  generalize hp4 : v.high = p4 at *
  clear HO bu bv by1 I1b
  have I1 := hid I1
  go_wp2_with fail
  refine (HX _ (by repeat (first | with_reducible exact Below.refl _ _ | with_reducible assumption | with_reducible refine bel_drewN ?_ | with_reducible refine bel_drew ?_ | with_reducible refine bel_alloc ?_ _ | with_reducible refine bel_set ?_ _ ?_ | with_reducible refine bel_trans ?_ (by with_reducible assumption) | ((try dsimp only); omega)))).mono ?_; rintro o w4 ⟨rfl, hb4⟩
  go_wp2_with fail
  refine (HY _ (by repeat (first | with_reducible exact Below.refl _ _ | with_reducible assumption | with_reducible refine bel_drewN ?_ | with_reducible refine bel_drew ?_ | with_reducible refine bel_alloc ?_ _ | with_reducible refine bel_set ?_ _ ?_ | with_reducible refine bel_trans ?_ (by with_reducible assumption) | ((try dsimp only); omega)))).mono ?_; rintro o w5 ⟨rfl, hb5⟩
  have hb6 := bel_trans hb4 hb5
  clear HX HY hb4 hb5
  go_wp2_with fail
  refine (HP _ (by repeat (first | with_reducible exact Below.refl _ _ | with_reducible assumption | with_reducible refine bel_drewN ?_ | with_reducible refine bel_drew ?_ | with_reducible refine bel_alloc ?_ _ | with_reducible refine bel_set ?_ _ ?_ | with_reducible refine bel_trans ?_ (by with_reducible assumption) | ((try dsimp only); omega)))).mono ?_; rintro o w6 ⟨S2, r1, e1, rfl, H6, T6, F6, R1, ar1, G1⟩
  have I2 : S2.Inv (more hu (more r1 f)) := by have := R1.inv; rw [more_comm r1 hu] at this; exact this
  have bu2 := bt_root R1.grow I2 (held1 I2 hu0) bu'.out
  go_wp2_with fail
  refine (tpairX_calls w6 p tb S2 f e1 hu r1 u (.fork v ty) H6 T6 R1.e2 I2 (any_bt bu2 (BT.fat.ok fu) (by omega)) ar1 (fun q => ⟨⟨bu2, fu⟩, (G1 q).1, (G1 q).2⟩) (by simp only [BT.bits, List.length_append]; omega)).mono ?_
  rintro o w7 ⟨S3, r, e', rfl, H7, T7, F7, R2, _, G2⟩
  go_wp2
  go_ret
  refine ⟨S3, r, e', rfl, H7, T7, ?_, resMono (resTwo g1 u1 R1 R2) (by decide), fun h => ⟨_, (G2 h).1, (G2 h).2, ?_, ?_⟩⟩
  · exact (((Fr.of_below H hb3).trans F3.any).trans ((Fr.of_below H3 hb6).trans F6)).trans F7
  · simp only [BT.bits, List.append_assoc]
  · simp only [BT.leaves]; omega
set_option maxHeartbeats 4000000 in
set_option maxRecDepth 100000 in
theorem tfork_left2 (w : World) (p tb : Nat) (S : St) (f : Int → Nat) (x y : Int) (u b c ty : BT) (H : Ar w p S) (T : TreeAt w p tb 0) (I : S.Inv (more x (more y f))) (sl : slack f 8)
    (bx : S.bt x (.fork u (.fork b c))) (fu : u.fat) (fv : (BT.fork b c).fat) (by' : S.bt y ty) (fy : ty.fat) (hl : u.bits.length + (BT.fork b c).bits.length + ty.bits.length < 400000) (h1 : ty.high + 1 < (BT.fork u (.fork b c)).high) (h2 : u.high < (BT.fork b c).high) :
    Calls Tryz.prog 125 #[.pointer (some ⟨tb, 0, none⟩), .int .i64 x, .int .i64 y] w fun o w' => ∃ S' r e', o = .returned (.int .i64 r) ∧ Ar w' p S' ∧ TreeAt w' p tb e' ∧ Fr [tb] p w w' ∧ ForkR S f (.fork u (.fork b c)) ty 0 S' r e' := by
  have hT := T
  have l1 := fu.len
  have l2 := fv.len
  simp only [BT.leaves] at l2
  have l3 := fy.len
  have HX := fun w' (hb : Below w.heap.size w w') => thigh_calls p tb S 0 _ x w' (H.below hb) (hT.below H hb) bx (by simp only [BT.leaves]; omega)
  have HY := fun w' (hb : Below w.heap.size w w') => thigh_calls p tb S 0 ty y w' (H.below hb) (hT.below H hb) by' (by omega)
  have HO := fun w' (hb : Below w.heap.size w w') => topen_calls w' p tb S (more y f) 0 x u (.fork b c) (H.below hb) (hT.below H hb) I ((sl.le (m := 5) (by omega)).more y) bx
  have a1 := (BT.fork u (.fork b c)).high_le
  simp only [BT.leaves] at a1
  have a2 := ty.high_le
  have a3 := u.high_le
  have a4 := (BT.fork b c).high_le
  simp only [BT.leaves] at a4
  obtain ⟨d0, d1, dz, dl, _⟩ := T
  have q1 : (((BT.fork u (.fork b c)).high : Nat) : Int) > (ty.high : Int) + 1 := by omega
  have v1 := wrap_add1 (p := ty.high) (by omega)
  have hy := hid by'
  have y0 : y ≠ 0 := bt_ne I by'
  generalize hp1 : (BT.fork u (.fork b c)).high = p1 at *
  generalize hp2 : ty.high = p2 at *
  have hp1 := hid hp1
  have hp2 := hid hp2
  clear by' bx I
  go_enter Tryz.func125, Tryz.ntmps125
  go_wp2_with fail
  refine (HX _ (by repeat (first | with_reducible exact Below.refl _ _ | with_reducible assumption | with_reducible refine bel_drewN ?_ | with_reducible refine bel_drew ?_ | with_reducible refine bel_alloc ?_ _ | with_reducible refine bel_set ?_ _ ?_ | with_reducible refine bel_trans ?_ (by with_reducible assumption) | ((try dsimp only); omega)))).mono ?_; rintro o w1 ⟨rfl, hb1⟩
  go_wp2_with fail
  refine (HY _ (by repeat (first | with_reducible exact Below.refl _ _ | with_reducible assumption | with_reducible refine bel_drewN ?_ | with_reducible refine bel_drew ?_ | with_reducible refine bel_alloc ?_ _ | with_reducible refine bel_set ?_ _ ?_ | with_reducible refine bel_trans ?_ (by with_reducible assumption) | ((try dsimp only); omega)))).mono ?_; rintro o w2 ⟨rfl, hb2⟩
  have hb3 := bel_trans hb1 hb2
  clear HX HY hb1 hb2
  go_wp2_with fail
  refine (HO _ (by repeat (first | with_reducible exact Below.refl _ _ | with_reducible assumption | with_reducible refine bel_drewN ?_ | with_reducible refine bel_drew ?_ | with_reducible refine bel_alloc ?_ _ | with_reducible refine bel_set ?_ _ ?_ | with_reducible refine bel_trans ?_ (by with_reducible assumption) | ((try dsimp only); omega)))).mono ?_; rintro o w3 ⟨S1, hu, hv, rfl, H3, T3, F3, I1, g1, u1, bu, bv⟩
  have by1 := bt_root g1 I1 (held3 I1 y0) hy.out
  have T3' := T3
  have HX := fun w' (hb : Below w3.heap.size w3 w') => thigh_calls p tb S1 0 u hu w' (H3.below hb) (T3'.below H3 hb) bu (by omega)
  have HY := fun w' (hb : Below w3.heap.size w3 w') => thigh_calls p tb S1 0 (.fork b c) hv w' (H3.below hb) (T3'.below H3 hb) bv (by simp only [BT.leaves]; omega)
  have hu0 := bt_ne I1 bu
  have hv0 := bt_ne I1 bv
  have I1b : S1.Inv (more hv (more hu (more y f))) := by rw [more_comm hu hv] at I1; exact I1
  have HP := fun w' (hb : Below w3.heap.size w3 w') => topen_calls w' p tb S1 (more hu (more y f)) 0 hv b c (H3.below hb) (T3'.below H3 hb) I1b (((sl.le (m := 6) (by omega)).more y).more hu) bv
  have q2 : ¬ ((u.high : Nat) : Int) ≥ ((BT.fork b c).high : Int) := by omega
  have q3 : ((u.high : Nat) : Int) < ((BT.fork b c).high : Int) := by omega
  have bu' := hid bu
  have by1 := hid by1
  have HY : ∀ w', Below w3.heap.size w3 w' → Calls Tryz.prog 156 #[.pointer (some ⟨tb, 0, none⟩), .int .i64 hv] w' fun o w'' => o = .returned (.int .i64 ((BT.fork b c).high : Nat)) ∧ Below w'.heap.size w' w'' := HY
  obtain ⟨fb, fc⟩ := fv
  simp only [BT.bits, List.length_append] at hl
  generalize hp3 : u.high = p3 at *
  generalize hp4 : (BT.fork b c).high = p4 at *
  clear HO bu bv I1b I1
  go_wp2_with fail
  refine (HX _ (by repeat (first | with_reducible exact Below.refl _ _ | with_reducible assumption | with_reducible refine bel_drewN ?_ | with_reducible refine bel_drew ?_ | with_reducible refine bel_alloc ?_ _ | with_reducible refine bel_set ?_ _ ?_ | with_reducible refine bel_trans ?_ (by with_reducible assumption) | ((try dsimp only); omega)))).mono ?_; rintro o w4 ⟨rfl, hb4⟩
  go_wp2_with fail
  refine (HY _ (by repeat (first | with_reducible exact Below.refl _ _ | with_reducible assumption | with_reducible refine bel_drewN ?_ | with_reducible refine bel_drew ?_ | with_reducible refine bel_alloc ?_ _ | with_reducible refine bel_set ?_ _ ?_ | with_reducible refine bel_trans ?_ (by with_reducible assumption) | ((try dsimp only); omega)))).mono ?_; rintro o w5 ⟨rfl, hb5⟩
  have hb6 := bel_trans hb4 hb5
  clear HX HY hb4 hb5
  go_wp2_with fail
  refine (HP _ (by repeat (first | with_reducible exact Below.refl _ _ | with_reducible assumption | with_reducible refine bel_drewN ?_ | with_reducible refine bel_drew ?_ | with_reducible refine bel_alloc ?_ _ | with_reducible refine bel_set ?_ _ ?_ | with_reducible refine bel_trans ?_ (by with_reducible assumption) | ((try dsimp only); omega)))).mono ?_; rintro o w6 ⟨S2, hb, hc, rfl, H6, T6, F6, I2, g2, u2, bb, bc⟩
  have hb0 := bt_ne I2 bb
  have hc0 := bt_ne I2 bc
  have I2b : S2.Inv (more hu (more hb (more hc (more y f)))) := by rw [more_comm hc hu, more_comm hb hu] at I2; exact I2
  have bu2 := bt_root g2 I2b (held1 I2b hu0) bu'.out
  have by2 := bt_root g2 I2b (held4 I2b y0) by1.out
  have bc' := hid bc
  have by2' := hid by2
  have A2 := any_bt bu2 (BT.fat.ok fu) (by omega)
  have A3 := any_bt bb (BT.fat.ok fb) (by omega)
  go_wp2_with fail
  refine (tpairX_calls w6 p tb S2 (more hc (more y f)) 0 hu hb u b H6 T6 (Or.inl rfl) I2b A2 A3 (fun _ => ⟨⟨bu2, fu⟩, bb, fb⟩) (by omega)).mono ?_
  rintro o w7 ⟨S3, r1, e1, rfl, H7, T7, F7, R1, ar1, G1⟩
  have I3 : S3.Inv (more hc (more y (more r1 f))) := by have := R1.inv; rw [more_comm r1 hc, more_comm r1 y] at this; exact this
  have bc3 := bt_root R1.grow I3 (held1 I3 hc0) bc'.out
  have by3 := bt_root R1.grow I3 (held2 I3 y0) by2'.out
  clear HP bc by2 by1
  go_wp2_with fail
  refine (tpairX_calls w7 p tb S3 (more r1 f) e1 hc y c ty H7 T7 R1.e2 I3 (any_bt bc3 (BT.fat.ok fc) (by omega)) (any_bt by3 (BT.fat.ok fy) (by omega)) (fun _ => ⟨⟨bc3, fc⟩, by3, fy⟩) (by omega)).mono ?_
  rintro o w8 ⟨S4, r2, e2, rfl, H8, T8, F8, R2, ar2, G2⟩
  have I4 : S4.Inv (more r1 (more r2 f)) := by have := R2.inv; rw [more_comm r2 r1] at this; exact this
  have ar1' := any_root R2.grow I4 (held1 I4) ar1
  have e12 : e2 = 0 → e1 = 0 := fun q => by rcases R1.e2 with h | h; exact h; exact absurd q (R2.err (by omega))
  have B1 : e2 = 0 → S4.bt r1 (.fork u b) ∧ (BT.fork u b).fat := fun q => ⟨bt_root R2.grow I4 (held1 I4 (bt_ne R1.inv (G1 (e12 q)).1)) (G1 (e12 q)).1, (G1 (e12 q)).2⟩
  go_wp2_with fail
  refine (tpairX_calls w8 p tb S4 f e2 r1 r2 (.fork u b) (.fork c ty) H8 T8 R2.e2 I4 ar1' ar2 (fun q => ⟨B1 q, G2 q⟩) (by simp only [BT.bits, List.length_append]; omega)).mono ?_
  rintro o w9 ⟨S5, r, e', rfl, H9, T9, F9, R3, _, G3⟩
  go_wp2
  go_ret
  refine ⟨S5, r, e', rfl, H9, T9, ?_, resTwo (Grow.refl S) rfl (resTwo (g1.trans g2) (u2.trans u1) R1 R2) R3, fun h => ⟨_, (G3 h).1, (G3 h).2, ?_, ?_⟩⟩
  · exact (((((Fr.of_below H hb3).trans F3.any).trans ((Fr.of_below H3 hb6).trans F6.any)).trans F7).trans F8).trans F9
  · simp only [BT.bits, List.append_assoc]
  · simp only [BT.leaves]; omega
end Go.Proofs.YtngfalbabgpnnaaGreat

namespace Go.Proofs.YtngfalbabgpnnaaGreat
open Go.RowKit St

set_option maxHeartbeats 4000000 in
set_option maxRecDepth 100000 in
theorem tfork_right1 (w : World) (p tb : Nat) (S : St) (f : Int → Nat) (x y : Int) (u v tx : BT) (H : Ar w p S) (T : TreeAt w p tb 0) (I : S.Inv (more x (more y f))) (sl : slack f 8)
    (bx : S.bt x tx) (fx : tx.fat) (by' : S.bt y (.fork u v)) (fu : u.fat) (fv : v.fat) (hl : tx.bits.length + (u.bits.length + v.bits.length) < 400000) (h1 : tx.high + 1 < (BT.fork u v).high) (h2 : u.high ≤ v.high) :
    Calls Tryz.prog 125 #[.pointer (some ⟨tb, 0, none⟩), .int .i64 x, .int .i64 y] w fun o w' => ∃ S' r e', o = .returned (.int .i64 r) ∧ Ar w' p S' ∧ TreeAt w' p tb e' ∧ Fr [tb] p w w' ∧ ForkR S f tx (.fork u v) 0 S' r e' := by
  have hT := T
  have l1 := fu.len
  have l2 := fv.len
  have l3 := fx.len
  have I' := I
  rw [more_comm] at I'
  have HX := fun w' (hb : Below w.heap.size w w') => thigh_calls p tb S 0 tx x w' (H.below hb) (hT.below H hb) bx (by omega)
  have HY := fun w' (hb : Below w.heap.size w w') => thigh_calls p tb S 0 _ y w' (H.below hb) (hT.below H hb) by' (by simp only [BT.leaves]; omega)
  have HO := fun w' (hb : Below w.heap.size w w') => topen_calls w' p tb S (more x f) 0 y u v (H.below hb) (hT.below H hb) I' ((sl.le (m := 5) (by omega)).more x) by'
  have a1 := (BT.fork u v).high_le
  simp only [BT.leaves] at a1
  have a2 := tx.high_le
  have a3 := u.high_le
  have a4 := v.high_le
  obtain ⟨d0, d1, dz, dl, _⟩ := T
  have q0 : ¬ (tx.high : Int) > (((BT.fork u v).high : Nat) : Int) + 1 := by omega
  have q00 : (tx.high : Int) ≤ (((BT.fork u v).high : Nat) : Int) + 1 := by omega
  have q1 : (((BT.fork u v).high : Nat) : Int) > (tx.high : Int) + 1 := by omega
  have v1 := wrap_add1 (p := tx.high) (by omega)
  have v2 := wrap_add1 (p := (BT.fork u v).high) (by omega)
  have hx := hid bx
  have x0 : x ≠ 0 := bt_ne I bx
  generalize hp1 : (BT.fork u v).high = p1 at *
  generalize hp2 : tx.high = p2 at *
  have hp1 := hid hp1
  have hp2 := hid hp2
  clear by' bx I I'
  go_enter Tryz.func125, Tryz.ntmps125
  go_wp2_with fail
  refine (HX _ (by repeat (first | with_reducible exact Below.refl _ _ | with_reducible assumption | with_reducible refine bel_drewN ?_ | with_reducible refine bel_drew ?_ | with_reducible refine bel_alloc ?_ _ | with_reducible refine bel_set ?_ _ ?_ | with_reducible refine bel_trans ?_ (by with_reducible assumption) | ((try dsimp only); omega)))).mono ?_; rintro o w1 ⟨rfl, hb1⟩
  go_wp2_with fail
  refine (HY _ (by repeat (first | with_reducible exact Below.refl _ _ | with_reducible assumption | with_reducible refine bel_drewN ?_ | with_reducible refine bel_drew ?_ | with_reducible refine bel_alloc ?_ _ | with_reducible refine bel_set ?_ _ ?_ | with_reducible refine bel_trans ?_ (by with_reducible assumption) | ((try dsimp only); omega)))).mono ?_; rintro o w2 ⟨rfl, hb2⟩
  have hb3 := bel_trans hb1 hb2
  clear HX HY hb1 hb2
  go_wp2_with fail
  refine (HO _ (by repeat (first | with_reducible exact Below.refl _ _ | with_reducible assumption | with_reducible refine bel_drewN ?_ | with_reducible refine bel_drew ?_ | with_reducible refine bel_alloc ?_ _ | with_reducible refine bel_set ?_ _ ?_ | with_reducible refine bel_trans ?_ (by with_reducible assumption) | ((try dsimp only); omega)))).mono ?_; rintro o w3 ⟨S1, hu, hv, rfl, H3, T3, F3, I1, g1, u1, bu, bv⟩
  have bx1 := bt_root g1 I1 (held3 I1 x0) hx.out
  have T3' := T3
  have HX := fun w' (hb : Below w3.heap.size w3 w') => thigh_calls p tb S1 0 v hv w' (H3.below hb) (T3'.below H3 hb) bv (by omega)
  have HY := fun w' (hb : Below w3.heap.size w3 w') => thigh_calls p tb S1 0 u hu w' (H3.below hb) (T3'.below H3 hb) bu (by omega)
  have hu0 := bt_ne I1 bu
  have hv0 := bt_ne I1 bv
  have I1b : S1.Inv (more x (more hu (more hv f))) := by rw [more_comm hv x, more_comm hu x] at I1; exact I1
  have HP := fun w' (hb : Below w3.heap.size w3 w') => tpairX_calls w' p tb S1 (more hv f) 0 x hu tx u (H3.below hb) (T3'.below H3 hb) (Or.inl rfl) I1b (any_bt bx1 (BT.fat.ok fx) (by omega)) (any_bt bu (BT.fat.ok fu) (by omega)) (fun _ => ⟨⟨bx1, fx⟩, bu, fu⟩) (by omega)
  have q2 : ((v.high : Nat) : Int) ≥ (u.high : Int) := by omega
  have bv' := hid bv
  generalize hp3 : u.high = p3 at *
  generalize hp4 : v.high = p4 at *
  clear HO bu bv bx1 I1b
  have I1 := hid I1
  go_wp2_with fail
  refine (HX _ (by repeat (first | with_reducible exact Below.refl _ _ | with_reducible assumption | with_reducible refine bel_drewN ?_ | with_reducible refine bel_drew ?_ | with_reducible refine bel_alloc ?_ _ | with_reducible refine bel_set ?_ _ ?_ | with_reducible refine bel_trans ?_ (by with_reducible assumption) | ((try dsimp only); omega)))).mono ?_; rintro o w4 ⟨rfl, hb4⟩
  go_wp2_with fail
  refine (HY _ (by repeat (first | with_reducible exact Below.refl _ _ | with_reducible assumption | with_reducible refine bel_drewN ?_ | with_reducible refine bel_drew ?_ | with_reducible refine bel_alloc ?_ _ | with_reducible refine bel_set ?_ _ ?_ | with_reducible refine bel_trans ?_ (by with_reducible assumption) | ((try dsimp only); omega)))).mono ?_; rintro o w5 ⟨rfl, hb5⟩
  have hb6 := bel_trans hb4 hb5
  clear HX HY hb4 hb5
  go_wp2_with fail
  refine (HP _ (by repeat (first | with_reducible exact Below.refl _ _ | with_reducible assumption | with_reducible refine bel_drewN ?_ | with_reducible refine bel_drew ?_ | with_reducible refine bel_alloc ?_ _ | with_reducible refine bel_set ?_ _ ?_ | with_reducible refine bel_trans ?_ (by with_reducible assumption) | ((try dsimp only); omega)))).mono ?_; rintro o w6 ⟨S2, r1, e1, rfl, H6, T6, F6, R1, ar1, G1⟩
  have I2 := R1.inv
  have bv2 := bt_root R1.grow I2 (held2 I2 hv0) bv'.out
  go_wp2_with fail
  refine (tpairX_calls w6 p tb S2 f e1 r1 hv (.fork tx u) v H6 T6 R1.e2 I2 ar1 (any_bt bv2 (BT.fat.ok fv) (by omega)) (fun q => ⟨G1 q, bv2, fv⟩) (by simp only [BT.bits, List.length_append]; omega)).mono ?_
  rintro o w7 ⟨S3, r, e', rfl, H7, T7, F7, R2, _, G2⟩
  go_wp2
  go_ret
  refine ⟨S3, r, e', rfl, H7, T7, ?_, resMono (resTwo g1 u1 R1 R2) (by decide), fun h => ⟨_, (G2 h).1, (G2 h).2, ?_, ?_⟩⟩
  · exact (((Fr.of_below H hb3).trans F3.any).trans ((Fr.of_below H3 hb6).trans F6)).trans F7
  · simp only [BT.bits, List.append_assoc]
  · simp only [BT.leaves]; omega

set_option maxHeartbeats 4000000 in
set_option maxRecDepth 100000 in
theorem tfork_right2 (w : World) (p tb : Nat) (S : St) (f : Int → Nat) (x y : Int) (b c v tx : BT) (H : Ar w p S) (T : TreeAt w p tb 0) (I : S.Inv (more x (more y f))) (sl : slack f 8)
    (bx : S.bt x tx) (fx : tx.fat) (by' : S.bt y (.fork (.fork b c) v)) (fu : (BT.fork b c).fat) (fv : v.fat) (hl : tx.bits.length + ((BT.fork b c).bits.length + v.bits.length) < 400000) (h1 : tx.high + 1 < (BT.fork (.fork b c) v).high) (h2 : v.high < (BT.fork b c).high) :
    Calls Tryz.prog 125 #[.pointer (some ⟨tb, 0, none⟩), .int .i64 x, .int .i64 y] w fun o w' => ∃ S' r e', o = .returned (.int .i64 r) ∧ Ar w' p S' ∧ TreeAt w' p tb e' ∧ Fr [tb] p w w' ∧ ForkR S f tx (.fork (.fork b c) v) 0 S' r e' := by
  have hT := T
  have l1 := fu.len
  simp only [BT.leaves] at l1
  have l2 := fv.len
  have l3 := fx.len
  have I' := I
  rw [more_comm] at I'
  have HX := fun w' (hb : Below w.heap.size w w') => thigh_calls p tb S 0 tx x w' (H.below hb) (hT.below H hb) bx (by omega)
  have HY := fun w' (hb : Below w.heap.size w w') => thigh_calls p tb S 0 _ y w' (H.below hb) (hT.below H hb) by' (by simp only [BT.leaves]; omega)
  have HO := fun w' (hb : Below w.heap.size w w') => topen_calls w' p tb S (more x f) 0 y (.fork b c) v (H.below hb) (hT.below H hb) I' ((sl.le (m := 5) (by omega)).more x) by'
  have a1 := (BT.fork (.fork b c) v).high_le
  simp only [BT.leaves] at a1
  have a2 := tx.high_le
  have a3 := (BT.fork b c).high_le
  simp only [BT.leaves] at a3
  have a4 := v.high_le
  obtain ⟨d0, d1, dz, dl, _⟩ := T
  have q0 : ¬ (tx.high : Int) > (((BT.fork (.fork b c) v).high : Nat) : Int) + 1 := by omega
  have q00 : (tx.high : Int) ≤ (((BT.fork (.fork b c) v).high : Nat) : Int) + 1 := by omega
  have q1 : (((BT.fork (.fork b c) v).high : Nat) : Int) > (tx.high : Int) + 1 := by omega
  have v1 := wrap_add1 (p := tx.high) (by omega)
  have v2 := wrap_add1 (p := (BT.fork (.fork b c) v).high) (by omega)
  have hx := hid bx
  have x0 : x ≠ 0 := bt_ne I bx
  generalize hp1 : (BT.fork (.fork b c) v).high = p1 at *
  generalize hp2 : tx.high = p2 at *
  have hp1 := hid hp1
  have hp2 := hid hp2
  clear by' bx I I'
  go_enter Tryz.func125, Tryz.ntmps125
  go_wp2_with fail
  refine (HX _ (by repeat (first | with_reducible exact Below.refl _ _ | with_reducible assumption | with_reducible refine bel_drewN ?_ | with_reducible refine bel_drew ?_ | with_reducible refine bel_alloc ?_ _ | with_reducible refine bel_set ?_ _ ?_ | with_reducible refine bel_trans ?_ (by with_reducible assumption) | ((try dsimp only); omega)))).mono ?_; rintro o w1 ⟨rfl, hb1⟩
  go_wp2_with fail
  refine (HY _ (by repeat (first | with_reducible exact Below.refl _ _ | with_reducible assumption | with_reducible refine bel_drewN ?_ | with_reducible refine bel_drew ?_ | with_reducible refine bel_alloc ?_ _ | with_reducible refine bel_set ?_ _ ?_ | with_reducible refine bel_trans ?_ (by with_reducible assumption) | ((try dsimp only); omega)))).mono ?_; rintro o w2 ⟨rfl, hb2⟩
  have hb3 := bel_trans hb1 hb2
  clear HX HY hb1 hb2
  go_wp2_with fail
  refine (HO _ (by repeat (first | with_reducible exact Below.refl _ _ | with_reducible assumption | with_reducible refine bel_drewN ?_ | with_reducible refine bel_drew ?_ | with_reducible refine bel_alloc ?_ _ | with_reducible refine bel_set ?_ _ ?_ | with_reducible refine bel_trans ?_ (by with_reducible assumption) | ((try dsimp only); omega)))).mono ?_; rintro o w3 ⟨S1, hu, hv, rfl, H3, T3, F3, I1, g1, u1, bu, bv⟩
  have bx1 := bt_root g1 I1 (held3 I1 x0) hx.out
  have T3' := T3
  have HX := fun w' (hb : Below w3.heap.size w3 w') => thigh_calls p tb S1 0 v hv w' (H3.below hb) (T3'.below H3 hb) bv (by omega)
  have HY : ∀ w', Below w3.heap.size w3 w' → Calls Tryz.prog 156 #[.pointer (some ⟨tb, 0, none⟩), .int .i64 hu] w' fun o w'' => o = .returned (.int .i64 ((BT.fork b c).high : Nat)) ∧ Below w'.heap.size w' w'' :=
    fun w' (hb : Below w3.heap.size w3 w') => thigh_calls p tb S1 0 (.fork b c) hu w' (H3.below hb) (T3'.below H3 hb) bu (by simp only [BT.leaves]; omega)
  have hv0 := bt_ne I1 bv
  have HP := fun w' (hb : Below w3.heap.size w3 w') => topen_calls w' p tb S1 (more hv (more x f)) 0 hu b c (H3.below hb) (T3'.below H3 hb) I1 (((sl.le (m := 6) (by omega)).more x).more hv) bu
  have q2 : ¬ ((v.high : Nat) : Int) ≥ ((BT.fork b c).high : Int) := by omega
  have q3 : ((v.high : Nat) : Int) < ((BT.fork b c).high : Int) := by omega
  have bv' := hid bv
  have bx1 := hid bx1
  obtain ⟨fb, fc⟩ := fu
  simp only [BT.bits, List.length_append] at hl
  generalize hp3 : (BT.fork b c).high = p3 at *
  generalize hp4 : v.high = p4 at *
  clear HO bu bv I1
  go_wp2_with fail
  refine (HX _ (by repeat (first | with_reducible exact Below.refl _ _ | with_reducible assumption | with_reducible refine bel_drewN ?_ | with_reducible refine bel_drew ?_ | with_reducible refine bel_alloc ?_ _ | with_reducible refine bel_set ?_ _ ?_ | with_reducible refine bel_trans ?_ (by with_reducible assumption) | ((try dsimp only); omega)))).mono ?_; rintro o w4 ⟨rfl, hb4⟩
  go_wp2_with fail
  refine (HY _ (by repeat (first | with_reducible exact Below.refl _ _ | with_reducible assumption | with_reducible refine bel_drewN ?_ | with_reducible refine bel_drew ?_ | with_reducible refine bel_alloc ?_ _ | with_reducible refine bel_set ?_ _ ?_ | with_reducible refine bel_trans ?_ (by with_reducible assumption) | ((try dsimp only); omega)))).mono ?_; rintro o w5 ⟨rfl, hb5⟩
  have hb6 := bel_trans hb4 hb5
  clear HX HY hb4 hb5
  go_wp2_with fail
  refine (HP _ (by repeat (first | with_reducible exact Below.refl _ _ | with_reducible assumption | with_reducible refine bel_drewN ?_ | with_reducible refine bel_drew ?_ | with_reducible refine bel_alloc ?_ _ | with_reducible refine bel_set ?_ _ ?_ | with_reducible refine bel_trans ?_ (by with_reducible assumption) | ((try dsimp only); omega)))).mono ?_; rintro o w6 ⟨S2, hb, hc, rfl, H6, T6, F6, I2, g2, u2, bb, bc⟩
  have hb0 := bt_ne I2 bb
  have hc0 := bt_ne I2 bc
  have I2b : S2.Inv (more x (more hb (more hc (more hv f)))) := by rw [more_comm hv x, more_comm hc x, more_comm hb x] at I2; exact I2
  have bx2 := bt_root g2 I2b (held1 I2b x0) bx1.out
  have bv2 := bt_root g2 I2b (held4 I2b hv0) bv'.out
  have bc' := hid bc
  have bv2' := hid bv2
  have A2 := any_bt bx2 (BT.fat.ok fx) (by omega)
  have A3 := any_bt bb (BT.fat.ok fb) (by omega)
  go_wp2_with fail
  refine (tpairX_calls w6 p tb S2 (more hc (more hv f)) 0 x hb tx b H6 T6 (Or.inl rfl) I2b A2 A3 (fun _ => ⟨⟨bx2, fx⟩, bb, fb⟩) (by omega)).mono ?_
  rintro o w7 ⟨S3, r1, e1, rfl, H7, T7, F7, R1, ar1, G1⟩
  have I3 : S3.Inv (more hc (more hv (more r1 f))) := by have := R1.inv; rw [more_comm r1 hc, more_comm r1 hv] at this; exact this
  have bc3 := bt_root R1.grow I3 (held1 I3 hc0) bc'.out
  have bv3 := bt_root R1.grow I3 (held2 I3 hv0) bv2'.out
  clear HP bc bv2 bx1
  go_wp2_with fail
  refine (tpairX_calls w7 p tb S3 (more r1 f) e1 hc hv c v H7 T7 R1.e2 I3 (any_bt bc3 (BT.fat.ok fc) (by omega)) (any_bt bv3 (BT.fat.ok fv) (by omega)) (fun _ => ⟨⟨bc3, fc⟩, bv3, fv⟩) (by omega)).mono ?_
  rintro o w8 ⟨S4, r2, e2, rfl, H8, T8, F8, R2, ar2, G2⟩
  have I4 : S4.Inv (more r1 (more r2 f)) := by have := R2.inv; rw [more_comm r2 r1] at this; exact this
  have ar1' := any_root R2.grow I4 (held1 I4) ar1
  have e12 : e2 = 0 → e1 = 0 := fun q => by rcases R1.e2 with h | h; exact h; exact absurd q (R2.err (by omega))
  have B1 : e2 = 0 → S4.bt r1 (.fork tx b) ∧ (BT.fork tx b).fat := fun q => ⟨bt_root R2.grow I4 (held1 I4 (bt_ne R1.inv (G1 (e12 q)).1)) (G1 (e12 q)).1, (G1 (e12 q)).2⟩
  go_wp2_with fail
  refine (tpairX_calls w8 p tb S4 f e2 r1 r2 (.fork tx b) (.fork c v) H8 T8 R2.e2 I4 ar1' ar2 (fun q => ⟨B1 q, G2 q⟩) (by simp only [BT.bits, List.length_append]; omega)).mono ?_
  rintro o w9 ⟨S5, r, e', rfl, H9, T9, F9, R3, _, G3⟩
  go_wp2
  go_ret
  refine ⟨S5, r, e', rfl, H9, T9, ?_, resTwo (Grow.refl S) rfl (resTwo (g1.trans g2) (u2.trans u1) R1 R2) R3, fun h => ⟨_, (G3 h).1, (G3 h).2, ?_, ?_⟩⟩
  · exact (((((Fr.of_below H hb3).trans F3.any).trans ((Fr.of_below H3 hb6).trans F6.any)).trans F7).trans F8).trans F9
  · simp only [BT.bits, List.append_assoc]
  · simp only [BT.leaves]; omega
end Go.Proofs.YtngfalbabgpnnaaGreat
