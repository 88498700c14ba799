/-
  The walks of package list: join, the right one too high.
  The walks of package list: join, all of it; told; may.
  The walks of package list: change.
-/
import Derived.Test.YtngfalbabgpnnaaGreatM12
set_option linter.unusedVariables false
set_option linter.unusedSimpArgs false
namespace Go.Proofs.YtngfalbabgpnnaaGreat
open Go.RowKit St

set_option maxHeartbeats 4000000 in
set_option maxRecDepth 100000 in
theorem ljoin_right1 (w : World) (p tb : Nat) (S : St) (f : Int → Nat) (x y : Int) (u v tx : LT) (H : Ar w p S) (T : TreeAt w p tb 0) (I : S.Inv (more x (more y f))) (sl : slack f 8)
    (bx : S.lt x tx) (fx : tx.fat) (by' : S.lt y (.join u v)) (fu : u.fat) (fv : v.fat) (hl : tx.items.length + (u.items.length + v.items.length) < 400000) (h1 : tx.high + 1 < (LT.join u v).high) (h2 : u.high ≤ v.high) :
    Calls Tryz.prog 95 #[.pointer (some ⟨tb, 0, none⟩), .int .i64 x, .int .i64 y] w fun o w' => ∃ S' r e', o = .returned (.int .i64 r) ∧ Ar w' p S' ∧ TreeAt w' p tb e' ∧ Fr [tb] p w w' ∧ JoinR S f tx.items (LT.join u v).items 0 S' r e' := by
  have hT := T
  have l1 := fu.len
  have l2 := fv.len
  have l3 := fx.len
  have I' := I
  rw [more_comm] at I'
  have HX := fun w' (hb : Below w.heap.size w w') => lhighX_calls p tb S 0 tx x w' (H.below hb) (hT.below H hb) bx (by omega)
  have HY := fun w' (hb : Below w.heap.size w w') => lhighX_calls p tb S 0 _ y w' (H.below hb) (hT.below H hb) by' (by simp only [LT.leaves]; omega)
  have HO := fun w' (hb : Below w.heap.size w w') => lopen_calls w' p tb S (more x f) 0 y u v (H.below hb) (hT.below H hb) I' ((sl.le (m := 5) (by omega)).more x) by'
  have a1 := (LT.join u v).high_leaves
  simp only [LT.leaves] at a1
  have a2 := tx.high_leaves
  have a3 := u.high_leaves
  have a4 := v.high_leaves
  have zx : (x == 0) = false := by simp [lt_ne I bx]
  have zy : (y == 0) = false := by simp [lt_ne I by']
  obtain ⟨d0, d1, dz, dl, _⟩ := T
  have q0 : ¬ (tx.high : Int) > (((LT.join u v).high : Nat) : Int) + 1 := by omega
  have q00 : (tx.high : Int) ≤ (((LT.join u v).high : Nat) : Int) + 1 := by omega
  have q1 : (((LT.join u v).high : Nat) : Int) > (tx.high : Int) + 1 := by omega
  have v1 := wrap_add1 (p := tx.high) (by omega)
  have v2 := wrap_add1 (p := (LT.join u v).high) (by omega)
  have hx := hid bx
  have x0 : x ≠ 0 := lt_ne I bx
  generalize hp1 : (LT.join u v).high = p1 at *
  generalize hp2 : tx.high = p2 at *
  have hp1 := hid hp1
  have hp2 := hid hp2
  clear by' bx I I'
  go_enter Tryz.func95, Tryz.ntmps95
  go_wp2_with fail
  refine (HX _ (by repeat (first | with_reducible exact Below.refl _ _ | with_reducible assumption | with_reducible refine bel_drewN ?_ | with_reducible refine bel_drew ?_ | with_reducible refine bel_alloc ?_ _ | with_reducible refine bel_set ?_ _ ?_ | with_reducible refine bel_trans ?_ (by with_reducible assumption) | ((try dsimp only); omega)))).mono ?_; rintro o w1 ⟨rfl, hb1⟩
  go_wp2_with fail
  refine (HY _ (by repeat (first | with_reducible exact Below.refl _ _ | with_reducible assumption | with_reducible refine bel_drewN ?_ | with_reducible refine bel_drew ?_ | with_reducible refine bel_alloc ?_ _ | with_reducible refine bel_set ?_ _ ?_ | with_reducible refine bel_trans ?_ (by with_reducible assumption) | ((try dsimp only); omega)))).mono ?_; rintro o w2 ⟨rfl, hb2⟩
  have hb3 := bel_trans hb1 hb2
  have e02 := (hT.below H hb3).c0
  have e12 := (hT.below H hb3).c1
  clear HX HY hb1 hb2
  go_wp2_with fail
  refine (HO _ (by repeat (first | with_reducible exact Below.refl _ _ | with_reducible assumption | with_reducible refine bel_drewN ?_ | with_reducible refine bel_drew ?_ | with_reducible refine bel_alloc ?_ _ | with_reducible refine bel_set ?_ _ ?_ | with_reducible refine bel_trans ?_ (by with_reducible assumption) | ((try dsimp only); omega)))).mono ?_; rintro o w3 ⟨S1, hu, hv, rfl, H3, T3, F3, I1, g1, u1, bu, bv⟩
  have bx1 := lt_root g1 I1 (held3 I1 x0) hx.out
  have T3' := T3
  have HX := fun w' (hb : Below w3.heap.size w3 w') => lhighX_calls p tb S1 0 v hv w' (H3.below hb) (T3'.below H3 hb) bv (by omega)
  have HY := fun w' (hb : Below w3.heap.size w3 w') => lhighX_calls p tb S1 0 u hu w' (H3.below hb) (T3'.below H3 hb) bu (by omega)
  have hu0 := lt_ne I1 bu
  have hv0 := lt_ne I1 bv
  have I1b : S1.Inv (more x (more hu (more hv f))) := by rw [more_comm hv x, more_comm hu x] at I1; exact I1
  have HP := fun w' (hb : Below w3.heap.size w3 w') => lpairX_calls w' p tb S1 (more hv f) 0 x hu tx u (H3.below hb) (T3'.below H3 hb) (Or.inl rfl) I1b (lany_lt bx1 (LT.fat.ok fx) (by omega)) (lany_lt bu (LT.fat.ok fu) (by omega)) (fun _ => ⟨⟨bx1, fx⟩, bu, fu⟩) (by omega)
  have q2 : ((v.high : Nat) : Int) ≥ (u.high : Int) := by omega
  have bv' := hid bv
  generalize hp3 : u.high = p3 at *
  generalize hp4 : v.high = p4 at *
  clear HO bu bv bx1 I1b
  have I1 := hid I1
  go_wp2_with fail
  refine (HX _ (by repeat (first | with_reducible exact Below.refl _ _ | with_reducible assumption | with_reducible refine bel_drewN ?_ | with_reducible refine bel_drew ?_ | with_reducible refine bel_alloc ?_ _ | with_reducible refine bel_set ?_ _ ?_ | with_reducible refine bel_trans ?_ (by with_reducible assumption) | ((try dsimp only); omega)))).mono ?_; rintro o w4 ⟨rfl, hb4⟩
  go_wp2_with fail
  refine (HY _ (by repeat (first | with_reducible exact Below.refl _ _ | with_reducible assumption | with_reducible refine bel_drewN ?_ | with_reducible refine bel_drew ?_ | with_reducible refine bel_alloc ?_ _ | with_reducible refine bel_set ?_ _ ?_ | with_reducible refine bel_trans ?_ (by with_reducible assumption) | ((try dsimp only); omega)))).mono ?_; rintro o w5 ⟨rfl, hb5⟩
  have hb6 := bel_trans hb4 hb5
  clear HX HY hb4 hb5
  go_wp2_with fail
  refine (HP _ (by repeat (first | with_reducible exact Below.refl _ _ | with_reducible assumption | with_reducible refine bel_drewN ?_ | with_reducible refine bel_drew ?_ | with_reducible refine bel_alloc ?_ _ | with_reducible refine bel_set ?_ _ ?_ | with_reducible refine bel_trans ?_ (by with_reducible assumption) | ((try dsimp only); omega)))).mono ?_; rintro o w6 ⟨S2, r1, e1, rfl, H6, T6, F6, R1, ar1, G1⟩
  have I2 := R1.inv
  have bv2 := lt_root R1.grow I2 (held2 I2 hv0) bv'.out
  go_wp2_with fail
  refine (lpairX_calls w6 p tb S2 f e1 r1 hv (.join tx u) v H6 T6 R1.e2 I2 ar1 (lany_lt bv2 (LT.fat.ok fv) (by omega)) (fun q => ⟨G1 q, bv2, fv⟩) (by simp only [LT.items, List.length_append]; omega)).mono ?_
  rintro o w7 ⟨S3, r, e', rfl, H7, T7, F7, R2, _, G2⟩
  go_wp2
  go_ret
  refine ⟨S3, r, e', rfl, H7, T7, ?_, resMono (resTwo g1 u1 R1 R2) (by decide), fun h => Or.inr ⟨_, (G2 h).1, ?_⟩⟩
  · exact (((Fr.of_below H hb3).trans F3.any).trans ((Fr.of_below H3 hb6).trans F6)).trans F7
  · simp only [LT.items, List.append_assoc]

set_option maxHeartbeats 4000000 in
set_option maxRecDepth 100000 in
theorem ljoin_right2 (w : World) (p tb : Nat) (S : St) (f : Int → Nat) (x y : Int) (b c v tx : LT) (H : Ar w p S) (T : TreeAt w p tb 0) (I : S.Inv (more x (more y f))) (sl : slack f 8)
    (bx : S.lt x tx) (fx : tx.fat) (by' : S.lt y (.join (.join b c) v)) (fu : (LT.join b c).fat) (fv : v.fat) (hl : tx.items.length + ((LT.join b c).items.length + v.items.length) < 400000) (h1 : tx.high + 1 < (LT.join (.join b c) v).high) (h2 : v.high < (LT.join b c).high) :
    Calls Tryz.prog 95 #[.pointer (some ⟨tb, 0, none⟩), .int .i64 x, .int .i64 y] w fun o w' => ∃ S' r e', o = .returned (.int .i64 r) ∧ Ar w' p S' ∧ TreeAt w' p tb e' ∧ Fr [tb] p w w' ∧ JoinR S f tx.items (LT.join (.join b c) v).items 0 S' r e' := by
  have hT := T
  have l1 := fu.len
  simp only [LT.leaves] at l1
  have l2 := fv.len
  have l3 := fx.len
  have I' := I
  rw [more_comm] at I'
  have HX := fun w' (hb : Below w.heap.size w w') => lhighX_calls p tb S 0 tx x w' (H.below hb) (hT.below H hb) bx (by omega)
  have HY := fun w' (hb : Below w.heap.size w w') => lhighX_calls p tb S 0 _ y w' (H.below hb) (hT.below H hb) by' (by simp only [LT.leaves]; omega)
  have HO := fun w' (hb : Below w.heap.size w w') => lopen_calls w' p tb S (more x f) 0 y (.join b c) v (H.below hb) (hT.below H hb) I' ((sl.le (m := 5) (by omega)).more x) by'
  have a1 := (LT.join (.join b c) v).high_leaves
  simp only [LT.leaves] at a1
  have a2 := tx.high_leaves
  have a3 := (LT.join b c).high_leaves
  simp only [LT.leaves] at a3
  have a4 := v.high_leaves
  have zx : (x == 0) = false := by simp [lt_ne I bx]
  have zy : (y == 0) = false := by simp [lt_ne I by']
  obtain ⟨d0, d1, dz, dl, _⟩ := T
  have q0 : ¬ (tx.high : Int) > (((LT.join (.join b c) v).high : Nat) : Int) + 1 := by omega
  have q00 : (tx.high : Int) ≤ (((LT.join (.join b c) v).high : Nat) : Int) + 1 := by omega
  have q1 : (((LT.join (.join b c) v).high : Nat) : Int) > (tx.high : Int) + 1 := by omega
  have v1 := wrap_add1 (p := tx.high) (by omega)
  have v2 := wrap_add1 (p := (LT.join (.join b c) v).high) (by omega)
  have hx := hid bx
  have x0 : x ≠ 0 := lt_ne I bx
  generalize hp1 : (LT.join (.join b c) v).high = p1 at *
  generalize hp2 : tx.high = p2 at *
  have hp1 := hid hp1
  have hp2 := hid hp2
  clear by' bx I I'
  go_enter Tryz.func95, Tryz.ntmps95
  go_wp2_with fail
  refine (HX _ (by repeat (first | with_reducible exact Below.refl _ _ | with_reducible assumption | with_reducible refine bel_drewN ?_ | with_reducible refine bel_drew ?_ | with_reducible refine bel_alloc ?_ _ | with_reducible refine bel_set ?_ _ ?_ | with_reducible refine bel_trans ?_ (by with_reducible assumption) | ((try dsimp only); omega)))).mono ?_; rintro o w1 ⟨rfl, hb1⟩
  go_wp2_with fail
  refine (HY _ (by repeat (first | with_reducible exact Below.refl _ _ | with_reducible assumption | with_reducible refine bel_drewN ?_ | with_reducible refine bel_drew ?_ | with_reducible refine bel_alloc ?_ _ | with_reducible refine bel_set ?_ _ ?_ | with_reducible refine bel_trans ?_ (by with_reducible assumption) | ((try dsimp only); omega)))).mono ?_; rintro o w2 ⟨rfl, hb2⟩
  have hb3 := bel_trans hb1 hb2
  have e02 := (hT.below H hb3).c0
  have e12 := (hT.below H hb3).c1
  clear HX HY hb1 hb2
  go_wp2_with fail
  refine (HO _ (by repeat (first | with_reducible exact Below.refl _ _ | with_reducible assumption | with_reducible refine bel_drewN ?_ | with_reducible refine bel_drew ?_ | with_reducible refine bel_alloc ?_ _ | with_reducible refine bel_set ?_ _ ?_ | with_reducible refine bel_trans ?_ (by with_reducible assumption) | ((try dsimp only); omega)))).mono ?_; rintro o w3 ⟨S1, hu, hv, rfl, H3, T3, F3, I1, g1, u1, bu, bv⟩
  have bx1 := lt_root g1 I1 (held3 I1 x0) hx.out
  have T3' := T3
  have HX := fun w' (hb : Below w3.heap.size w3 w') => lhighX_calls p tb S1 0 v hv w' (H3.below hb) (T3'.below H3 hb) bv (by omega)
  have HY : ∀ w', Below w3.heap.size w3 w' → Calls Tryz.prog 129 #[.pointer (some ⟨tb, 0, none⟩), .int .i64 hu] w' fun o w'' => o = .returned (.int .i64 ((LT.join b c).high : Nat)) ∧ Below w'.heap.size w' w'' :=
    fun w' (hb : Below w3.heap.size w3 w') => lhighX_calls p tb S1 0 (.join b c) hu w' (H3.below hb) (T3'.below H3 hb) bu (by simp only [LT.leaves]; omega)
  have hv0 := lt_ne I1 bv
  have HP := fun w' (hb : Below w3.heap.size w3 w') => lopen_calls w' p tb S1 (more hv (more x f)) 0 hu b c (H3.below hb) (T3'.below H3 hb) I1 (((sl.le (m := 6) (by omega)).more x).more hv) bu
  have q2 : ¬ ((v.high : Nat) : Int) ≥ ((LT.join b c).high : Int) := by omega
  have q3 : ((v.high : Nat) : Int) < ((LT.join b c).high : Int) := by omega
  have bv' := hid bv
  have bx1 := hid bx1
  obtain ⟨fb, fc⟩ := fu
  simp only [LT.items, List.length_append] at hl
  generalize hp3 : (LT.join b c).high = p3 at *
  generalize hp4 : v.high = p4 at *
  clear HO bu bv I1
  go_wp2_with fail
  refine (HX _ (by repeat (first | with_reducible exact Below.refl _ _ | with_reducible assumption | with_reducible refine bel_drewN ?_ | with_reducible refine bel_drew ?_ | with_reducible refine bel_alloc ?_ _ | with_reducible refine bel_set ?_ _ ?_ | with_reducible refine bel_trans ?_ (by with_reducible assumption) | ((try dsimp only); omega)))).mono ?_; rintro o w4 ⟨rfl, hb4⟩
  go_wp2_with fail
  refine (HY _ (by repeat (first | with_reducible exact Below.refl _ _ | with_reducible assumption | with_reducible refine bel_drewN ?_ | with_reducible refine bel_drew ?_ | with_reducible refine bel_alloc ?_ _ | with_reducible refine bel_set ?_ _ ?_ | with_reducible refine bel_trans ?_ (by with_reducible assumption) | ((try dsimp only); omega)))).mono ?_; rintro o w5 ⟨rfl, hb5⟩
  have hb6 := bel_trans hb4 hb5
  clear HX HY hb4 hb5
  go_wp2_with fail
  refine (HP _ (by repeat (first | with_reducible exact Below.refl _ _ | with_reducible assumption | with_reducible refine bel_drewN ?_ | with_reducible refine bel_drew ?_ | with_reducible refine bel_alloc ?_ _ | with_reducible refine bel_set ?_ _ ?_ | with_reducible refine bel_trans ?_ (by with_reducible assumption) | ((try dsimp only); omega)))).mono ?_; rintro o w6 ⟨S2, hb, hc, rfl, H6, T6, F6, I2, g2, u2, bb, bc⟩
  have hb0 := lt_ne I2 bb
  have hc0 := lt_ne I2 bc
  have I2b : S2.Inv (more x (more hb (more hc (more hv f)))) := by rw [more_comm hv x, more_comm hc x, more_comm hb x] at I2; exact I2
  have bx2 := lt_root g2 I2b (held1 I2b x0) bx1.out
  have bv2 := lt_root g2 I2b (held4 I2b hv0) bv'.out
  have bc' := hid bc
  have bv2' := hid bv2
  have A2 := lany_lt bx2 (LT.fat.ok fx) (by omega)
  have A3 := lany_lt bb (LT.fat.ok fb) (by omega)
  go_wp2_with fail
  refine (lpairX_calls w6 p tb S2 (more hc (more hv f)) 0 x hb tx b H6 T6 (Or.inl rfl) I2b A2 A3 (fun _ => ⟨⟨bx2, fx⟩, bb, fb⟩) (by omega)).mono ?_
  rintro o w7 ⟨S3, r1, e1, rfl, H7, T7, F7, R1, ar1, G1⟩
  have I3 : S3.Inv (more hc (more hv (more r1 f))) := by have := R1.inv; rw [more_comm r1 hc, more_comm r1 hv] at this; exact this
  have bc3 := lt_root R1.grow I3 (held1 I3 hc0) bc'.out
  have bv3 := lt_root R1.grow I3 (held2 I3 hv0) bv2'.out
  clear HP bc bv2 bx1
  go_wp2_with fail
  refine (lpairX_calls w7 p tb S3 (more r1 f) e1 hc hv c v H7 T7 R1.e2 I3 (lany_lt bc3 (LT.fat.ok fc) (by omega)) (lany_lt bv3 (LT.fat.ok fv) (by omega)) (fun _ => ⟨⟨bc3, fc⟩, bv3, fv⟩) (by omega)).mono ?_
  rintro o w8 ⟨S4, r2, e2, rfl, H8, T8, F8, R2, ar2, G2⟩
  have I4 : S4.Inv (more r1 (more r2 f)) := by have := R2.inv; rw [more_comm r2 r1] at this; exact this
  have ar1' := lany_root R2.grow I4 (held1 I4) ar1
  have e12 : e2 = 0 → e1 = 0 := fun q => by rcases R1.e2 with h | h; exact h; exact absurd q (R2.err (by omega))
  have B1 : e2 = 0 → S4.lt r1 (.join tx b) ∧ (LT.join tx b).fat := fun q => ⟨lt_root R2.grow I4 (held1 I4 (lt_ne R1.inv (G1 (e12 q)).1)) (G1 (e12 q)).1, (G1 (e12 q)).2⟩
  go_wp2_with fail
  refine (lpairX_calls w8 p tb S4 f e2 r1 r2 (.join tx b) (.join c v) H8 T8 R2.e2 I4 ar1' ar2 (fun q => ⟨B1 q, G2 q⟩) (by simp only [LT.items, List.length_append]; omega)).mono ?_
  rintro o w9 ⟨S5, r, e', rfl, H9, T9, F9, R3, _, G3⟩
  go_wp2
  go_ret
  refine ⟨S5, r, e', rfl, H9, T9, ?_, resTwo (Grow.refl S) rfl (resTwo (g1.trans g2) (u2.trans u1) R1 R2) R3, fun h => Or.inr ⟨_, (G3 h).1, ?_⟩⟩
  · exact (((((Fr.of_below H hb3).trans F3.any).trans ((Fr.of_below H3 hb6).trans F6.any)).trans F7).trans F8).trans F9
  · simp only [LT.items, List.append_assoc]
end Go.Proofs.YtngfalbabgpnnaaGreat

namespace Go.Proofs.YtngfalbabgpnnaaGreat
open Go.RowKit St

theorem ljoin_calls (w : World) (p tb : Nat) (S : St) (f : Int → Nat) (e x y : Int) (lx ly : List (Nat × Nat)) (H : Ar w p S) (T : TreeAt w p tb e) (he : e = 0 ∨ e = 2) (I : S.Inv (more x (more y f))) (sl : slack f 8)
    (ax : S.lr x lx) (ay : S.lr y ly) (hl : lx.length + ly.length < 400000) :
    Calls Tryz.prog 95 #[.pointer (some ⟨tb, 0, none⟩), .int .i64 x, .int .i64 y] w fun o w' => ∃ S' r e', o = .returned (.int .i64 r) ∧ Ar w' p S' ∧ TreeAt w' p tb e' ∧ Fr [tb] p w w' ∧ JoinR S f lx ly e S' r e' := by
  rcases he with rfl | rfl
  · by_cases h0 : x = 0 ∨ y = 0
    · exact ljoin_zero w p tb S f x y lx ly H T I ax ay hl h0
    · rcases ax with ⟨q, _⟩ | ⟨tx, bx, rfl⟩
      · exact absurd (Or.inl q) h0
      rcases ay with ⟨q, _⟩ | ⟨ty, by', rfl⟩
      · exact absurd (Or.inr q) h0
      by_cases h1 : ty.high + 1 < tx.high
      · cases tx with
        | item a b => have := ty.high_pos; simp only [LT.high] at h1; omega
        | join u v =>
          simp only [LT.items, List.length_append] at hl
          by_cases h2 : v.high ≤ u.high
          · exact ljoin_left1 w p tb S f x y u v ty H T I sl bx u.isfat v.isfat by' ty.isfat hl h1 h2
          · cases v with
            | item a b => have := u.high_pos; simp only [LT.high] at h2; omega
            | join b c => exact ljoin_left2 w p tb S f x y u b c ty H T I sl bx u.isfat (LT.isfat _) by' ty.isfat hl h1 (by omega)
      · by_cases h2 : tx.high + 1 < ty.high
        · cases ty with
          | item a b => have := tx.high_pos; simp only [LT.high] at h2; omega
          | join u v =>
            simp only [LT.items, List.length_append] at hl
            by_cases h3 : u.high ≤ v.high
            · exact ljoin_right1 w p tb S f x y u v tx H T I sl bx tx.isfat by' u.isfat v.isfat hl h2 h3
            · cases u with
              | item a b => have := v.high_pos; simp only [LT.high] at h3; omega
              | join b c => exact ljoin_right2 w p tb S f x y b c v tx H T I sl bx tx.isfat by' (LT.isfat _) v.isfat hl h2 (by omega)
        · exact ljoin_even w p tb S f x y tx ty H T I bx tx.isfat by' ty.isfat hl (by omega) (by omega)
  · exact ljoin_err w p tb S f x y lx ly H T I ⟨lx, ax, by omega⟩ ⟨ly, ay, by omega⟩

set_option maxHeartbeats 2000000 in
theorem ltold_calls (w : World) (p tb : Nat) (e h : Int) (T : TreeAt w p tb e) :
    Calls Tryz.prog 91 #[.pointer (some ⟨tb, 0, none⟩), .int .i64 h] w fun o w' => o = .returned (.tuple #[.int .i64 (if e = 0 then h else 0), .int .i64 e]) ∧ Below w.heap.size w w' := by
  obtain ⟨d0, d1, dz, dl, _⟩ := T
  by_cases he : e = 0
  · subst he
    go_enter Tryz.func91, Tryz.ntmps91
    go_wp2
    go_ret2
    exact ⟨rfl, (by repeat (first | with_reducible exact Below.refl _ _ | with_reducible assumption | with_reducible refine bel_drewN ?_ | with_reducible refine bel_drew ?_ | with_reducible refine bel_alloc ?_ _ | with_reducible refine bel_set ?_ _ ?_ | with_reducible refine bel_trans ?_ (by with_reducible assumption) | ((try dsimp only); omega)))⟩
  · have hee : (e == 0) = false := by simp [he]
    rw [if_neg he]
    go_enter Tryz.func91, Tryz.ntmps91
    go_wp2
    refine wp_region_can (fun w' => ∀ o, w'.cell? ⟨tb, o, none⟩ = w.cell? ⟨tb, o, none⟩) [(0, false), (1, false), (2, false), (3, false), (4, false), (5, false)] (by kernel_rfl) (by kernel_rfl) (fun _ d _ _ _ h => by cases d <;> exact h) ?_ ?_
    · exact fun _ => rfl
    repeat ((with_reducible refine wpCan_isq ?_); first | (apply wpCan_read rfl (by rfl); (· intro w' hS; go_simp; with_reducible rfl); (· try simp only [Act.put, List.setIfInBounds_toArray, List.set_cons_zero, List.set_cons_succ]; with_reducible rfl)) | (apply wpCan_no rfl (by rfl); (· try simp only [Act.put, List.setIfInBounds_toArray, List.set_cons_zero, List.set_cons_succ]; with_reducible rfl)))
    refine wpCan_nil ?_
    go_wp2
    go_ret2
    exact ⟨rfl, (by repeat (first | with_reducible exact Below.refl _ _ | with_reducible assumption | with_reducible refine bel_drewN ?_ | with_reducible refine bel_drew ?_ | with_reducible refine bel_alloc ?_ _ | with_reducible refine bel_set ?_ _ ?_ | with_reducible refine bel_trans ?_ (by with_reducible assumption) | ((try dsimp only); omega)))⟩

set_option maxHeartbeats 1000000 in
theorem lmay_calls (w : World) (a b i m : Nat) (h : i ≤ m) :
    Calls Tryz.prog 90 #[.agg #[.int .i64 a, .int .i64 b], .int .i64 i, .int .i64 m] w fun o w' => o = .returned (.int .i64 0) ∧ Below w.heap.size w w' := by
  have q1 : ¬ (a : Int) < 0 := by omega
  have q2 : ¬ (b : Int) < 0 := by omega
  have q3 : ¬ (i : Int) < 0 := by omega
  have q4 : ¬ (i : Int) > m := by omega
  have q5 : (i : Int) ≤ m := by omega
  go_enter Tryz.func90, Tryz.ntmps90
  go_wp2
  go_ret
  exact ⟨rfl, (by repeat (first | with_reducible exact Below.refl _ _ | with_reducible assumption | with_reducible refine bel_drewN ?_ | with_reducible refine bel_drew ?_ | with_reducible refine bel_alloc ?_ _ | with_reducible refine bel_set ?_ _ ?_ | with_reducible refine bel_trans ?_ (by with_reducible assumption) | ((try dsimp only); omega)))⟩
end Go.Proofs.YtngfalbabgpnnaaGreat

namespace Go.Proofs.YtngfalbabgpnnaaGreat
open Go.RowKit St

/-- What a closure reads: blocks that stay as they are. -/
def Env (p : Nat) (bs : List Nat) (W0 w : World) : Prop := ∀ b ∈ bs, Loc p w b ∧ w.heap[b]? = W0.heap[b]?
theorem Env.fr {p tb : Nat} {bs : List Nat} {W0 w w' : World} (E : Env p bs W0 w) (F : Fr [tb] p w w') (h : tb ∉ bs) : Env p bs W0 w' := fun b hb => by
  obtain ⟨l, e⟩ := E b hb
  obtain ⟨l', e'⟩ := F.loc l (by simp; rintro rfl; exact h hb)
  exact ⟨l', e'.trans e⟩
theorem Env.below {p : Nat} {bs : List Nat} {W0 w w' : World} {S : St} (E : Env p bs W0 w) (H : Ar w p S) (hb : Below w.heap.size w w') : Env p bs W0 w' := fun b h => by
  obtain ⟨l, e⟩ := E b h
  exact ⟨l.below H hb, (hb.block b l.1).trans e⟩

/-- A list one place of which is another list. -/
def chg {α : Type} (G : List α → List α) (l : List α) (j : Nat) : List α := l.take j ++ G ((l.drop j).take 1) ++ l.drop (j + 1)
theorem chg_right {α : Type} (G : List α → List α) (a b : List α) (j : Nat) (h : a.length ≤ j) : chg G (a ++ b) j = a ++ chg G b (j - a.length) := by
  have e1 : a.drop j = [] := List.drop_of_length_le h
  have e2 : a.drop (j + 1) = [] := List.drop_of_length_le (by omega)
  simp only [chg, List.take_append, List.drop_append, e1, e2, List.take_of_length_le h]
  simp [show j + 1 - a.length = j - a.length + 1 by omega]
theorem chg_left {α : Type} (G : List α → List α) (a b : List α) (j : Nat) (h : j < a.length) : chg G (a ++ b) j = chg G a j ++ b := by
  simp only [chg, List.take_append, List.drop_append]
  have e1 : j - a.length = 0 := by omega
  have e2 : j + 1 - a.length = 0 := by omega
  have e3 : 1 - (a.length - j) = 0 := by omega
  simp [e1, e2, e3, List.take_append]
theorem chg_length {α : Type} {G : List α → List α} (hG : ∀ m, (G m).length ≤ m.length + 1) (l : List α) (j : Nat) : (chg G l j).length ≤ l.length + 1 := by
  have := hG ((l.drop j).take 1)
  simp only [List.length_take, List.length_drop] at this
  simp only [chg, List.length_append, List.length_take, List.length_drop]
  omega

/-- What change leaves. -/
def ChgR (S : St) (f : Int → Nat) (l : List (Nat × Nat)) (m : List (Nat × Nat)) (S' : St) (r e' : Int) : Prop :=
  Res S f 0 S' r e' (3 * l.length + 4) ∧ (e' = 0 → S'.lr r m)

/-- What the closure does. -/
def OneSays (p tb g : Nat) (cap : Array Value) (bs : List Nat) (W0 : World) (G : List (Nat × Nat) → List (Nat × Nat)) : Prop :=
  ∀ (h : Int) (l : List (Nat × Nat)) w S f, Ar w p S → TreeAt w p tb 0 → Env p bs W0 w → S.Inv f → slack f 20 → S.lr h l → l.length ≤ 1 →
    Calls Tryz.prog g (#[.int .i64 h] ++ cap) w fun o w' => ∃ S' r e', o = .returned (.int .i64 r) ∧ Ar w' p S' ∧ TreeAt w' p tb e' ∧ Fr [tb] p w w' ∧ ChgR S f l (G l) S' r e'

set_option maxHeartbeats 4000000 in
set_option maxRecDepth 100000 in
theorem lchangeI_zero (w : World) (p tb : Nat) (S : St) (f : Int → Nat) (j : Nat) (va : Value) (vb : Value) (vc : Value) (vd : Value) (bs : List Nat) (W0 : World) (G : List (Nat × Nat) → List (Nat × Nat)) (H : Ar w p S) (T : TreeAt w p tb 0) (E : Env p bs W0 w) (I : S.Inv f) (sl : slack f 20)
    (O : OneSays p tb 93 #[va, vb, vc, vd] bs W0 G) :
    Calls Tryz.prog 92 #[.pointer (some ⟨tb, 0, none⟩), .int .i64 0, .int .i64 j, .func (.func 93) #[] #[va, vb, vc, vd]] w fun o w' => ∃ S' r e', o = .returned (.int .i64 r) ∧ Ar w' p S' ∧ TreeAt w' p tb e' ∧ Fr [tb] p w w' ∧ ChgR S f [] (G []) S' r e' := by
  have hT := T
  have HG := fun w' (hb : Below w.heap.size w w') => lnode_zero w' p S (H.below hb)
  have HO := fun w' (hb : Below w.heap.size w w') => O 0 [] w' S f (H.below hb) (hT.below H hb) (E.below H hb) I sl (Or.inl ⟨rfl, rfl⟩) (by simp)
  have HO : ∀ w', Below w.heap.size w w' → Calls Tryz.prog 93 #[.int .i64 0, va, vb, vc, vd] w' fun o w'' => ∃ S' r e', o = .returned (.int .i64 r) ∧ Ar w'' p S' ∧ TreeAt w'' p tb e' ∧ Fr [tb] p w' w'' ∧ ChgR S f [] (G []) S' r e' := HO
  unfold Nd.zero Nd.arr at HG
  clear O
  obtain ⟨d0, d1, dz, dl, _⟩ := T
  go_enter Tryz.func92, Tryz.ntmps92
  go_wp2_with fail
  refine (HG _ (by repeat (first | with_reducible exact Below.refl _ _ | with_reducible assumption | with_reducible refine bel_drewN ?_ | with_reducible refine bel_drew ?_ | with_reducible refine bel_alloc ?_ _ | with_reducible refine bel_set ?_ _ ?_ | with_reducible refine bel_trans ?_ (by with_reducible assumption) | ((try dsimp only); omega)))).mono ?_; rintro e1 w1 ⟨rfl, hb1⟩; obtain ⟨hc1, hf1⟩ := bcell hb1
  go_wp2_with fail
  have hb2 := fun o : Obj => bel_alloc hb1 o
  refine (HO _ (hb2 _)).mono ?_; rintro o w2 ⟨S', r, e', rfl, H2, T2, F2, R⟩
  go_wp2
  go_ret
  exact ⟨S', r, e', rfl, H2, T2, (Fr.of_below H (hb2 _)).trans F2, R⟩

set_option maxHeartbeats 4000000 in
set_option maxRecDepth 100000 in
theorem lchangeI_item (w : World) (p tb : Nat) (S : St) (f : Int → Nat) (h : Int) (a b : Nat) (j : Nat) (va : Value) (vb : Value) (vc : Value) (vd : Value) (bs : List Nat) (W0 : World) (G : List (Nat × Nat) → List (Nat × Nat)) (H : Ar w p S) (T : TreeAt w p tb 0) (E : Env p bs W0 w) (I : S.Inv f) (sl : slack f 20) (B : S.lt h (.item a b))
    (O : OneSays p tb 93 #[va, vb, vc, vd] bs W0 G) :
    Calls Tryz.prog 92 #[.pointer (some ⟨tb, 0, none⟩), .int .i64 h, .int .i64 j, .func (.func 93) #[] #[va, vb, vc, vd]] w fun o w' => ∃ S' r e', o = .returned (.int .i64 r) ∧ Ar w' p S' ∧ TreeAt w' p tb e' ∧ Fr [tb] p w w' ∧ ChgR S f [(a, b)] (G [(a, b)]) S' r e' := by
  have hT := T
  have HG := fun w' (hb : Below w.heap.size w w') => lnode_item w' p S h a b (H.below hb) B
  have HO := fun w' (hb : Below w.heap.size w w') => O h [(a, b)] w' S f (H.below hb) (hT.below H hb) (E.below H hb) I sl (lrOf B) (by simp)
  have HO : ∀ w', Below w.heap.size w w' → Calls Tryz.prog 93 #[.int .i64 h, va, vb, vc, vd] w' fun o w'' => ∃ S' r e', o = .returned (.int .i64 r) ∧ Ar w'' p S' ∧ TreeAt w'' p tb e' ∧ Fr [tb] p w' w'' ∧ ChgR S f [(a, b)] (G [(a, b)]) S' r e' := HO
  unfold itemNd Nd.arr at HG
  clear O B
  obtain ⟨d0, d1, dz, dl, _⟩ := T
  go_enter Tryz.func92, Tryz.ntmps92
  go_wp2_with fail
  refine (HG _ (by repeat (first | with_reducible exact Below.refl _ _ | with_reducible assumption | with_reducible refine bel_drewN ?_ | with_reducible refine bel_drew ?_ | with_reducible refine bel_alloc ?_ _ | with_reducible refine bel_set ?_ _ ?_ | with_reducible refine bel_trans ?_ (by with_reducible assumption) | ((try dsimp only); omega)))).mono ?_; rintro e1 w1 ⟨rfl, hb1⟩; obtain ⟨hc1, hf1⟩ := bcell hb1
  go_wp2_with fail
  have hb2 := fun o : Obj => bel_alloc hb1 o
  refine (HO _ (hb2 _)).mono ?_; rintro o w2 ⟨S', r, e', rfl, H2, T2, F2, R⟩
  go_wp2
  go_ret
  exact ⟨S', r, e', rfl, H2, T2, (Fr.of_below H (hb2 _)).trans F2, R⟩

set_option maxHeartbeats 4000000 in
set_option maxRecDepth 100000 in
theorem lchangeI_right (w : World) (p tb : Nat) (S : St) (f : Int → Nat) (h : Int) (x y : LT) (j : Nat) (va : Value) (vb : Value) (vc : Value) (vd : Value) (bs : List Nat) (W0 : World) (G : List (Nat × Nat) → List (Nat × Nat)) (hG : ∀ m, (G m).length ≤ m.length + 1) (H : Ar w p S) (T : TreeAt w p tb 0) (E : Env p bs W0 w) (htb : tb ∉ bs) (I : S.Inv f) (sl : slack f (2 * (x.items.length + y.items.length) + 20)) (B : S.lt h (.join x y))
    (hl : x.items.length + y.items.length < 300000) (hlow : x.items.length ≤ j) (hj : j < 300000)
    (hY : ∀ (hy : Int) w' S' f' (_ : Ar w' p S') (_ : TreeAt w' p tb 0) (_ : Env p bs W0 w') (_ : S'.Inv f') (_ : slack f' (2 * y.items.length + 20)) (_ : S'.lt hy y),
      Calls Tryz.prog 92 #[.pointer (some ⟨tb, 0, none⟩), .int .i64 hy, .int .i64 ((j - x.items.length : Nat) : Int), .func (.func 93) #[] #[va, vb, vc, vd]] w' fun o w'' => ∃ S'' r e', o = .returned (.int .i64 r) ∧ Ar w'' p S'' ∧ TreeAt w'' p tb e' ∧ Fr [tb] p w' w'' ∧ ChgR S' f' y.items (chg G y.items (j - x.items.length)) S'' r e') :
    Calls Tryz.prog 92 #[.pointer (some ⟨tb, 0, none⟩), .int .i64 h, .int .i64 j, .func (.func 93) #[] #[va, vb, vc, vd]] w fun o w' => ∃ S' r e', o = .returned (.int .i64 r) ∧ Ar w' p S' ∧ TreeAt w' p tb e' ∧ Fr [tb] p w w' ∧ ChgR S f (LT.join x y).items (chg G (LT.join x y).items j) S' r e' := by
  have hT := T
  obtain ⟨hx, hy, Eq, bx, by'⟩ := B.2
  have HG := fun w' (hb : Below w.heap.size w w') => lnode_join w' p S h hx hy x y _ (H.below hb) B Eq
  have HL := fun w' (hb : Below w.heap.size w w') => lLen_calls w' p S hx x.items (H.below hb) (lrOf bx) (by omega)
  have px := x.len_pos
  have py := y.len_pos
  have hx0 := lt_ne I bx
  have i1 := (I.keep bx.live (by have := sl hx; omega)).1
  have g1 := Grow.keep S hx
  have u1 : (S.keep hx).usedN = S.usedN := Inv.usedN_congr (keep_n _ _) (keep_used _ _)
  have by1 := lt_root g1 i1 (i1.kid_pos (g := h) (by rw [keep_used]; exact B.1.1) (lt_ne I by') (by rw [keep_node, Eq]; exact kc_pos.2 (by simp [joinNd]))) by'
  have bx1 := lt_root g1 i1 (held1 i1 hx0) bx
  have HI := fun w' (H' : Ar w' p (S.keep hx)) (T' : TreeAt w' p tb 0) (E' : Env p bs W0 w') => hY hy w' (S.keep hx) (more hx f) H' T' E' i1 ((sl.le (m := 2 * y.items.length + 21) (by omega)).more hx) by1
  have bx1 := hid bx1
  have hx1 := hid i1
  have e1 : (j : Int) - (x.items.length : Nat) = ((j - x.items.length : Nat) : Int) := by omega
  have e3 : (j : Int) ≥ (x.items.length : Nat) := by omega
  have wi : IntKind.i64.wrap ((j - x.items.length : Nat) : Int) = ((j - x.items.length : Nat) : Int) := i64_nat (by omega)
  have hit := hid (chg_right G x.items y.items j hlow)
  have hcl := hid (chg_length hG y.items (j - x.items.length))
  have hl2 := hid hl
  unfold joinNd Nd.arr at HG
  clear Eq B bx by' by1 i1 hY hG
  generalize hlx : x.items.length = lx at *
  have hlx := hid hlx
  generalize hii : j - lx = j' at *
  have hii := hid hii
  generalize hnn : lx + y.items.length = n at *
  have hnn := hid hnn
  obtain ⟨d0, d1, dz, dl, _⟩ := T
  go_enter Tryz.func92, Tryz.ntmps92
  go_wp2_with fail
  refine (HG _ (by repeat (first | with_reducible exact Below.refl _ _ | with_reducible assumption | with_reducible refine bel_drewN ?_ | with_reducible refine bel_drew ?_ | with_reducible refine bel_alloc ?_ _ | with_reducible refine bel_set ?_ _ ?_ | with_reducible refine bel_trans ?_ (by with_reducible assumption) | ((try dsimp only); omega)))).mono ?_; rintro o1 w1 ⟨rfl, hb1⟩; obtain ⟨hc1, hf1⟩ := bcell hb1
  go_wp2
  generalize hW : w1.alloc _ = W
  have l0 : W.cell? ⟨w1.heap.size, 0, none⟩ = some (.int .i64 5) := (by subst hW; go_simp); have l1 : W.cell? ⟨w1.heap.size, 1, none⟩ = some (.int .i64 hx) := (by subst hW; go_simp); have l2 : W.cell? ⟨w1.heap.size, 2, none⟩ = some (.int .i64 hy) := (by subst hW; go_simp); have l3 : W.cell? ⟨w1.heap.size, 3, none⟩ = some (.int .i64 0) := (by subst hW; go_simp); have l4 : W.cell? ⟨w1.heap.size, 4, none⟩ = some (.int .i64 0) := (by subst hW; go_simp); have l5 : W.cell? ⟨w1.heap.size, 5, none⟩ = some (.int .u64 n) := (by subst hW; go_simp); have l6 : W.cell? ⟨w1.heap.size, 6, none⟩ = some (.int .u64 0) := (by subst hW; go_simp)
  have hbW : Below w.heap.size w W := by subst hW; exact (by repeat (first | with_reducible exact Below.refl _ _ | with_reducible assumption | with_reducible refine bel_drewN ?_ | with_reducible refine bel_drew ?_ | with_reducible refine bel_alloc ?_ _ | with_reducible refine bel_set ?_ _ ?_ | with_reducible refine bel_trans ?_ (by with_reducible assumption) | ((try dsimp only); omega)))
  have hsW : w1.heap.size < W.heap.size := by subst hW; simp
  have LW : Loc p W w1.heap.size := by subst hW; exact Loc.new (H.below hb1) _
  have ntb : w1.heap.size ≠ tb := fun q => by have := dl; have := hb1.size; omega
  have c0W := (hT.below H hbW).c0
  clear hW hc1 hf1
  refine wp_region_can (fun w' => w'.cell? ⟨tb, 0, none⟩ = some (.pointer (some ⟨p, 0, none⟩)) ∧ ∀ o, w'.cell? ⟨w1.heap.size, o, none⟩ = W.cell? ⟨w1.heap.size, o, none⟩) [(0, false), (1, false), (2, false), (3, false), (4, false), (5, false), (6, false), (7, true), (8, false)] (by kernel_rfl) (by kernel_rfl) (fun _ d _ _ _ h => by cases d <;> exact h) ?_ ?_
  · exact ⟨c0W, fun _ => rfl⟩
  repeat ((with_reducible refine wpCan_isq ?_); first | (apply wpCan_read rfl (by rfl); (· intro w' hS; go_simp; with_reducible rfl); (· try simp only [Act.put, List.setIfInBounds_toArray, List.set_cons_zero, List.set_cons_succ]; with_reducible rfl)) | (apply wpCan_no rfl (by rfl); (· try simp only [Act.put, List.setIfInBounds_toArray, List.set_cons_zero, List.set_cons_succ]; with_reducible rfl)))
  (with_reducible refine wpCan_isl ?_); apply wpCan_call (HL _ (bel_drew hbW)) rfl (by rfl); (· go_simp); rintro o a1 ⟨rfl, ha1⟩; apply wpCan_told; (· exact ⟨(hT.below H (bel_trans (bel_drew hbW) ha1)).c0, fun o => ha1.cell hsW⟩); (· try simp only [Act.put, List.setIfInBounds_toArray, List.set_cons_zero, List.set_cons_succ]; with_reducible rfl)
  repeat ((with_reducible refine wpCan_isq ?_); first | (apply wpCan_read rfl (by rfl); (· intro w' hS; go_simp; with_reducible rfl); (· try simp only [Act.put, List.setIfInBounds_toArray, List.set_cons_zero, List.set_cons_succ]; with_reducible rfl)) | (apply wpCan_no rfl (by rfl); (· try simp only [Act.put, List.setIfInBounds_toArray, List.set_cons_zero, List.set_cons_succ]; with_reducible rfl)))
  refine wpCan_nil ?_
  have Ha : Below w.heap.size w a1 := bel_trans (bel_drew hbW) ha1
  have ec : ∀ o, a1.cell? ⟨w1.heap.size, o, none⟩ = W.cell? ⟨w1.heap.size, o, none⟩ := fun o => ha1.cell hsW
  have k0 := (ec 0).trans l0
  have k1 := (ec 1).trans l1
  have k2 := (ec 2).trans l2
  have LA : Loc p a1 w1.heap.size := LW.drew.below (H.below (bel_drew hbW)) ha1
  clear ec l0 l1 l2 l3 l4 l5 l6 c0W LW hsW
  go_wp2
  refine wp_region_can (fun w' => ∀ o, w'.cell? ⟨w1.heap.size, o, none⟩ = a1.cell? ⟨w1.heap.size, o, none⟩) [(0, false), (1, false), (2, false), (3, false), (4, false), (6, false), (7, false), (8, false), (9, false), (10, false), (11, false), (12, false), (13, false), (5, true), (14, true), (15, true), (16, false)] (by kernel_rfl) (by kernel_rfl) (fun _ d _ _ _ h => by cases d <;> exact h) ?_ ?_
  · exact fun _ => rfl
  repeat ((with_reducible refine wpCan_isq ?_); first | (apply wpCan_read rfl (by rfl); (· intro w' hS; go_simp; with_reducible rfl); (· try simp only [Act.put, List.setIfInBounds_toArray, List.set_cons_zero, List.set_cons_succ]; with_reducible rfl)) | (apply wpCan_no rfl (by rfl); (· try simp only [Act.put, List.setIfInBounds_toArray, List.set_cons_zero, List.set_cons_succ]; with_reducible rfl)))
  have HA := (H.below Ha).drew
  have TA := hT.below H (bel_drew Ha)
  have EA := E.below H (bel_drew Ha)
  (with_reducible refine wpCan_isl ?_); apply wpCan_call (lkeep_calls _ p tb S 0 hx HA TA) rfl (by rfl); (· go_simp); rintro o w2 ⟨rfl, H2, F2⟩; apply wpCan_told; (· exact fun o => World.cell?_of_block (a := ⟨w1.heap.size, o, none⟩) (F2.loc LA.drew (by simp)).2); (· try simp only [Act.put, List.setIfInBounds_toArray, List.set_cons_zero, List.set_cons_succ]; with_reducible rfl)
  have T2 := TA.fr F2
  have E2 := EA.fr (tb := tb) F2.any htb
  have L2 := F2.loc LA.drew (by simp)
  (with_reducible refine wpCan_isl ?_); apply wpCan_call (HI _ H2 T2 E2) rfl (by rfl); (· go_simp); rintro o w3 ⟨S2, r, e1, rfl, H3, T3, F3, R, Gr⟩; apply wpCan_told; (· exact fun o => (World.cell?_of_block (a := ⟨w1.heap.size, o, none⟩) (F3.loc L2.1 (by simpa using ntb)).2).trans (World.cell?_of_block (a := ⟨w1.heap.size, o, none⟩) L2.2)); (· try simp only [Act.put, List.setIfInBounds_toArray, List.set_cons_zero, List.set_cons_succ]; with_reducible rfl)
  have L3 := F3.loc L2.1 (by simpa using ntb)
  have I3 : S2.Inv (more hx (more r f)) := by have := R.inv; rw [more_comm r hx] at this; exact this
  have bx3 := lt_root R.grow I3 (held1 I3 hx0) bx1.out
  have hex : ∃ m, S2.lr r m ∧ m.length ≤ y.items.length + 1 ∧ (e1 = 0 → m = chg G y.items j') := by
    rcases R.out with ⟨q, _⟩ | ⟨q, z, _⟩
    · exact ⟨_, Gr q, hcl.out, fun _ => rfl⟩
    · exact ⟨[], Or.inl ⟨z, rfl⟩, by simp, fun h => by omega⟩
  obtain ⟨m, Gm, hml, hme⟩ := hex
  have hlx' := hlx.out
  have hl3 := hl2.out
  have hn3 := hnn.out
  (with_reducible refine wpCan_isl ?_); apply wpCan_call (ljoin_calls _ p tb S2 f e1 hx r x.items m H3 T3 R.e2 I3 (sl.le (by omega)) (lrOf bx3) Gm (by omega)) rfl (by rfl); (· go_simp); rintro o w4 ⟨S3, r', e', rfl, H4, T4, F4, R2, G2⟩; apply wpCan_told; (· exact fun o => (World.cell?_of_block (a := ⟨w1.heap.size, o, none⟩) (F4.loc L3.1 (by simpa using ntb)).2).trans ((World.cell?_of_block (a := ⟨w1.heap.size, o, none⟩) L3.2).trans (World.cell?_of_block (a := ⟨w1.heap.size, o, none⟩) L2.2))); (· try simp only [Act.put, List.setIfInBounds_toArray, List.set_cons_zero, List.set_cons_succ]; with_reducible rfl)
  repeat ((with_reducible refine wpCan_isq ?_); first | (apply wpCan_read rfl (by rfl); (· intro w' hS; go_simp; with_reducible rfl); (· try simp only [Act.put, List.setIfInBounds_toArray, List.set_cons_zero, List.set_cons_succ]; with_reducible rfl)) | (apply wpCan_no rfl (by rfl); (· try simp only [Act.put, List.setIfInBounds_toArray, List.set_cons_zero, List.set_cons_succ]; with_reducible rfl)))
  refine wpCan_nil ?_
  go_wp2
  go_ret
  have e10 : e' = 0 → e1 = 0 := fun q => by rcases R.e2 with h | h; exact h; exact absurd q (R2.err (by omega))
  refine ⟨S3, r', e', rfl, H4, T4, ((((Fr.of_below H Ha).drew.trans F2.any).trans F3)).trans F4, resMono (resTwo g1 u1 R R2) (by simp only [LT.items, List.length_append]; omega), fun q => ?_⟩
  have hh := hit.out
  have := G2 q
  rw [hme (e10 q)] at this
  simp only [LT.items]
  rw [hh]
  exact this

set_option maxHeartbeats 4000000 in
set_option maxRecDepth 100000 in
theorem lchangeI_left (w : World) (p tb : Nat) (S : St) (f : Int → Nat) (h : Int) (x y : LT) (j : Nat) (va : Value) (vb : Value) (vc : Value) (vd : Value) (bs : List Nat) (W0 : World) (G : List (Nat × Nat) → List (Nat × Nat)) (hG : ∀ m, (G m).length ≤ m.length + 1) (H : Ar w p S) (T : TreeAt w p tb 0) (E : Env p bs W0 w) (htb : tb ∉ bs) (I : S.Inv f) (sl : slack f (2 * (x.items.length + y.items.length) + 20)) (B : S.lt h (.join x y))
    (hl : x.items.length + y.items.length < 300000) (hlow : j < x.items.length)
    (hX : ∀ (hx : Int) w' S' f' (_ : Ar w' p S') (_ : TreeAt w' p tb 0) (_ : Env p bs W0 w') (_ : S'.Inv f') (_ : slack f' (2 * x.items.length + 20)) (_ : S'.lt hx x),
      Calls Tryz.prog 92 #[.pointer (some ⟨tb, 0, none⟩), .int .i64 hx, .int .i64 j, .func (.func 93) #[] #[va, vb, vc, vd]] w' fun o w'' => ∃ S'' r e', o = .returned (.int .i64 r) ∧ Ar w'' p S'' ∧ TreeAt w'' p tb e' ∧ Fr [tb] p w' w'' ∧ ChgR S' f' x.items (chg G x.items j) S'' r e') :
    Calls Tryz.prog 92 #[.pointer (some ⟨tb, 0, none⟩), .int .i64 h, .int .i64 j, .func (.func 93) #[] #[va, vb, vc, vd]] w fun o w' => ∃ S' r e', o = .returned (.int .i64 r) ∧ Ar w' p S' ∧ TreeAt w' p tb e' ∧ Fr [tb] p w w' ∧ ChgR S f (LT.join x y).items (chg G (LT.join x y).items j) S' r e' := by
  have hT := T
  obtain ⟨hx, hy, Eq, bx, by'⟩ := B.2
  have HG := fun w' (hb : Below w.heap.size w w') => lnode_join w' p S h hx hy x y _ (H.below hb) B Eq
  have HL := fun w' (hb : Below w.heap.size w w') => lLen_calls w' p S hx x.items (H.below hb) (lrOf bx) (by omega)
  have px := x.len_pos
  have py := y.len_pos
  have hy0 := lt_ne I by'
  have HI := fun w' (H' : Ar w' p S) (T' : TreeAt w' p tb 0) (E' : Env p bs W0 w') => hX hx w' S f H' T' E' I (sl.le (by omega)) bx
  have by1 := hid by'
  have ku := hid (⟨B.1.1, by rw [Eq]; exact kc_pos.2 (by simp [joinNd])⟩ : S.used h = true ∧ 0 < kc (S.node h) hy)
  have q1 : ¬ (j : Int) ≥ (x.items.length : Nat) := by omega
  have q2 : (j : Int) < (x.items.length : Nat) := by omega
  have hit := hid (chg_left G x.items y.items j hlow)
  have hcl := hid (chg_length hG x.items j)
  have hl2 := hid hl
  unfold joinNd Nd.arr at HG
  clear Eq B bx by' hX hG
  generalize hlx : x.items.length = lx at *
  have hlx := hid hlx
  generalize hnn : lx + y.items.length = n at *
  have hnn := hid hnn
  obtain ⟨d0, d1, dz, dl, _⟩ := T
  go_enter Tryz.func92, Tryz.ntmps92
  go_wp2_with fail
  refine (HG _ (by repeat (first | with_reducible exact Below.refl _ _ | with_reducible assumption | with_reducible refine bel_drewN ?_ | with_reducible refine bel_drew ?_ | with_reducible refine bel_alloc ?_ _ | with_reducible refine bel_set ?_ _ ?_ | with_reducible refine bel_trans ?_ (by with_reducible assumption) | ((try dsimp only); omega)))).mono ?_; rintro o1 w1 ⟨rfl, hb1⟩; obtain ⟨hc1, hf1⟩ := bcell hb1
  go_wp2
  generalize hW : w1.alloc _ = W
  have l0 : W.cell? ⟨w1.heap.size, 0, none⟩ = some (.int .i64 5) := (by subst hW; go_simp); have l1 : W.cell? ⟨w1.heap.size, 1, none⟩ = some (.int .i64 hx) := (by subst hW; go_simp); have l2 : W.cell? ⟨w1.heap.size, 2, none⟩ = some (.int .i64 hy) := (by subst hW; go_simp); have l3 : W.cell? ⟨w1.heap.size, 3, none⟩ = some (.int .i64 0) := (by subst hW; go_simp); have l4 : W.cell? ⟨w1.heap.size, 4, none⟩ = some (.int .i64 0) := (by subst hW; go_simp); have l5 : W.cell? ⟨w1.heap.size, 5, none⟩ = some (.int .u64 n) := (by subst hW; go_simp); have l6 : W.cell? ⟨w1.heap.size, 6, none⟩ = some (.int .u64 0) := (by subst hW; go_simp)
  have hbW : Below w.heap.size w W := by subst hW; exact (by repeat (first | with_reducible exact Below.refl _ _ | with_reducible assumption | with_reducible refine bel_drewN ?_ | with_reducible refine bel_drew ?_ | with_reducible refine bel_alloc ?_ _ | with_reducible refine bel_set ?_ _ ?_ | with_reducible refine bel_trans ?_ (by with_reducible assumption) | ((try dsimp only); omega)))
  have hsW : w1.heap.size < W.heap.size := by subst hW; simp
  have LW : Loc p W w1.heap.size := by subst hW; exact Loc.new (H.below hb1) _
  have ntb : w1.heap.size ≠ tb := fun q => by have := dl; have := hb1.size; omega
  have c0W := (hT.below H hbW).c0
  clear hW hc1 hf1
  refine wp_region_can (fun w' => w'.cell? ⟨tb, 0, none⟩ = some (.pointer (some ⟨p, 0, none⟩)) ∧ ∀ o, w'.cell? ⟨w1.heap.size, o, none⟩ = W.cell? ⟨w1.heap.size, o, none⟩) [(0, false), (1, false), (2, false), (3, false), (4, false), (5, false), (6, false), (7, true), (8, false)] (by kernel_rfl) (by kernel_rfl) (fun _ d _ _ _ h => by cases d <;> exact h) ?_ ?_
  · exact ⟨c0W, fun _ => rfl⟩
  repeat ((with_reducible refine wpCan_isq ?_); first | (apply wpCan_read rfl (by rfl); (· intro w' hS; go_simp; with_reducible rfl); (· try simp only [Act.put, List.setIfInBounds_toArray, List.set_cons_zero, List.set_cons_succ]; with_reducible rfl)) | (apply wpCan_no rfl (by rfl); (· try simp only [Act.put, List.setIfInBounds_toArray, List.set_cons_zero, List.set_cons_succ]; with_reducible rfl)))
  (with_reducible refine wpCan_isl ?_); apply wpCan_call (HL _ (bel_drew hbW)) rfl (by rfl); (· go_simp); rintro o a1 ⟨rfl, ha1⟩; apply wpCan_told; (· exact ⟨(hT.below H (bel_trans (bel_drew hbW) ha1)).c0, fun o => ha1.cell hsW⟩); (· try simp only [Act.put, List.setIfInBounds_toArray, List.set_cons_zero, List.set_cons_succ]; with_reducible rfl)
  repeat ((with_reducible refine wpCan_isq ?_); first | (apply wpCan_read rfl (by rfl); (· intro w' hS; go_simp; with_reducible rfl); (· try simp only [Act.put, List.setIfInBounds_toArray, List.set_cons_zero, List.set_cons_succ]; with_reducible rfl)) | (apply wpCan_no rfl (by rfl); (· try simp only [Act.put, List.setIfInBounds_toArray, List.set_cons_zero, List.set_cons_succ]; with_reducible rfl)))
  refine wpCan_nil ?_
  have Ha : Below w.heap.size w a1 := bel_trans (bel_drew hbW) ha1
  have ec : ∀ o, a1.cell? ⟨w1.heap.size, o, none⟩ = W.cell? ⟨w1.heap.size, o, none⟩ := fun o => ha1.cell hsW
  have k0 := (ec 0).trans l0
  have k1 := (ec 1).trans l1
  have k2 := (ec 2).trans l2
  have LA : Loc p a1 w1.heap.size := LW.drew.below (H.below (bel_drew hbW)) ha1
  clear ec l0 l1 l2 l3 l4 l5 l6 c0W LW hsW
  go_wp2
  refine wp_region_can (fun w' => ∀ o, w'.cell? ⟨w1.heap.size, o, none⟩ = a1.cell? ⟨w1.heap.size, o, none⟩) [(0, false), (1, false), (2, false), (3, false), (4, false), (5, false), (6, false), (8, false), (9, false), (10, false), (11, false), (7, true), (12, true), (13, true), (14, false)] (by kernel_rfl) (by kernel_rfl) (fun _ d _ _ _ h => by cases d <;> exact h) ?_ ?_
  · exact fun _ => rfl
  repeat ((with_reducible refine wpCan_isq ?_); first | (apply wpCan_read rfl (by rfl); (· intro w' hS; go_simp; with_reducible rfl); (· try simp only [Act.put, List.setIfInBounds_toArray, List.set_cons_zero, List.set_cons_succ]; with_reducible rfl)) | (apply wpCan_no rfl (by rfl); (· try simp only [Act.put, List.setIfInBounds_toArray, List.set_cons_zero, List.set_cons_succ]; with_reducible rfl)))
  have HA := (H.below Ha).drew
  have TA := hT.below H (bel_drew Ha)
  have EA := E.below H (bel_drew Ha)
  (with_reducible refine wpCan_isl ?_); apply wpCan_call (HI _ HA TA EA) rfl (by rfl); (· go_simp); rintro o w3 ⟨S2, r, e1, rfl, H3, T3, F3, R, Gr⟩; apply wpCan_told; (· exact fun o => World.cell?_of_block (a := ⟨w1.heap.size, o, none⟩) (F3.loc LA.drew (by simpa using ntb)).2); (· try simp only [Act.put, List.setIfInBounds_toArray, List.set_cons_zero, List.set_cons_succ]; with_reducible rfl)
  have L3 := F3.loc LA.drew (by simpa using ntb)
  have hyl : S2.live hy := R.inv.kid_pos (g := h) (R.grow.used h ku.out.1) hy0 (by rw [R.grow.node h ku.out.1]; exact ku.out.2)
  have I3 : (S2.keep hy).Inv (more r (more hy f)) := by have := (R.inv.keep hyl (by have := sl hy; simp only [more]; split <;> omega)).1; rw [more_comm hy r] at this; exact this
  have g3 := Grow.keep S2 hy
  have u3 : (S2.keep hy).usedN = S2.usedN := Inv.usedN_congr (keep_n _ _) (keep_used _ _)
  have by3 := lt_root (R.grow.trans g3) I3 (held2 I3 hy0) by1.out
  (with_reducible refine wpCan_isl ?_); apply wpCan_call (lkeep_calls _ p tb S2 e1 hy H3 T3) rfl (by rfl); (· go_simp); rintro o w2 ⟨rfl, H2, F2⟩; apply wpCan_told; (· exact fun o => (World.cell?_of_block (a := ⟨w1.heap.size, o, none⟩) (F2.loc L3.1 (by simp)).2).trans (World.cell?_of_block (a := ⟨w1.heap.size, o, none⟩) L3.2)); (· try simp only [Act.put, List.setIfInBounds_toArray, List.set_cons_zero, List.set_cons_succ]; with_reducible rfl)
  have T2 := T3.fr F2
  have L2 := F2.loc L3.1 (by simp)
  have hex : ∃ m, (S2.keep hy).lr r m ∧ m.length ≤ lx + 1 ∧ (e1 = 0 → m = chg G x.items j) := by
    rcases R.out with ⟨q, _⟩ | ⟨q, z, _⟩
    · refine ⟨_, ?_, hcl.out, fun _ => rfl⟩
      rcases Gr q with b | ⟨t', c1, c2⟩
      · exact Or.inl b
      · exact Or.inr ⟨t', lt_root g3 I3 (held1 I3 (lt_ne R.inv c1)) c1, c2⟩
    · exact ⟨[], Or.inl ⟨z, rfl⟩, by simp, fun h => by omega⟩
  obtain ⟨m, Gm, hml, hme⟩ := hex
  have hlx' := hlx.out
  have hl3 := hl2.out
  have hn3 := hnn.out
  (with_reducible refine wpCan_isl ?_); apply wpCan_call (ljoin_calls _ p tb (S2.keep hy) f e1 r hy m y.items H2 T2 R.e2 I3 (sl.le (by omega)) Gm (lrOf by3) (by omega)) rfl (by rfl); (· go_simp); rintro o w4 ⟨S3, r', e', rfl, H4, T4, F4, R2, G2⟩; apply wpCan_told; (· exact fun o => (World.cell?_of_block (a := ⟨w1.heap.size, o, none⟩) (F4.loc L2.1 (by simpa using ntb)).2).trans ((World.cell?_of_block (a := ⟨w1.heap.size, o, none⟩) L2.2).trans (World.cell?_of_block (a := ⟨w1.heap.size, o, none⟩) L3.2))); (· try simp only [Act.put, List.setIfInBounds_toArray, List.set_cons_zero, List.set_cons_succ]; with_reducible rfl)
  repeat ((with_reducible refine wpCan_isq ?_); first | (apply wpCan_read rfl (by rfl); (· intro w' hS; go_simp; with_reducible rfl); (· try simp only [Act.put, List.setIfInBounds_toArray, List.set_cons_zero, List.set_cons_succ]; with_reducible rfl)) | (apply wpCan_no rfl (by rfl); (· try simp only [Act.put, List.setIfInBounds_toArray, List.set_cons_zero, List.set_cons_succ]; with_reducible rfl)))
  refine wpCan_nil ?_
  go_wp2
  go_ret
  have e10 : e' = 0 → e1 = 0 := fun q => by rcases R.e2 with h | h; exact h; exact absurd q (R2.err (by omega))
  have R1' : Res S (more hy f) 0 (S2.keep hy) r e1 (3 * lx + 4) :=
    ⟨R.grow.trans g3, by rw [u3]; have := R.made; omega, by
      rcases R.e2 with q | q
      · exact Or.inl ⟨q, I3⟩
      · rcases R.out with ⟨q', _⟩ | ⟨_, z, _⟩
        · omega
        · subst z; exact Or.inr ⟨q, rfl, I3.unzero⟩, R.err, fun a b => R.room a (by omega)⟩
  refine ⟨S3, r', e', rfl, H4, T4, ((((Fr.of_below H Ha).drew.trans F3)).trans F2.any).trans F4, resMono (resTwo (Grow.refl S) rfl R1' R2) (by simp only [LT.items, List.length_append]; omega), fun q => ?_⟩
  have hh := hit.out
  have := G2 q
  rw [hme (e10 q)] at this
  simp only [LT.items]
  rw [hh]
  exact this

theorem lchangeI_calls (p tb : Nat) (va : Value) (vb : Value) (vc : Value) (vd : Value) (bs : List Nat) (W0 : World) (G : List (Nat × Nat) → List (Nat × Nat)) (hG : ∀ m, (G m).length ≤ m.length + 1) (htb : tb ∉ bs) (O : OneSays p tb 93 #[va, vb, vc, vd] bs W0 G) :
    ∀ (t : LT) (h : Int) (j : Nat) (w : World) (S : St) (f : Int → Nat), Ar w p S → TreeAt w p tb 0 → Env p bs W0 w → S.Inv f → slack f (2 * t.items.length + 20) → S.lt h t → t.items.length < 300000 → j < t.items.length →
    Calls Tryz.prog 92 #[.pointer (some ⟨tb, 0, none⟩), .int .i64 h, .int .i64 j, .func (.func 93) #[] #[va, vb, vc, vd]] w fun o w' => ∃ S' r e', o = .returned (.int .i64 r) ∧ Ar w' p S' ∧ TreeAt w' p tb e' ∧ Fr [tb] p w w' ∧ ChgR S f t.items (chg G t.items j) S' r e'
  | .item a b, h, j, w, S, f, H, T, E, I, sl, B, hl, hj => by
    have : j = 0 := by simp only [LT.items, List.length_cons, List.length_nil] at hj; omega
    subst this
    have e : chg G (LT.item a b).items 0 = G [(a, b)] := by simp [chg, LT.items]
    rw [e]
    exact lchangeI_item w p tb S f h a b 0 va vb vc vd bs W0 G H T E I (sl.le (by omega)) B O
  | .join x y, h, j, w, S, f, H, T, E, I, sl, B, hl, hj => by
    have hl' : x.items.length + y.items.length < 300000 := by simpa [LT.items] using hl
    have sl' : slack f (2 * (x.items.length + y.items.length) + 20) := by simpa [LT.items] using sl
    have hj' : j < x.items.length + y.items.length := by simpa [LT.items] using hj
    by_cases hlow : x.items.length ≤ j
    · exact lchangeI_right w p tb S f h x y j va vb vc vd bs W0 G hG H T E htb I sl' B hl' hlow (by omega) (fun hy w' S' f' H' T' E' I' s' B' => lchangeI_calls p tb va vb vc vd bs W0 G hG htb O y hy _ w' S' f' H' T' E' I' s' B' (by omega) (by omega))
    · exact lchangeI_left w p tb S f h x y j va vb vc vd bs W0 G hG H T E htb I sl' B hl' (by omega) (fun hx w' S' f' H' T' E' I' s' B' => lchangeI_calls p tb va vb vc vd bs W0 G hG htb O x hx _ w' S' f' H' T' E' I' s' B' (by omega) (by omega))
end Go.Proofs.YtngfalbabgpnnaaGreat
