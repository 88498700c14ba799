/-
  The walks of package version: Make, Of, Rows, Docs, Next.
  Worlds to which blocks were laid, and in which choices were drawn; rows of cells that come in.
  Rows of texts: which comes first: plain facts.
  The walks of package rows: is, Less.
  The walk of rows.Less.
  The walks of package rows: the closure of Sorted; Right.
  The rows of texts, rising: plain facts.
-/
import Derived.Test.YtngfalbabgpnnaaGreatM1
import Derived.Test.YtngfalbabgpnnaaGreatM2
import Derived.Test.YtngfalbabgpnnaaGreatM10
import Derived.Test.YtngfalbabgpnnaaGreatM14
import Derived.Sort.Grow
import Derived.Deep.Draws
import Derived.WalkKit
set_option linter.unusedVariables false
set_option linter.unusedSimpArgs false
namespace Go.Proofs.YtngfalbabgpnnaaGreat
open Go.RowKit St

def rootNd (a b c d : Int) : Nd := ⟨6, a, b, c, d, 0, 0⟩
/-- A version: its symbols, marks, spots, documents. -/
def St.vr (S : St) (h : Int) (ws : List Nat) (ms : List Bool) (sp tb : List (Nat × Nat)) : Prop :=
  ∃ a b c d, S.live h ∧ S.node h = rootNd a b c d ∧ S.wv 9 a ws ∧ S.br b ms ∧ S.lr c sp ∧ S.lr d tb
theorem vr_kp {S S' : St} {f f' : Int → Nat} (h : Keeps S S') (H : S.Inv f) (H' : S'.Inv f') {x : Int} {ws : List Nat} {ms : List Bool} {sp tb : List (Nat × Nat)} (v : S'.live x) (V : S.vr x ws ms sp tb) : S'.vr x ws ms sp tb := by
  obtain ⟨a, b, c, d, hl, e, h1, h2, h3, h4⟩ := V
  have ex := h x hl.1 v.1
  have kl : ∀ k, k ≠ 0 → 0 < kc (S'.node x) k → S'.live k := fun k k0 hk => H'.kid_pos v.1 k0 hk
  rw [ex, e] at kl
  exact ⟨a, b, c, d, v, by rw [ex]; exact e, wv_kp h H H' (fun q => kl a q (kc_pos.2 (by simp [rootNd]))) h1, br_kp h H H' (fun q => kl b q (kc_pos.2 (by simp [rootNd]))) h2,
    lr_kp h H H' (fun q => kl c q (kc_pos.2 (by simp [rootNd]))) h3, lr_kp h H H' (fun q => kl d q (kc_pos.2 (by simp [rootNd]))) h4⟩
theorem cov_vr {S : St} {x : Int} {ws : List Nat} {ms : List Bool} {sp tb : List (Nat × Nat)} (V : S.vr x ws ms sp tb) : S.cov x (1 + 27 * ws.length + 2 * ms.length + 2 * sp.length + 2 * tb.length) := by
  obtain ⟨a, b, c, d, hl, e, h1, h2, h3, h4⟩ := V
  exact (cov_node (by rw [e]; exact cov_wv h1) (by rw [e]; exact cov_br h2) (by rw [e]; exact cov_lr h3) (by rw [e]; exact cov_lr h4)).mono (by omega)

set_option maxHeartbeats 2000000 in
set_option maxRecDepth 100000 in
theorem vMake_walk (w : World) (p : Nat) (S : St) (a b c d : Int) (H : Ar w p S) (ha : a ≠ 0) :
    Calls Tryz.prog 13 #[.pointer (some ⟨p, 0, none⟩), .agg #[.int .i64 a, .int .i64 b, .int .i64 c, .int .i64 d]] w fun o w' => o = .returned (.tuple #[.int .i64 (S.make (rootNd a b c d)).1, .int .i64 (S.make (rootNd a b c d)).2.1]) ∧ Ar w' p (S.make (rootNd a b c d)).2.2 ∧ Fr [] p w w' := by
  have HM := fun w' (h : Ar w' p S) => Make_calls w' p S (rootNd a b c d) h
  generalize S.make (rootNd a b c d) = R at *
  obtain ⟨rr, ee, S1⟩ := R
  unfold rootNd Nd.arr at HM
  simp only at HM ⊢
  have q : (a == 0) = false := by simp [ha]
  go_enter Tryz.func13, Tryz.ntmps13
  go_wp2_with fail
  refine (HM _ (H.alloc _)).mono ?_; rintro o1 w1 ⟨rfl, H1, F1⟩
  go_wp2
  go_ret2
  exact ⟨rfl, H1, (Fr.of_below H (by repeat (first | with_reducible exact Below.refl _ _ | with_reducible assumption | with_reducible refine bel_drewN ?_ | with_reducible refine bel_drew ?_ | with_reducible refine bel_alloc ?_ _ | with_reducible refine bel_set ?_ _ ?_ | with_reducible refine bel_trans ?_ (by with_reducible assumption) | ((try dsimp only); omega)))).trans F1⟩

theorem vMake_calls (w : World) (p : Nat) (S : St) (f : Int → Nat) (a b c d : Int) (H : Ar w p S) (I : S.Inv f) (ha : a ≠ 0) (hk : ∀ k, k ≠ 0 → 0 < kc (rootNd a b c d) k → S.live k) :
    Calls Tryz.prog 13 #[.pointer (some ⟨p, 0, none⟩), .agg #[.int .i64 a, .int .i64 b, .int .i64 c, .int .i64 d]] w fun o w' => ∃ S' r e', o = .returned (.tuple #[.int .i64 r, .int .i64 e']) ∧ Ar w' p S' ∧ Fr [] p w w' ∧
      Res S f 0 S' r e' 1 ∧ (e' = 0 → S'.node r = rootNd a b c d ∧ S'.live r) := by
  refine (vMake_walk w p S a b c d H ha).mono ?_
  rintro o w' ⟨rfl, HA, F⟩
  refine ⟨_, _, _, rfl, HA, F, ?_⟩
  rcases I.make (x := rootNd a b c d) (by simp [rootNd]) hk with ⟨em, en⟩ | ⟨r, em, r1, ru, hp, hlt, hu⟩
  · rw [em]
    exact ⟨⟨Grow.refl _, by (try dsimp only); omega, Or.inr ⟨rfl, rfl, I⟩, fun h => absurd rfl h, fun _ h => by omega⟩, fun h => absurd h (by simp)⟩
  · rw [em]
    refine ⟨⟨Grow.put ru, by (try dsimp only); omega, Or.inl ⟨rfl, hp⟩, fun h => absurd rfl h, fun _ _ => rfl⟩, fun _ => ⟨?_, hp.held_pos (by omega) (by rw [more_self]; omega)⟩⟩
    rw [put_node, if_pos rfl]

set_option maxHeartbeats 2000000 in
set_option maxRecDepth 100000 in
theorem vOf_zero (w : World) (p : Nat) :
    Calls Tryz.prog 11 #[.pointer (some ⟨p, 0, none⟩), .int .i64 0] w fun o w' => o = .returned (.tuple #[.agg #[.int .i64 0, .int .i64 0, .int .i64 0, .int .i64 0], .bool true]) ∧ Below w.heap.size w w' := by
  go_enter Tryz.func11, Tryz.ntmps11
  go_wp2
  refine bodyPost_ret (v := .tuple #[.agg #[.int .i64 0, .int .i64 0, .int .i64 0, .int .i64 0], .bool true]) ?_ rfl ⟨rfl, (by repeat (first | with_reducible exact Below.refl _ _ | with_reducible assumption | with_reducible refine bel_drewN ?_ | with_reducible refine bel_drew ?_ | with_reducible refine bel_alloc ?_ _ | with_reducible refine bel_set ?_ _ ?_ | with_reducible refine bel_trans ?_ (by with_reducible assumption) | ((try dsimp only); omega)))⟩
  simp [results, Tryz.results11, go_sem, *]
set_option maxHeartbeats 2000000 in
set_option maxRecDepth 100000 in
theorem vOf_root (w : World) (p : Nat) (S : St) (h a b c d : Int) (H : Ar w p S) (hl : S.live h) (e : S.node h = rootNd a b c d) :
    Calls Tryz.prog 11 #[.pointer (some ⟨p, 0, none⟩), .int .i64 h] w fun o w' => o = .returned (.tuple #[.agg #[.int .i64 a, .int .i64 b, .int .i64 c, .int .i64 d], .bool true]) ∧ Below w.heap.size w w' := by
  have h0 : (h == 0) = false := by have := (live.ne H.2 hl).1; simp; omega
  have HG := fun w' (hb : Below w.heap.size w w') => Get_calls w' p S h (H.below hb)
  have HC := fun w' (hb : Below w.heap.size w w') => Count_calls w' p S h (H.below hb)
  rw [e, hl.1] at HG
  unfold rootNd Nd.arr at HG
  have hc := hl.2
  generalize S.cnt h = cc at *
  have q1 : (cc == 0) = false := by simp; omega
  clear hc e hl
  go_enter Tryz.func11, Tryz.ntmps11
  go_wp2_with fail
  refine (HG _ (by repeat (first | with_reducible exact Below.refl _ _ | with_reducible assumption | with_reducible refine bel_drewN ?_ | with_reducible refine bel_drew ?_ | with_reducible refine bel_alloc ?_ _ | with_reducible refine bel_set ?_ _ ?_ | with_reducible refine bel_trans ?_ (by with_reducible assumption) | ((try dsimp only); omega)))).mono ?_; rintro o1 w1 ⟨rfl, hb1⟩; obtain ⟨hc1, hf1⟩ := bcell hb1
  have zz := hb1.size; (try simp only [World.size_alloc, World.size_drew, World.size_setCell] at zz); have : w.heap.size < w1.heap.size := (by omega); clear zz
  go_wp2_with fail
  refine (HC _ (by repeat (first | with_reducible exact Below.refl _ _ | with_reducible assumption | with_reducible refine bel_drewN ?_ | with_reducible refine bel_drew ?_ | with_reducible refine bel_alloc ?_ _ | with_reducible refine bel_set ?_ _ ?_ | with_reducible refine bel_trans ?_ (by with_reducible assumption) | ((try dsimp only); omega)))).mono ?_; rintro o2 w2 ⟨rfl, rfl⟩
  have q7 : w.heap.size ≠ w1.heap.size := by omega
  go_wp2
  refine bodyPost_ret (v := .tuple #[.agg #[.int .i64 a, .int .i64 b, .int .i64 c, .int .i64 d], .bool true]) ?_ rfl ⟨rfl, (by repeat (first | with_reducible exact Below.refl _ _ | with_reducible assumption | with_reducible refine bel_drewN ?_ | with_reducible refine bel_drew ?_ | with_reducible refine bel_alloc ?_ _ | with_reducible refine bel_set ?_ _ ?_ | with_reducible refine bel_trans ?_ (by with_reducible assumption) | ((try dsimp only); omega)))⟩
  simp [results, Tryz.results11, go_sem, *]

set_option maxHeartbeats 2000000 in
theorem vRows_calls (w : World) (p : Nat) (S : St) (h : Int) (ws : List Nat) (ms : List Bool) (sp tb : List (Nat × Nat)) (H : Ar w p S) (V : S.vr h ws ms sp tb) (hl : ws.length < 1000000) :
    Calls Tryz.prog 30 #[.pointer (some ⟨p, 0, none⟩), .int .i64 h] w fun o w' => o = .returned (.int .i64 (ws.length : Nat)) ∧ Below w.heap.size w w' := by
  obtain ⟨a, b, c, d, hv, e, h1, h2, h3, h4⟩ := V
  have HO := fun w' (hb : Below w.heap.size w w') => vOf_root w' p S h a b c d (H.below hb) hv e
  have HL := fun w' (hb : Below w.heap.size w w') => waveLen_calls w' p S a 8 ws (H.below hb) h1 hl
  clear hv e h1 h2 h3 h4
  go_enter Tryz.func30, Tryz.ntmps30
  go_wp2_with fail
  refine (HO _ (by repeat (first | with_reducible exact Below.refl _ _ | with_reducible assumption | with_reducible refine bel_drewN ?_ | with_reducible refine bel_drew ?_ | with_reducible refine bel_alloc ?_ _ | with_reducible refine bel_set ?_ _ ?_ | with_reducible refine bel_trans ?_ (by with_reducible assumption) | ((try dsimp only); omega)))).mono ?_; rintro o1 w1 ⟨rfl, hb1⟩; obtain ⟨hc1, hf1⟩ := bcell hb1
  go_wp2_with fail
  have hb2 := fun o : Obj => bel_alloc hb1 o
  refine (HL _ (hb2 _)).mono ?_; rintro o2 w2 ⟨rfl, hb3⟩
  go_wp2
  go_ret
  exact ⟨rfl, bel_trans (hb2 _) hb3⟩
set_option maxHeartbeats 2000000 in
theorem vDocs_calls (w : World) (p : Nat) (S : St) (h : Int) (ws : List Nat) (ms : List Bool) (sp tb : List (Nat × Nat)) (H : Ar w p S) (V : S.vr h ws ms sp tb) (hl : tb.length < 400000) :
    Calls Tryz.prog 31 #[.pointer (some ⟨p, 0, none⟩), .int .i64 h] w fun o w' => o = .returned (.int .i64 (tb.length : Nat)) ∧ Below w.heap.size w w' := by
  obtain ⟨a, b, c, d, hv, e, h1, h2, h3, h4⟩ := V
  have HO := fun w' (hb : Below w.heap.size w w') => vOf_root w' p S h a b c d (H.below hb) hv e
  have HL := fun w' (hb : Below w.heap.size w w') => tabLen_calls w' p S d tb (H.below hb) h4 hl
  clear hv e h1 h2 h3 h4
  go_enter Tryz.func31, Tryz.ntmps31
  go_wp2_with fail
  refine (HO _ (by repeat (first | with_reducible exact Below.refl _ _ | with_reducible assumption | with_reducible refine bel_drewN ?_ | with_reducible refine bel_drew ?_ | with_reducible refine bel_alloc ?_ _ | with_reducible refine bel_set ?_ _ ?_ | with_reducible refine bel_trans ?_ (by with_reducible assumption) | ((try dsimp only); omega)))).mono ?_; rintro o1 w1 ⟨rfl, hb1⟩; obtain ⟨hc1, hf1⟩ := bcell hb1
  go_wp2_with fail
  have hb2 := fun o : Obj => bel_alloc hb1 o
  refine (HL _ (hb2 _)).mono ?_; rintro o2 w2 ⟨rfl, hb3⟩
  go_wp2
  go_ret
  exact ⟨rfl, bel_trans (hb2 _) hb3⟩
set_option maxHeartbeats 2000000 in
theorem vRows_zero (w : World) (p : Nat) (S : St) (H : Ar w p S) :
    Calls Tryz.prog 30 #[.pointer (some ⟨p, 0, none⟩), .int .i64 0] w fun o w' => o = .returned (.int .i64 0) ∧ Below w.heap.size w w' := by
  have HO := fun w' => vOf_zero w' p
  have HL := fun w' (hb : Below w.heap.size w w') => waveLen_calls w' p S 0 8 [] (H.below hb) (Or.inl ⟨rfl, rfl⟩) (by simp)
  go_enter Tryz.func30, Tryz.ntmps30
  go_wp2_with fail
  refine (HO _).mono ?_; rintro o1 w1 ⟨rfl, hb1⟩; obtain ⟨hc1, hf1⟩ := bcell hb1
  go_wp2_with fail
  have hb2 := fun o : Obj => bel_alloc hb1 o
  refine (HL _ (hb2 _)).mono ?_; rintro o2 w2 ⟨rfl, hb3⟩
  go_wp2
  go_ret
  exact ⟨rfl, bel_trans (hb2 _) hb3⟩

set_option maxHeartbeats 4000000 in
set_option maxRecDepth 100000 in
/-- The row that is one byte longer. -/
theorem vNext_calls (w : World) (p : Nat) (S : St) (h : Int) (ws : List Nat) (ms : List Bool) (sp tb : List (Nat × Nat)) (i s : Nat) (H : Ar w p S) (V : S.vr h ws ms sp tb) (hl : ws.length < 900000) (h257 : ∀ x ∈ ws, x < 257) (hi : ws[i]? = some s) (hs : s ≠ 0) :
    Calls Tryz.prog 28 #[.pointer (some ⟨p, 0, none⟩), .int .i64 h, .int .i64 i] w fun o w' => o = .returned (.tuple #[.int .i64 ((lessN s ws + (ws.take i).count s : Nat) : Int), .bool true]) ∧ Below w.heap.size w w' := by
  obtain ⟨a, b, c, d, hv, e, h1, h2, h3, h4⟩ := V
  have hs257 := h257 s (List.mem_of_getElem? hi)
  have hil := (List.getElem?_eq_some_iff.1 hi).1
  have HO := fun w' (hb : Below w.heap.size w w') => vOf_root w' p S h a b c d (H.below hb) hv e
  have HG := fun w' (hb : Below w.heap.size w w') => waveGet_calls w' p S a ws i s (H.below hb) h1 (by omega) hi hs257
  have HB := fun w' (hb : Below w.heap.size w w') => waveBefore_calls w' p S a ws s (H.below hb) h1 (by omega) hs257 h257
  have HR := fun w' (hb : Below w.heap.size w w') => waveRank_calls w' p S a ws i s (H.below hb) h1 (by omega) (by omega) hs257 h257
  have k1 : lessN s ws ≤ ws.length := List.length_filter_le _ _
  have k2 : (ws.take i).count s ≤ i := Nat.le_trans List.count_le_length (by rw [List.length_take]; omega)
  rw [Int.natCast_add]
  have wq : IntKind.i64.wrap ((lessN s ws : Int) + ((ws.take i).count s : Nat)) = (lessN s ws : Int) + ((ws.take i).count s : Nat) := by
    rw [← Int.natCast_add]; exact i64_nat (by omega)
  have q1 : ((s : Int) == 0) = false := by simp [hs]
  clear hv e h1 h2 h3 h4 hi k1 k2 h257
  generalize lessN s ws = A at *
  generalize (ws.take i).count s = B at *
  go_enter Tryz.func28, Tryz.ntmps28
  go_wp2_with fail
  refine (HO _ (by repeat (first | with_reducible exact Below.refl _ _ | with_reducible assumption | with_reducible refine bel_drewN ?_ | with_reducible refine bel_drew ?_ | with_reducible refine bel_alloc ?_ _ | with_reducible refine bel_set ?_ _ ?_ | with_reducible refine bel_trans ?_ (by with_reducible assumption) | ((try dsimp only); omega)))).mono ?_; rintro o1 w1 ⟨rfl, hb1⟩; obtain ⟨hc1, hf1⟩ := bcell hb1
  go_wp2_with fail
  have hb2 := fun o : Obj => bel_alloc hb1 o
  refine (HG _ (hb2 _)).mono ?_; rintro o2 w2 ⟨rfl, hb3⟩; obtain ⟨hc3, hf3⟩ := bcell hb3
  have zz := hb3.size; (try simp only [World.size_alloc, World.size_drew, World.size_setCell] at zz); have : w1.heap.size < w2.heap.size := (by omega); clear zz
  have hb4 := bel_trans (hb2 _) hb3
  have z0 : w2.cell? ⟨w1.heap.size, 0, none⟩ = some (.int .i64 a) := by go_simp
  clear hc1 hf1 hc3 hf3 hb2
  go_wp2
  refine wp_region_can (fun w' => w'.cell? ⟨w1.heap.size, 0, none⟩ = some (.int .i64 a)) [(0, false), (1, false), (2, false), (3, false), (5, false), (6, false), (7, false), (8, false), (9, false), (4, true), (10, true), (11, false), (12, false), (13, false)] (by kernel_rfl) (by kernel_rfl) (fun _ d _ _ _ h => by cases d <;> exact h) ?_ ?_
  · exact z0
  repeat ((with_reducible refine wpCan_isq ?_); first | (apply wpCan_read rfl (by rfl); (· intro w' hS; go_simp; with_reducible rfl); (· try simp only [Act.put, List.setIfInBounds_toArray, List.set_cons_zero, List.set_cons_succ]; with_reducible rfl)) | (apply wpCan_no rfl (by rfl); (· try simp only [Act.put, List.setIfInBounds_toArray, List.set_cons_zero, List.set_cons_succ]; with_reducible rfl)))
  (with_reducible refine wpCan_isl ?_); apply wpCan_call (HB _ (bel_drew hb4)) rfl (by rfl); (· go_simp); rintro o a1 ⟨rfl, ha1⟩; apply wpCan_told; (· exact (ha1.cell (p := ⟨w1.heap.size, 0, none⟩) (by simpa using this)).trans z0); (· try simp only [Act.put, List.setIfInBounds_toArray, List.set_cons_zero, List.set_cons_succ]; with_reducible rfl)
  have Ha1 : Below w.heap.size w a1 := bel_trans (bel_drew hb4) ha1
  have this2 : w1.heap.size < a1.heap.size := Nat.lt_of_lt_of_le this ha1.size
  have z1 := (ha1.cell (p := ⟨w1.heap.size, 0, none⟩) (by simpa using this)).trans z0
  (with_reducible refine wpCan_isl ?_); apply wpCan_call (HR _ Ha1) rfl (by rfl); (· go_simp); rintro o a2 ⟨rfl, ha2⟩; apply wpCan_told; (· exact (ha2.cell (p := ⟨w1.heap.size, 0, none⟩) (by simpa using this2)).trans z1); (· try simp only [Act.put, List.setIfInBounds_toArray, List.set_cons_zero, List.set_cons_succ]; with_reducible rfl)
  repeat ((with_reducible refine wpCan_isq ?_); first | (apply wpCan_read rfl (by rfl); (· intro w' hS; go_simp; with_reducible rfl); (· try simp only [Act.put, List.setIfInBounds_toArray, List.set_cons_zero, List.set_cons_succ]; with_reducible rfl)) | (apply wpCan_no rfl (by rfl); (· try simp only [Act.put, List.setIfInBounds_toArray, List.set_cons_zero, List.set_cons_succ]; with_reducible rfl)))
  refine wpCan_nil ?_
  go_wp2
  go_ret2
  exact ⟨rfl, bel_trans Ha1 ha2⟩
end Go.Proofs.YtngfalbabgpnnaaGreat

namespace Go.Proofs.YtngfalbabgpnnaaGreat
open Go.RowKit

def Gw (w w' : World) : Prop := ∃ q os, w' = Sort.grow (w.drewN q) os
namespace Gw
variable {w w' w'' : World}
theorem refl (w : World) : Gw w w := ⟨0, #[], by simp [World.drewN]⟩
theorem alloc (h : Gw w w') (o : Obj) : Gw w (w'.alloc o) := by
  obtain ⟨q, os, rfl⟩ := h
  exact ⟨q, os ++ #[o], by rw [Sort.alloc_eq_grow, Sort.grow_grow]⟩
theorem drew (h : Gw w w') : Gw w w'.drew := by
  obtain ⟨q, os, rfl⟩ := h
  exact ⟨q + 1, os, rfl⟩
theorem drewN (h : Gw w w') (n : Nat) : Gw w (w'.drewN n) := by
  obtain ⟨q, os, rfl⟩ := h
  exact ⟨q + n, os, by simp [Sort.grow, World.drewN, Nat.add_assoc]⟩
theorem trans (h : Gw w w') (k : Gw w' w'') : Gw w w'' := by
  obtain ⟨q, os, rfl⟩ := h
  obtain ⟨q', os', rfl⟩ := k
  exact ⟨q + q', os ++ os', by simp [Sort.grow, World.drewN, Array.append_assoc, Nat.add_assoc]⟩
theorem below (h : Gw w w') : Below w.heap.size w w' := by
  obtain ⟨q, os, rfl⟩ := h
  refine ⟨rfl, rfl, rfl, ?_, fun b hb => ?_⟩
  · simp [Sort.grow, World.drewN]
  · simp only [Sort.grow, World.drewN]
    rw [Array.getElem?_append_left hb]
end Gw

/-- A row of cells that came in. -/
def RowV (w : World) (v : Value) (size n : Nat) (xs : List Value) : Prop :=
  xs.length = n * size ∧ ((v = .slice none 0 0 ∧ n = 0) ∨ ∃ g off cap, v = .slice (some ⟨g, off, none⟩) n cap ∧ g < w.heap.size ∧ ∀ j x, xs[j]? = some x → w.cell? ⟨g, off + j, none⟩ = some x)
theorem RowV.below {w w' : World} {v : Value} {size n : Nat} {xs : List Value} (R : RowV w v size n xs) (h : Below w.heap.size w w') : RowV w' v size n xs := by
  obtain ⟨a, b | ⟨g, off, cap, rfl, hg, hc⟩⟩ := R
  · exact ⟨a, Or.inl b⟩
  · exact ⟨a, Or.inr ⟨g, off, cap, rfl, Nat.lt_of_lt_of_le hg h.size, fun j x hx => ((bcell h).1 g _ hg).trans (hc j x hx)⟩⟩
theorem RowV.own {w : World} {base : Nat} {e : TypeId} {size : Nat} {v : Value} {n : Nat} {xs : List Value} (h : w.ownsRow base e size v n xs) : RowV w v size n xs := by
  obtain ⟨h1, h2 | ⟨g, cap, cur, rfl, hb, hg, hn, _, hs, ht⟩⟩ := h
  · exact ⟨h1, Or.inl h2⟩
  · refine ⟨h1, Or.inr ⟨g, 0, cap, rfl, (Array.getElem?_eq_some_iff.1 hg).1, fun j x hx => ?_⟩⟩
    subst ht
    rw [List.getElem?_take] at hx
    split at hx
    · rw [World.cell?, hg]
      simpa using hx
    · cases hx
theorem RowV.some {w : World} {v : Value} {size n : Nat} {xs : List Value} (R : RowV w v size n xs) (h : n ≠ 0) : ∃ g off cap, v = .slice (some ⟨g, off, none⟩) n cap ∧ g < w.heap.size ∧ ∀ j x, xs[j]? = some x → w.cell? ⟨g, off + j, none⟩ = some x := by
  obtain ⟨_, ⟨_, b⟩ | b⟩ := R
  · exact absurd b h
  · exact b
/-- Its length is told, whatever it is. -/
theorem RowV.shape {w : World} {v : Value} {size n : Nat} {xs : List Value} (R : RowV w v size n xs) : ∃ a cap, v = .slice a n cap := by
  obtain ⟨_, ⟨rfl, rfl⟩ | ⟨g, off, cap, rfl, _⟩⟩ := R
  · exact ⟨_, _, rfl⟩
  · exact ⟨_, _, rfl⟩
end Go.Proofs.YtngfalbabgpnnaaGreat

namespace Go.Proofs.YtngfalbabgpnnaaGreat

def bl (s : ByteArray) : List UInt8 := s.data.toList
theorem bl_length (s : ByteArray) : (bl s).length = s.size := rfl

def lexLess : List UInt8 → List UInt8 → Bool → Bool
  | [], [], tie => tie
  | [], _ :: _, _ => true
  | _ :: _, [], _ => false
  | a :: s, b :: t, tie => if a = b then lexLess s t tie else decide (a < b)

/-- A row: of which text, from which byte on. -/
def suf (ts : List ByteArray) (r : Nat × Nat) : List UInt8 := (bl (ts.getD r.1 ByteArray.empty)).drop r.2
def rowLess (ts : List ByteArray) (a b : Nat × Nat) : Bool := lexLess (suf ts a) (suf ts b) (decide (a.1 < b.1))
def rowOk (ts : List ByteArray) (r : Nat × Nat) : Prop := r.1 < ts.length ∧ r.2 ≤ (ts.getD r.1 ByteArray.empty).size

theorem lex_irrefl : ∀ (s : List UInt8) (t : Bool), lexLess s s t = t
  | [], _ => rfl
  | a :: s, t => by rw [lexLess, if_pos rfl]; exact lex_irrefl s t
theorem lex_self {s t : List UInt8} : lexLess s t true = true → lexLess t s true = true → s = t := by
  induction s generalizing t with
  | nil => cases t with
    | nil => intros; rfl
    | cons b t => simp [lexLess]
  | cons a s ih =>
    cases t with
    | nil => simp [lexLess]
    | cons b t =>
      intro h1 h2
      by_cases e : a = b
      · subst e
        simp only [lexLess, if_pos] at h1 h2
        rw [ih h1 h2]
      · rw [lexLess, if_neg e] at h1
        rw [lexLess, if_neg (Ne.symm e)] at h2
        simp only [decide_eq_true_eq, UInt8.lt_iff_toNat_lt] at h1 h2
        omega
theorem lex_ne {s t : List UInt8} (h : s ≠ t) (a b : Bool) : lexLess s t a = lexLess s t b := by
  induction s generalizing t with
  | nil => cases t with
    | nil => exact absurd rfl h
    | cons b t => rfl
  | cons x s ih =>
    cases t with
    | nil => rfl
    | cons y t =>
      by_cases e : x = y
      · subst e
        simp only [lexLess, if_pos]
        exact ih (fun q => h (by rw [q]))
      · simp only [lexLess, if_neg e]
theorem lex_total {s t : List UInt8} (h : s ≠ t) (a b : Bool) : lexLess s t a = !lexLess t s b := by
  induction s generalizing t with
  | nil => cases t with
    | nil => exact absurd rfl h
    | cons b t => rfl
  | cons x s ih =>
    cases t with
    | nil => rfl
    | cons y t =>
      by_cases e : x = y
      · subst e
        simp only [lexLess, if_pos]
        exact ih (fun q => h (by rw [q]))
      · simp only [lexLess, if_neg e, if_neg (Ne.symm e)]
        have : x.toNat ≠ y.toNat := fun q => e (UInt8.toNat_inj.1 q)
        by_cases c : x < y
        · have c2 : ¬ y < x := by rw [UInt8.lt_iff_toNat_lt] at *; omega
          simp [c, c2]
        · have c2 : y < x := by rw [UInt8.lt_iff_toNat_lt] at *; omega
          simp [c, c2]
theorem lex_trans {s t u : List UInt8} (h1 : s ≠ t) (h2 : t ≠ u) : lexLess s t true = true → lexLess t u true = true → lexLess s u true = true ∧ s ≠ u := by
  induction s generalizing t u with
  | nil =>
    cases u with
    | nil => cases t with
      | nil => exact absurd rfl h1
      | cons b t => simp [lexLess]
    | cons c u => intros; simp [lexLess]
  | cons a s ih =>
    cases t with
    | nil => simp [lexLess]
    | cons b t =>
      cases u with
      | nil => simp [lexLess]
      | cons c u =>
        intro l1 l2
        by_cases e1 : a = b
        · subst e1
          by_cases e2 : a = c
          · subst e2
            simp only [lexLess, if_pos] at l1 l2 ⊢
            obtain ⟨q1, q2⟩ := ih (fun q => h1 (by rw [q])) (fun q => h2 (by rw [q])) l1 l2
            exact ⟨q1, fun q => q2 (List.cons.inj q).2⟩
          · rw [lexLess, if_neg e2] at l2 ⊢
            exact ⟨l2, fun q => e2 (List.cons.inj q).1⟩
        · rw [lexLess, if_neg e1] at l1
          simp only [decide_eq_true_eq, UInt8.lt_iff_toNat_lt] at l1
          by_cases e2 : b = c
          · subst e2
            rw [lexLess, if_neg e1]
            exact ⟨by simpa [UInt8.lt_iff_toNat_lt] using l1, fun q => e1 (List.cons.inj q).1⟩
          · rw [lexLess, if_neg e2] at l2
            simp only [decide_eq_true_eq, UInt8.lt_iff_toNat_lt] at l2
            have e3 : a ≠ c := fun q => by subst q; omega
            rw [lexLess, if_neg e3]
            exact ⟨by simp only [decide_eq_true_eq, UInt8.lt_iff_toNat_lt]; omega, fun q => e3 (List.cons.inj q).1⟩

theorem suf_length (ts : List ByteArray) (r : Nat × Nat) : (suf ts r).length = (ts.getD r.1 ByteArray.empty).size - r.2 := by
  simp [suf, bl_length]
/-- Rows that have the same text behind them, of one document, are the same. -/
theorem rowLess_irrefl (ts : List ByteArray) (r : Nat × Nat) : rowLess ts r r = false := by
  unfold rowLess; rw [lex_irrefl]; simp
theorem rowLess_total {ts : List ByteArray} {a b : Nat × Nat} (ha : rowOk ts a) (hb : rowOk ts b) (h : a ≠ b) : rowLess ts a b = !rowLess ts b a := by
  unfold rowLess
  by_cases e : suf ts a = suf ts b
  · rw [e, lex_irrefl, lex_irrefl]
    have : a.1 ≠ b.1 := fun q => by
      have l := congrArg List.length e
      rw [suf_length, suf_length] at l
      have h1 := ha.2
      have h2 := hb.2
      rw [q] at l h1
      exact h (Prod.ext q (by omega))
    by_cases c : a.1 < b.1
    · have c2 : ¬ b.1 < a.1 := by omega
      simp [c, c2]
    · have c2 : b.1 < a.1 := by omega
      simp [c, c2]
  · exact lex_total e _ _
theorem rowLess_trans {ts : List ByteArray} {a b c : Nat × Nat} (h1 : rowLess ts a b = true) (h2 : rowLess ts b c = true) : rowLess ts a c = true := by
  unfold rowLess at *
  by_cases e1 : suf ts a = suf ts b
  · rw [e1, lex_irrefl] at h1
    by_cases e2 : suf ts b = suf ts c
    · rw [e2, lex_irrefl] at h2
      rw [e1, e2, lex_irrefl]
      simp at *; omega
    · rw [e1, lex_ne e2 _ (decide (b.1 < c.1))]; exact h2
  · by_cases e2 : suf ts b = suf ts c
    · rw [← e2, lex_ne e1 _ (decide (a.1 < b.1))]; exact h1
    · rw [lex_ne e1 _ true] at h1
      rw [lex_ne e2 _ true] at h2
      obtain ⟨q1, q2⟩ := lex_trans e1 e2 h1 h2
      rw [lex_ne q2 _ true]; exact q1
theorem rowLess_ntrans {ts : List ByteArray} {a b c : Nat × Nat} (ha : rowOk ts a) (hb : rowOk ts b) (hc : rowOk ts c) (h1 : rowLess ts a b = false) (h2 : rowLess ts b c = false) : rowLess ts a c = false := by
  by_cases e1 : a = b
  · subst e1; exact h2
  by_cases e2 : b = c
  · subst e2; exact h1
  have t1 : rowLess ts b a = true := by rw [rowLess_total hb ha (Ne.symm e1), h1]; rfl
  have t2 : rowLess ts c b = true := by rw [rowLess_total hc hb (Ne.symm e2), h2]; rfl
  have t3 := rowLess_trans t2 t1
  by_cases e3 : a = c
  · subst e3; exact rowLess_irrefl _ _
  · rw [rowLess_total ha hc e3, t3]; rfl
end Go.Proofs.YtngfalbabgpnnaaGreat

namespace Go.Proofs.YtngfalbabgpnnaaGreat
open Go.RowKit

def strs (ts : List ByteArray) : List Value := ts.map .string
theorem strs_at {ts : List ByteArray} {i : Nat} {s : ByteArray} (h : ts[i]? = some s) : (strs ts)[i]? = some (.string s) := by
  simp [strs, h]

set_option maxHeartbeats 4000000 in
set_option maxRecDepth 100000 in
theorem rIs_calls (w : World) (v : Value) (ts : List ByteArray) (d a : Nat) (s : ByteArray) (R : RowV w v 1 ts.length (strs ts)) (hn : ts.length < 1000) (hd : ts[d]? = some s) (ha : a ≤ s.size) :
    Calls Tryz.prog 133 #[v, .agg #[.int .i64 d, .int .i64 a]] w fun o w' => o = .returned (.bool true) ∧ Gw w w' := by
  have hdl := (List.getElem?_eq_some_iff.1 hd).1
  obtain ⟨g, off, cap, rfl, hg, hc⟩ := R.some (by omega)
  have c1 := hc d _ (strs_at hd)
  have q1 : (d : Int) ≥ 0 := by omega
  have q2 : (d : Int) < (ts.length : Nat) := by omega
  have q3 : (a : Int) ≥ 0 := by omega
  have q4 : (a : Int) ≤ (s.size : Nat) := by omega
  generalize ts.length = n at *
  clear R hc hd
  go_enter Tryz.func133, Tryz.ntmps133
  go_wp2
  generalize hW : w.alloc _ = W
  have z0 : W.cell? ⟨w.heap.size, 0, none⟩ = some (.int .i64 d) := by subst hW; go_simp
  have z1 : W.cell? ⟨w.heap.size, 1, none⟩ = some (.int .i64 a) := by subst hW; go_simp
  have z2 : W.cell? ⟨g, off + d, none⟩ = some (.string s) := by subst hW; go_simp
  have hG : Gw w W := by subst hW; exact (Gw.refl w).alloc _
  clear hW c1
  refine wp_region_can (fun w' => ∀ x, w'.cell? x = W.cell? x) [(0, false), (1, false), (2, false), (3, false), (4, false), (5, false), (6, false), (7, false), (8, false), (9, false), (10, false), (11, false), (12, false), (13, false), (14, false), (15, false), (16, false), (17, false), (18, false), (19, false), (20, false), (21, false), (22, false), (23, false), (24, false), (25, false), (26, false)] (by kernel_rfl) (by kernel_rfl) (fun _ d _ _ _ h => by cases d <;> exact h) ?_ ?_
  · exact fun _ => rfl
  repeat ((with_reducible refine wpCan_isq ?_); first | (apply wpCan_read rfl (by rfl); (· intro w' hS; go_simp; with_reducible rfl); (· try simp only [Act.put, List.setIfInBounds_toArray, List.set_cons_zero, List.set_cons_succ]; with_reducible rfl)) | (apply wpCan_no rfl (by rfl); (· try simp only [Act.put, List.setIfInBounds_toArray, List.set_cons_zero, List.set_cons_succ]; with_reducible rfl)))
  refine wpCan_nil ?_
  go_wp2
  go_ret
  exact ⟨rfl, hG.drew⟩
end Go.Proofs.YtngfalbabgpnnaaGreat

namespace Go.Proofs.YtngfalbabgpnnaaGreat
open Go.RowKit

set_option maxHeartbeats 4000000 in
set_option maxRecDepth 100000 in
theorem rLessX_calls (w : World) (v : Value) (ts : List ByteArray) (d1 a1 d2 a2 : Nat) (s1 s2 : ByteArray) (R : RowV w v 1 ts.length (strs ts)) (hn : ts.length < 1000) (h1 : ts[d1]? = some s1) (h1a : a1 ≤ s1.size) (h2 : ts[d2]? = some s2) (h2a : a2 ≤ s2.size) (hs1 : s1.size < 1000000) (hs2 : s2.size < 1000000) :
    Calls Tryz.prog 100 #[v, .agg #[.int .i64 d1, .int .i64 a1], .agg #[.int .i64 d2, .int .i64 a2]] w fun o w' => o = .returned (.bool (lexLess (bl (s1.extract a1 s1.size)) (bl (s2.extract a2 s2.size)) (decide (d1 < d2)))) ∧ Gw w w' := by
  have hdl := (List.getElem?_eq_some_iff.1 h1).1
  have hdl2 := (List.getElem?_eq_some_iff.1 h2).1
  have H1 := fun w' (hb : Below w.heap.size w w') => rIs_calls w' v ts d1 a1 s1 (R.below hb) hn h1 h1a
  have H2 := fun w' (hb : Below w.heap.size w w') => rIs_calls w' v ts d2 a2 s2 (R.below hb) hn h2 h2a
  obtain ⟨g, off, cap, rfl, hg, hc⟩ := R.some (by omega)
  have c1 := hc d1 _ (strs_at h1)
  have c2 := hc d2 _ (strs_at h2)
  have q1 : (d1 : Int) < (ts.length : Nat) := by omega
  have q2 : (d2 : Int) < (ts.length : Nat) := by omega
  have q3 : (a1 : Int) ≤ (s1.size : Nat) := by omega
  have q4 : (a2 : Int) ≤ (s2.size : Nat) := by omega
  generalize ts.length = n0 at *
  have sz1 : (s1.extract a1 s1.size).size ≤ s1.size := by simp [ByteArray.size_extract]
  have sz2 : (s2.extract a2 s2.size).size ≤ s2.size := by simp [ByteArray.size_extract]
  generalize hsa : s1.extract a1 s1.size = sa at *
  generalize hsb : s2.extract a2 s2.size = sb at *
  have hRR := hid (rfl : lexLess (bl sa) (bl sb) (decide (d1 < d2)) = lexLess (bl sa) (bl sb) (decide (d1 < d2)))
  generalize hR0 : lexLess (bl sa) (bl sb) (decide (d1 < d2)) = R at hRR ⊢
  have hR0 := hid hR0
  clear hc h1 h2 hRR
  go_enter Tryz.func100, Tryz.ntmps100
  go_wp2
  refine wp_scope_fuel 0 (fun n a w' => ∃ i : Nat, (∃ u : Nat → Value, a = { tmps := #[.slice (some ⟨g, off, none⟩) n0 cap, u 1, u 2, u 3, .pointer (some ⟨w.heap.size, 0, none⟩), .pointer (some ⟨w.heap.size + 1, 0, none⟩), .bool false, .string sa, .string sb, .int .i64 i, u 10, u 11, u 12, u 13, u 14, u 15, u 16, u 17, u 18, u 19, u 20, u 21, u 22, u 23, u 24, u 25, u 26, u 27, u 28, u 29, u 30, u 31, u 32, u 33, u 34, u 35, u 36, u 37, u 38, u 39, u 40, u 41, u 42, u 43, u 44, u 45, u 46, u 47, u 48, u 49, u 50, u 51, u 52, u 53, u 54, u 55, u 56, u 57, u 58, u 59, u 60, u 61, u 62, u 63, u 64, u 65, u 66, u 67, u 68, u 69, u 70, u 71, u 72, u 73, u 74, u 75, u 76, u 77, u 78], defers := [] }) ∧ Gw w w' ∧ Hid (n = sa.size - i) ∧ i ≤ sa.size ∧ i ≤ sb.size ∧ w'.cell? ⟨w.heap.size, 0, none⟩ = some (.int .i64 d1) ∧ w'.cell? ⟨w.heap.size + 1, 0, none⟩ = some (.int .i64 d2) ∧ Hid (lexLess ((bl sa).drop i) ((bl sb).drop i) (decide (d1 < d2)) = R)) rfl ?_ ?_
  · rintro n a w1 ⟨i, ⟨u, rfl⟩, gw, hn, i1, i2, z0, z1, hR⟩
    clear H1 H2
    by_cases e1 : i = sa.size
    · by_cases e2 : i = sb.size
      · have fin := hid (show decide (d1 < d2) = R by
          have := hR.out
          rw [List.drop_of_length_le (by rw [bl_length]; omega), List.drop_of_length_le (by rw [bl_length]; omega)] at this
          simp only [lexLess] at this
          exact this)
        have qa : ((i : Int) == (sa.size : Nat)) = true := by simp [e1]
        have qb : ((i : Int) == (sb.size : Nat)) = true := by simp [e2]
        clear e1 e2
        go_wp2
        simp only [Exit.jump]
        go_ret
        exact ⟨by rw [← fin.out]; rfl, gw⟩
      · have fin := hid (show true = R by
          have := hR.out
          have hd : (bl sb).drop i = (bl sb)[i]'(by rw [bl_length]; omega) :: (bl sb).drop (i + 1) := List.drop_eq_getElem_cons _
          rw [List.drop_of_length_le (by rw [bl_length]; omega), hd] at this
          simpa only [lexLess] using this)
        have qa : ((i : Int) == (sa.size : Nat)) = true := by simp [e1]
        have qb : ((i : Int) == (sb.size : Nat)) = false := by simp; omega
        clear e1 e2
        go_wp2
        simp only [Exit.jump]
        go_ret
        exact ⟨by rw [← fin.out]; rfl, gw⟩
    · have qa : ((i : Int) == (sa.size : Nat)) = false := by simp; omega
      have hda : (bl sa).drop i = (bl sa)[i]'(by rw [bl_length]; omega) :: (bl sa).drop (i + 1) := List.drop_eq_getElem_cons _
      by_cases e2 : i = sb.size
      · have fin := hid (show false = R by
          have := hR.out
          rw [hda, List.drop_of_length_le (l := bl sb) (by rw [bl_length]; omega)] at this
          simpa only [lexLess] using this)
        have qb : ((i : Int) == (sb.size : Nat)) = true := by simp [e2]
        clear hda e1 e2
        go_wp2
        simp only [Exit.jump]
        go_ret
        exact ⟨by rw [← fin.out]; rfl, gw⟩
      · have qb : ((i : Int) == (sb.size : Nat)) = false := by simp; omega
        have qc : (i : Int) < (sa.size : Nat) := by omega
        have qd : (i : Int) < (sb.size : Nat) := by omega
        have p1 : i < sa.size := by omega
        have p2 : i < sb.size := by omega
        have hda : (bl sa).drop i = sa[i] :: (bl sa).drop (i + 1) := hda
        have hdb : (bl sb).drop i = sb[i] :: (bl sb).drop (i + 1) := List.drop_eq_getElem_cons (l := bl sb) (by rw [bl_length]; omega)
        have hR1 := hR.out
        rw [hda, hdb, lexLess] at hR1
        have wi : IntKind.i64.wrap ((i : Int) + 1) = (i : Int) + 1 := by rw [show (i : Int) + 1 = ((i + 1 : Nat) : Int) by omega]; exact i64_nat (by omega)
        by_cases e : sa[i] = sb[i]
        · rw [if_pos e] at hR1
          have hR2 := hid hR1
          have qe : (((sa[i]).toNat : Int) == ((sb[i]).toNat : Int)) = true := by rw [e]; simp
          have hn1 := hn
          clear hda hdb hR hR1 e hn
          go_wp2
          refine wp_region_can (fun w' => True) [(0, false), (1, false), (2, false), (3, false), (4, false), (5, false), (6, false), (7, false)] (by kernel_rfl) (by kernel_rfl) (fun _ d _ _ _ h => by cases d <;> exact h) ?_ ?_
          · trivial
          repeat ((with_reducible refine wpCan_isq ?_); first | (apply wpCan_read rfl (by rfl); (· intro w' hS; go_simp; with_reducible rfl); (· try simp only [Act.put, List.setIfInBounds_toArray, List.set_cons_zero, List.set_cons_succ]; with_reducible rfl)) | (apply wpCan_no rfl (by rfl); (· try simp only [Act.put, List.setIfInBounds_toArray, List.set_cons_zero, List.set_cons_succ]; with_reducible rfl)))
          refine wpCan_nil ?_
          go_wp2
          go_step3
          refine ⟨rfl, sa.size - (i + 1), by have := hn1.out; omega, i + 1, ?_, gw.drew, hid rfl, by omega, by omega, z0, z1, hR2⟩
          exact mk_u (a := Act.mk _ _) (by simp)
        · rw [if_neg e] at hR1
          have qe : (((sa[i]).toNat : Int) == ((sb[i]).toNat : Int)) = false := by
            have : (sa[i]).toNat ≠ (sb[i]).toNat := fun q => e (UInt8.toNat_inj.1 q)
            simp; omega
          have fin := hid (show decide ((sa[i]).toNat < (sb[i]).toNat) = R by rw [← hR1]; simp only [UInt8.lt_iff_toNat_lt])
          clear hda hdb hR hR1 e hn
          go_wp2
          refine wp_region_can (fun w' => True) [(0, false), (1, false), (2, false), (3, false), (4, false), (5, false), (6, false), (7, false)] (by kernel_rfl) (by kernel_rfl) (fun _ d _ _ _ h => by cases d <;> exact h) ?_ ?_
          · trivial
          repeat ((with_reducible refine wpCan_isq ?_); first | (apply wpCan_read rfl (by rfl); (· intro w' hS; go_simp; with_reducible rfl); (· try simp only [Act.put, List.setIfInBounds_toArray, List.set_cons_zero, List.set_cons_succ]; with_reducible rfl)) | (apply wpCan_no rfl (by rfl); (· try simp only [Act.put, List.setIfInBounds_toArray, List.set_cons_zero, List.set_cons_succ]; with_reducible rfl)))
          refine wpCan_nil ?_
          go_wp2
          refine wp_region_can (fun w' => True) [(0, false), (1, false), (2, false), (3, false), (4, false), (5, false), (6, false), (7, false)] (by kernel_rfl) (by kernel_rfl) (fun _ d _ _ _ h => by cases d <;> exact h) ?_ ?_
          · trivial
          repeat ((with_reducible refine wpCan_isq ?_); first | (apply wpCan_read rfl (by rfl); (· intro w' hS; go_simp; with_reducible rfl); (· try simp only [Act.put, List.setIfInBounds_toArray, List.set_cons_zero, List.set_cons_succ]; with_reducible rfl)) | (apply wpCan_no rfl (by rfl); (· try simp only [Act.put, List.setIfInBounds_toArray, List.set_cons_zero, List.set_cons_succ]; with_reducible rfl)))
          refine wpCan_nil ?_
          go_wp2
          simp only [Exit.jump]
          go_ret
          exact ⟨by rw [← fin.out]; rfl, gw.drew.drew⟩
  · intro hp
    go_wp2_with fail
    refine (H1 _ (by repeat (first | with_reducible exact Below.refl _ _ | with_reducible assumption | with_reducible refine bel_drewN ?_ | with_reducible refine bel_drew ?_ | with_reducible refine bel_alloc ?_ _ | with_reducible refine bel_set ?_ _ ?_ | with_reducible refine bel_trans ?_ (by with_reducible assumption) | ((try dsimp only); omega)))).mono ?_; rintro o1 w1 ⟨rfl, gw1⟩
    have hb1 := gw1.below; obtain ⟨hc1, hf1⟩ := bcell hb1
    have zz := hb1.size; (try simp only [World.size_alloc, World.size_drew, World.size_setCell] at zz); have : w.heap.size < w1.heap.size := (by omega); have : w.heap.size + 1 < w1.heap.size := (by omega); clear zz
    go_wp2_with fail
    refine (H2 _ (by repeat (first | with_reducible exact Below.refl _ _ | with_reducible assumption | with_reducible refine bel_drewN ?_ | with_reducible refine bel_drew ?_ | with_reducible refine bel_alloc ?_ _ | with_reducible refine bel_set ?_ _ ?_ | with_reducible refine bel_trans ?_ (by with_reducible assumption) | ((try dsimp only); omega)))).mono ?_; rintro o2 w2 ⟨rfl, gw2⟩
    have hb2 := gw2.below; obtain ⟨hc2, hf2⟩ := bcell hb2
    have zz := hb2.size; (try simp only [World.size_alloc, World.size_drew, World.size_setCell] at zz); clear zz
    have hg1 : g < w1.heap.size := by omega
    have hg2 : g < w.heap.size + 1 := by omega
    have hg3 : g < w.heap.size + 1 + 1 := by omega
    have z0 : w2.cell? ⟨w.heap.size, 0, none⟩ = some (.int .i64 d1) := by go_simp
    have z1 : w2.cell? ⟨w.heap.size, 1, none⟩ = some (.int .i64 a1) := by go_simp
    have z2 : w2.cell? ⟨w.heap.size + 1, 0, none⟩ = some (.int .i64 d2) := by go_simp
    have z3 : w2.cell? ⟨w.heap.size + 1, 1, none⟩ = some (.int .i64 a2) := by go_simp
    have z4 : w2.cell? ⟨g, off + d1, none⟩ = some (.string s1) := by go_simp
    have z5 : w2.cell? ⟨g, off + d2, none⟩ = some (.string s2) := by go_simp
    clear hc1 hf1 hc2 hf2 c1 c2
    go_wp2
    refine wp_region_can (fun w' => ∀ x, w'.cell? x = w2.cell? x) [(0, false), (1, false), (2, false), (3, false), (4, false), (5, false), (6, false), (7, false), (8, false), (9, false), (10, false), (11, false), (12, false), (13, false), (14, false), (15, false), (16, false), (17, false)] (by kernel_rfl) (by kernel_rfl) (fun _ d _ _ _ h => by cases d <;> exact h) ?_ ?_
    · exact fun _ => rfl
    repeat ((with_reducible refine wpCan_isq ?_); first | (apply wpCan_read rfl (by rfl); (· intro w' hS; go_simp; with_reducible rfl); (· try simp only [Act.put, List.setIfInBounds_toArray, List.set_cons_zero, List.set_cons_succ]; with_reducible rfl)) | (apply wpCan_no rfl (by rfl); (· try simp only [Act.put, List.setIfInBounds_toArray, List.set_cons_zero, List.set_cons_succ]; with_reducible rfl)))
    refine wpCan_nil ?_
    have G2 : Gw w w2 := ((((Gw.refl w).alloc _).alloc _).trans gw1).trans gw2
    go_wp2
    go_step3
    rename_i hK
    refine hK _ _ (hp sa.size _ _ ⟨0, mk_u (a := Act.mk _ _) (by simp), G2.drew, hid (by omega), by omega, by omega, z0, z2, ?_⟩)
    simpa using hR0
end Go.Proofs.YtngfalbabgpnnaaGreat

namespace Go.Proofs.YtngfalbabgpnnaaGreat
open Go.RowKit

theorem bl_extract (s : ByteArray) (a : Nat) (h : a ≤ s.size) : bl (s.extract a s.size) = (bl s).drop a := by
  unfold bl
  rw [ByteArray.data_extract, Array.toList_extract]
  simp only [List.extract_eq_take_drop]
  refine List.take_of_length_le ?_
  rw [List.length_drop]
  exact Nat.le_refl _

theorem rLess_calls (w : World) (v : Value) (ts : List ByteArray) (x y : Nat × Nat) (R : RowV w v 1 ts.length (strs ts)) (hn : ts.length < 1000) (hs : ∀ s ∈ ts, s.size < 1000000) (hx : rowOk ts x) (hy : rowOk ts y) :
    Calls Tryz.prog 100 #[v, .agg #[.int .i64 x.1, .int .i64 x.2], .agg #[.int .i64 y.1, .int .i64 y.2]] w fun o w' => o = .returned (.bool (rowLess ts x y)) ∧ Gw w w' := by
  obtain ⟨x1, x2⟩ := hx
  obtain ⟨y1, y2⟩ := hy
  have ex : ts[x.1]? = some (ts.getD x.1 ByteArray.empty) := by simp [List.getD, List.getElem?_eq_getElem x1]
  have ey : ts[y.1]? = some (ts.getD y.1 ByteArray.empty) := by simp [List.getD, List.getElem?_eq_getElem y1]
  have := rLessX_calls w v ts x.1 x.2 y.1 y.2 _ _ R hn ex x2 ey y2 (hs _ (List.mem_of_getElem? ex)) (hs _ (List.mem_of_getElem? ey))
  rw [bl_extract _ _ x2, bl_extract _ _ y2] at this
  exact this

set_option maxHeartbeats 1000000 in
/-- THE CLOSURE. -/
theorem rCmp_calls (w : World) (b : Nat) (v : Value) (ts : List ByteArray) (x y : Nat × Nat) (hb : w.cell? ⟨b, 0, none⟩ = some v) (hbl : b < w.heap.size) (R : RowV w v 1 ts.length (strs ts)) (hn : ts.length < 1000) (hs : ∀ s ∈ ts, s.size < 1000000) (hx : rowOk ts x) (hy : rowOk ts y) :
    Calls Tryz.prog 99 #[.agg #[.int .i64 x.1, .int .i64 x.2], .agg #[.int .i64 y.1, .int .i64 y.2], .pointer (some ⟨b, 0, none⟩)] w fun o w' => o = .returned (.int .i64 (if rowLess ts x y then -1 else 1)) ∧ Gw w w' := by
  have HL := fun w' (h : Below w.heap.size w w') => rLess_calls w' v ts x y (R.below h) hn hs hx hy
  obtain ⟨a, cap, rfl⟩ := R.shape
  clear R hx hy hs
  generalize rowLess ts x y = r at *
  have q1 : b < w.heap.size + 1 := by omega
  go_enter Tryz.func99, Tryz.ntmps99
  cases r with
  | true =>
    go_wp2_with fail
    refine (HL _ (by repeat (first | with_reducible exact Below.refl _ _ | with_reducible assumption | with_reducible refine bel_drewN ?_ | with_reducible refine bel_drew ?_ | with_reducible refine bel_alloc ?_ _ | with_reducible refine bel_set ?_ _ ?_ | with_reducible refine bel_trans ?_ (by with_reducible assumption) | ((try dsimp only); omega)))).mono ?_; rintro o w1 ⟨rfl, gw⟩
    go_wp2
    go_ret
    exact ⟨rfl, (((Gw.refl w).alloc _).alloc _).trans gw⟩
  | false =>
    go_wp2_with fail
    refine (HL _ (by repeat (first | with_reducible exact Below.refl _ _ | with_reducible assumption | with_reducible refine bel_drewN ?_ | with_reducible refine bel_drew ?_ | with_reducible refine bel_alloc ?_ _ | with_reducible refine bel_set ?_ _ ?_ | with_reducible refine bel_trans ?_ (by with_reducible assumption) | ((try dsimp only); omega)))).mono ?_; rintro o w1 ⟨rfl, gw⟩
    go_wp2
    go_ret
    exact ⟨rfl, (((Gw.refl w).alloc _).alloc _).trans gw⟩

set_option maxHeartbeats 1000000 in
theorem symText_calls (w : World) (s : ByteArray) (h : s.size ≤ 40) : Calls Tryz.prog 76 #[.string s] w fun o w' => o = .returned (.bool true) ∧ w' = w := by
  have q : ((s.size : Nat) : Int) ≤ 40 := by omega
  go_enter Tryz.func76, Tryz.ntmps76
  go_wp2
  go_ret
  exact ⟨rfl, rfl⟩
set_option maxHeartbeats 1000000 in
theorem rRight1_calls (w : World) (s : ByteArray) (h : s.size ≤ 40) : Calls Tryz.prog 102 #[.string s] w fun o w' => o = .returned (.bool false) ∧ w' = w := by
  have HT := symText_calls w s h
  go_enter Tryz.func102, Tryz.ntmps102
  go_wp2_with fail
  refine HT.mono ?_; rintro o w1 ⟨rfl, rfl⟩
  go_wp2
  go_ret
  exact ⟨rfl, rfl⟩

set_option maxHeartbeats 4000000 in
set_option maxRecDepth 100000 in
theorem rIndex_calls (w : World) (v : Value) (ts : List ByteArray) (R : RowV w v 1 ts.length (strs ts)) (hn : ts.length < 1000000) (hs : ∀ s ∈ ts, s.size ≤ 40) :
    Calls Tryz.prog 134 #[v, .func (.func 102) #[] #[]] w fun o w' => o = .returned (.int .i64 (-1)) ∧ w' = w := by
  by_cases h0 : ts.length = 0
  · obtain ⟨a, cap, rfl⟩ := R.shape
    rw [h0] at *
    clear R hs
    go_enter Tryz.func134, Tryz.ntmps134
    go_wp2
    go_loopw [8] (fun c wr => c = .int .i64 0 ∧ wr = w) (fun c _ => 0)
    case atStart => exact ⟨rfl, rfl⟩
    case round =>
      obtain ⟨rfl, rfl⟩ := hrel
      go_wp2
      go_ret
      exact ⟨rfl, rfl⟩
  · obtain ⟨g, off, cap, rfl, hg, hc⟩ := R.some h0
    have hs := hid hs
    have hc := hid hc
    clear R
    go_enter Tryz.func134, Tryz.ntmps134
    go_wp2
    go_loopw [8] (fun c wr => ∃ i : Nat, i ≤ ts.length ∧ c = .int .i64 i ∧ wr = w) (fun c _ => ts.length - (intOf c).toNat)
    case atStart => exact ⟨0, by omega, rfl, rfl⟩
    case round =>
      obtain ⟨i, hi, rfl, rfl⟩ := hrel
      by_cases hil : i = ts.length
      · subst hil
        go_wp2
        go_ret
        exact ⟨rfl, rfl⟩
      · have hlt : i < ts.length := by omega
        have hlt' : (i : Int) < (ts.length : Nat) := by omega
        obtain ⟨s, hsi⟩ : ∃ s, ts[i]? = some s := ⟨ts[i], List.getElem?_eq_getElem hlt⟩
        have z := hc.out i _ (strs_at hsi)
        have HR := rRight1_calls wr s (hs.out s (List.mem_of_getElem? hsi))
        have wi : IntKind.i64.wrap ((i : Int) + 1) = (i : Int) + 1 := by rw [show (i : Int) + 1 = ((i + 1 : Nat) : Int) by omega]; exact i64_nat (by omega)
        clear hsi
        go_wp2_with fail
        refine HR.mono ?_; rintro o w1 ⟨rfl, rfl⟩
        go_wp2
        go_roundw
        case rel => refine ⟨i + 1, by omega, by simp, ?_⟩; first | trivial | rfl
        case measure => simp [intOf]; omega
set_option maxHeartbeats 1000000 in
theorem rContains_calls (w : World) (v : Value) (ts : List ByteArray) (R : RowV w v 1 ts.length (strs ts)) (hn : ts.length < 1000000) (hs : ∀ s ∈ ts, s.size ≤ 40) :
    Calls Tryz.prog 101 #[v, .func (.func 102) #[] #[]] w fun o w' => o = .returned (.bool false) ∧ w' = w := by
  have HI := rIndex_calls w v ts R hn hs
  obtain ⟨a, cap, rfl⟩ := R.shape
  clear R hs
  go_enter Tryz.func101, Tryz.ntmps101
  go_wp2_with fail
  refine HI.mono ?_; rintro o w1 ⟨rfl, rfl⟩
  go_wp2
  go_ret
  exact ⟨rfl, rfl⟩
set_option maxHeartbeats 1000000 in
theorem rRight_calls (w : World) (v : Value) (ts : List ByteArray) (R : RowV w v 1 ts.length (strs ts)) (hn : ts.length ≤ 10) (hs : ∀ s ∈ ts, s.size ≤ 40) :
    Calls Tryz.prog 52 #[v] w fun o w' => o = .returned (.bool true) ∧ w' = w := by
  have HI := rContains_calls w v ts R (by omega) hs
  obtain ⟨a, cap, rfl⟩ := R.shape
  have q : ((ts.length : Nat) : Int) ≤ 10 := by omega
  clear R hs
  go_enter Tryz.func52, Tryz.ntmps52
  go_wp2_with fail
  refine HI.mono ?_; rintro o w1 ⟨rfl, rfl⟩
  go_wp2
  go_ret
  exact ⟨rfl, rfl⟩
end Go.Proofs.YtngfalbabgpnnaaGreat

namespace Go.Proofs.YtngfalbabgpnnaaGreat

def rowsFrom : Nat → List ByteArray → List (Nat × Nat)
  | _, [] => []
  | d, s :: r => ((List.range (s.size + 1)).map fun a => (d, a)) ++ rowsFrom (d + 1) r
def allRows (ts : List ByteArray) : List (Nat × Nat) := rowsFrom 0 ts
/-- A row is put ahead of the first that is not less. -/
def rput (ts : List ByteArray) (out : List (Nat × Nat)) (r : Nat × Nat) : List (Nat × Nat) :=
  out.takeWhile (fun x => rowLess ts x r) ++ r :: out.dropWhile (fun x => rowLess ts x r)
def rsort (ts : List ByteArray) : List (Nat × Nat) := (allRows ts).foldl (rput ts) []

theorem mem_rowsFrom {ts : List ByteArray} : ∀ {d : Nat} {r : Nat × Nat}, r ∈ rowsFrom d ts ↔ ∃ i s, ts[i]? = some s ∧ r.1 = d + i ∧ r.2 ≤ s.size := by
  induction ts with
  | nil => intro d r; simp [rowsFrom]
  | cons s q ih =>
    intro d r
    rw [rowsFrom, List.mem_append, ih]
    constructor
    · rintro (h | ⟨i, s', h1, h2, h3⟩)
      · obtain ⟨a, ha, rfl⟩ := List.mem_map.1 h
        have := List.mem_range.1 ha
        exact ⟨0, s, rfl, rfl, by (try dsimp only); omega⟩
      · exact ⟨i + 1, s', by simpa using h1, by omega, h3⟩
    · rintro ⟨i, s', h1, h2, h3⟩
      cases i with
      | zero =>
        simp at h1; subst h1
        exact Or.inl (List.mem_map.2 ⟨r.2, List.mem_range.2 (by omega), Prod.ext (by (try dsimp only); omega) rfl⟩)
      | succ i => exact Or.inr ⟨i, s', by simpa using h1, by omega, h3⟩
theorem rowOk_iff {ts : List ByteArray} {r : Nat × Nat} : r ∈ allRows ts ↔ rowOk ts r := by
  unfold allRows rowOk
  rw [mem_rowsFrom]
  constructor
  · rintro ⟨i, s, h1, h2, h3⟩
    have e : r.1 = i := by omega
    have := (List.getElem?_eq_some_iff.1 h1).1
    rw [e, List.getD_eq_getElem?_getD, h1]
    exact ⟨this, h3⟩
  · rintro ⟨h1, h2⟩
    exact ⟨r.1, ts.getD r.1 ByteArray.empty, by simp [List.getElem?_eq_getElem h1], by omega, h2⟩
theorem nodup_rowsFrom (ts : List ByteArray) : ∀ d, (rowsFrom d ts).Nodup := by
  induction ts with
  | nil => intro d; simp [rowsFrom]
  | cons s q ih =>
    intro d
    rw [rowsFrom, List.nodup_append]
    refine ⟨?_, ih _, ?_⟩
    · refine List.Pairwise.map _ (fun a b hab => ?_) List.nodup_range
      intro q; exact hab (Prod.mk.inj q).2
    · intro a ha b hb e
      obtain ⟨x, _, rfl⟩ := List.mem_map.1 ha
      obtain ⟨i, s', _, h2, _⟩ := mem_rowsFrom.1 hb
      subst e
      simp at h2; omega
theorem rput_perm (ts : List ByteArray) (out : List (Nat × Nat)) (r : Nat × Nat) : (rput ts out r).Perm (r :: out) := by
  unfold rput
  refine List.perm_middle.trans ?_
  rw [List.takeWhile_append_dropWhile]
theorem foldl_rput_perm (ts : List ByteArray) : ∀ (l out : List (Nat × Nat)), (l.foldl (rput ts) out).Perm (l ++ out)
  | [], out => List.Perm.refl _
  | r :: l, out => by
    rw [List.foldl_cons]
    refine (foldl_rput_perm ts l _).trans ?_
    refine ((rput_perm ts out r).append_left l).trans ?_
    exact List.perm_middle
theorem rsort_perm (ts : List ByteArray) : (rsort ts).Perm (allRows ts) := by
  have := foldl_rput_perm ts (allRows ts) []
  rwa [List.append_nil] at this
theorem mem_takeWhile_of {α : Type} {p : α → Bool} : ∀ {l : List α} {x : α}, x ∈ l.takeWhile p → p x = true
  | [], _, h => by simp at h
  | a :: r, x, h => by
    rw [List.takeWhile_cons] at h
    split at h
    · rcases List.mem_cons.1 h with rfl | h
      · assumption
      · exact mem_takeWhile_of h
    · simp at h
theorem rput_sorted {ts : List ByteArray} {out : List (Nat × Nat)} {r : Nat × Nat} (h : out.Pairwise fun a b => rowLess ts a b = true) (ho : ∀ x ∈ out, rowOk ts x) (hr : rowOk ts r) (hn : r ∉ out) : (rput ts out r).Pairwise fun a b => rowLess ts a b = true := by
  induction out with
  | nil => simp [rput]
  | cons a q ih =>
    have hp := List.pairwise_cons.1 h
    by_cases c : rowLess ts a r = true
    · have e : rput ts (a :: q) r = a :: rput ts q r := by simp [rput, c]
      rw [e, List.pairwise_cons]
      refine ⟨fun b hb => ?_, ih hp.2 (fun x hx => ho x (List.mem_cons_of_mem _ hx)) (fun q => hn (List.mem_cons_of_mem _ q))⟩
      rcases List.mem_cons.1 ((rput_perm ts q r).mem_iff.1 hb) with rfl | hb
      · exact c
      · exact hp.1 b hb
    · have c' : rowLess ts a r = false := by simpa using c
      have e : rput ts (a :: q) r = r :: a :: q := by simp [rput, c']
      have ra : rowLess ts r a = true := by
        rw [rowLess_total hr (ho a (by simp)) (fun q => hn (by simp [q])), c']; rfl
      rw [e, List.pairwise_cons]
      refine ⟨fun b hb => ?_, h⟩
      rcases List.mem_cons.1 hb with rfl | hb
      · exact ra
      · exact rowLess_trans ra (hp.1 b hb)
theorem foldl_rput_sorted (ts : List ByteArray) : ∀ (l out : List (Nat × Nat)), (l ++ out).Nodup → (∀ x ∈ l ++ out, rowOk ts x) → out.Pairwise (fun a b => rowLess ts a b = true) → (l.foldl (rput ts) out).Pairwise fun a b => rowLess ts a b = true
  | [], _, _, _, h => h
  | r :: l, out, nd, ho, h => by
    rw [List.foldl_cons]
    have hp : (l ++ rput ts out r).Perm (r :: l ++ out) := ((rput_perm ts out r).append_left l).trans List.perm_middle
    have hn : r ∉ out := fun q => (List.nodup_cons.1 nd).1 (List.mem_append_right _ q)
    refine foldl_rput_sorted ts l _ (hp.nodup_iff.2 nd) (fun x hx => ho x (hp.mem_iff.1 hx)) (rput_sorted h (fun x hx => ho x (by simp [hx])) (ho r (by simp)) hn)
theorem rsort_sorted (ts : List ByteArray) : (rsort ts).Pairwise fun a b => rowLess ts a b = true :=
  foldl_rput_sorted ts _ _ (by rw [List.append_nil]; exact nodup_rowsFrom ts 0) (fun x hx => rowOk_iff.1 (by simpa using hx)) List.Pairwise.nil
/-- There is just one rising row of all rows. -/
theorem rsort_unique {ts : List ByteArray} {l : List (Nat × Nat)} (hp : l.Perm (allRows ts)) (hs : l.Pairwise fun a b => rowLess ts b a = false) : l = rsort ts := by
  have nd : l.Nodup := hp.nodup_iff.2 (nodup_rowsFrom ts 0)
  have ok : ∀ x ∈ l, rowOk ts x := fun x hx => rowOk_iff.1 (hp.mem_iff.1 hx)
  have hs' : l.Pairwise fun a b => rowLess ts a b = true := by
    refine List.Pairwise.imp_of_mem ?_ (hs.and nd)
    intro a b ha hb hab
    rw [rowLess_total (ok a ha) (ok b hb) hab.2, hab.1]; rfl
  refine List.Perm.eq_of_pairwise (le := fun a b => rowLess ts a b = true) (fun a b _ _ h1 h2 => ?_) hs' (rsort_sorted ts) (hp.trans (rsort_perm ts).symm)
  have := rowLess_trans h1 h2
  rw [rowLess_irrefl] at this; cases this
theorem rsort_length (ts : List ByteArray) : (rsort ts).length = (allRows ts).length := (rsort_perm ts).length_eq
theorem length_rowsFrom (ts : List ByteArray) : ∀ d, (rowsFrom d ts).length = (ts.map fun s => s.size + 1).sum := by
  induction ts with
  | nil => intro d; rfl
  | cons s q ih => intro d; simp [rowsFrom, ih]
theorem rsort_ok {ts : List ByteArray} {r : Nat × Nat} (h : r ∈ rsort ts) : rowOk ts r := rowOk_iff.1 ((rsort_perm ts).mem_iff.1 h)

/-- The symbol ahead of a row. -/
def symAt (ts : List ByteArray) (r : Nat × Nat) : Nat := if r.2 = 0 then 0 else ((bl (ts.getD r.1 ByteArray.empty)).getD (r.2 - 1) 0).toNat + 1
def symsOf (ts : List ByteArray) : List Nat := (rsort ts).map (symAt ts)
theorem symAt_lt (ts : List ByteArray) (r : Nat × Nat) : symAt ts r < 257 := by
  unfold symAt
  split
  · omega
  · have := ((bl (ts.getD r.1 ByteArray.empty)).getD (r.2 - 1) 0).toNat_lt; omega
theorem symsOf_lt {ts : List ByteArray} {x : Nat} (h : x ∈ symsOf ts) : x < 257 := by
  obtain ⟨r, _, rfl⟩ := List.mem_map.1 h
  exact symAt_lt _ _
end Go.Proofs.YtngfalbabgpnnaaGreat
