/-
  tree.fork, all of it.
  The walk of tree.insert: a leaf.
  The walk of tree.insert: a leaf that is full.
  The walk of tree.insert: a fork.
  tree.insert, all of it; bits.Insert.
  The walk of bits.Insert.
  The walks of sym.Bit, wave.is, wave.kid.
-/
import Derived.Test.YtngfalbabgpnnaaGreatM2
import Derived.Test.YtngfalbabgpnnaaGreatM7
set_option linter.unusedVariables false
set_option linter.unusedSimpArgs false
namespace Go.Proofs.YtngfalbabgpnnaaGreat
open Go.RowKit St

theorem tfork_calls (w : World) (p tb : Nat) (S : St) (f : Int → Nat) (e x y : Int) (tx ty : BT) (H : Ar w p S) (T : TreeAt w p tb e) (he : e = 0 ∨ e = 2) (I : S.Inv (more x (more y f))) (sl : slack f 8)
    (hB : e = 0 → (S.bt x tx ∧ tx.fat) ∧ S.bt y ty ∧ ty.fat) (hl : tx.bits.length + ty.bits.length < 400000) :
    Calls Tryz.prog 125 #[.pointer (some ⟨tb, 0, none⟩), .int .i64 x, .int .i64 y] w fun o w' => ∃ S' r e', o = .returned (.int .i64 r) ∧ Ar w' p S' ∧ TreeAt w' p tb e' ∧ Fr [tb] p w w' ∧ ForkR S f tx ty e S' r e' := by
  rcases he with rfl | rfl
  · obtain ⟨⟨bx, fx⟩, by', fy⟩ := hB rfl
    by_cases h1 : ty.high + 1 < tx.high
    · cases tx with
      | leaf l => have := ty.high_pos; simp only [BT.high] at h1; omega
      | fork u v =>
        simp only [BT.bits, List.length_append] at hl
        by_cases h2 : v.high ≤ u.high
        · exact tfork_left1 w p tb S f x y u v ty H T I sl bx fx.1 fx.2 by' fy hl h1 h2
        · cases v with
          | leaf l => have := u.high_pos; simp only [BT.high] at h2; omega
          | fork b c => exact tfork_left2 w p tb S f x y u b c ty H T I sl bx fx.1 fx.2 by' fy hl h1 (by omega)
    · by_cases h2 : tx.high + 1 < ty.high
      · cases ty with
        | leaf l => have := tx.high_pos; simp only [BT.high] at h2; omega
        | fork u v =>
          simp only [BT.bits, List.length_append] at hl
          by_cases h3 : u.high ≤ v.high
          · exact tfork_right1 w p tb S f x y u v tx H T I sl bx fx by' fy.1 fy.2 hl h2 h3
          · cases u with
            | leaf l => have := v.high_pos; simp only [BT.high] at h3; omega
            | fork b c => exact tfork_right2 w p tb S f x y b c v tx H T I sl bx fx by' fy.1 fy.2 hl h2 (by omega)
      · exact tfork_even w p tb S f x y tx ty H T I bx fx by' fy hl (by omega) (by omega)
  · exact tfork_err w p tb S f x y tx ty H T I
end Go.Proofs.YtngfalbabgpnnaaGreat

namespace Go.Proofs.YtngfalbabgpnnaaGreat
open Go.RowKit St

/-- What insert leaves. -/
def InsR (S : St) (f : Int → Nat) (t : BT) (i : Nat) (b : Bool) (S' : St) (r e' : Int) : Prop :=
  Res S f 0 S' r e' (3 * t.leaves + 3) ∧ (e' = 0 → ∃ t', S'.bt r t' ∧ t'.ok ∧ (t.fat → t'.fat) ∧ t'.bits = ins t.bits i b ∧ t'.leaves ≤ t.leaves + 1)

set_option maxHeartbeats 4000000 in
set_option maxRecDepth 100000 in
theorem tinsert_zero (w : World) (p tb : Nat) (S : St) (f : Int → Nat) (b : Bool) (H : Ar w p S) (T : TreeAt w p tb 0) (I : S.Inv f) :
    Calls Tryz.prog 88 #[.pointer (some ⟨tb, 0, none⟩), .int .i64 0, .int .i64 0, .bool b] w fun o w' => ∃ S' r e', o = .returned (.int .i64 r) ∧ Ar w' p S' ∧ TreeAt w' p tb e' ∧ Fr [tb] p w w' ∧
      Res S f 0 S' r e' 1 ∧ (e' = 0 → S'.bt r (.leaf [b])) := by
  have hT := T
  have HG := fun w' (hb : Below w.heap.size w w') => row_zero w' p S (H.below hb)
  have HI := fun w' => lInsert_room w' [] 0 b (by simp) (by simp)
  have HL := fun w' (hb : Below w.heap.size w w') => tleaf_calls w' p tb S f 0 [b] (H.below hb) (hT.below H hb) (Or.inl rfl) I (by simp)
  unfold Nd.zero Nd.arr at HG
  unfold lfV at HI HL
  simp only [List.take_nil, List.drop_nil, List.nil_append, List.length_nil, List.length_cons] at HI HL
  generalize hbb : bitsOf [b] = bb at *
  obtain ⟨d0, d1, dz, dl, _⟩ := T
  go_enter Tryz.func88, Tryz.ntmps88
  go_wp2_with fail
  refine (HG _ (by repeat (first | with_reducible exact Below.refl _ _ | with_reducible assumption | with_reducible refine bel_drewN ?_ | with_reducible refine bel_drew ?_ | with_reducible refine bel_alloc ?_ _ | with_reducible refine bel_set ?_ _ ?_ | with_reducible refine bel_trans ?_ (by with_reducible assumption) | ((try dsimp only); omega)))).mono ?_; rintro e1 w1 ⟨rfl, hb1⟩; obtain ⟨hc1, hf1⟩ := bcell hb1
  go_wp2_with fail
  refine (HI _).mono ?_; rintro e2 w2 ⟨rfl, hb2⟩
  have hb3 : Below w.heap.size w w2 := bel_trans (bel_alloc hb1 _) hb2
  go_wp2_with fail
  refine (HL _ (by repeat (first | with_reducible exact Below.refl _ _ | with_reducible assumption | with_reducible refine bel_drewN ?_ | with_reducible refine bel_drew ?_ | with_reducible refine bel_alloc ?_ _ | with_reducible refine bel_set ?_ _ ?_ | with_reducible refine bel_trans ?_ (by with_reducible assumption) | ((try dsimp only); omega)))).mono ?_; rintro o w3 ⟨S', r, e', rfl, H3, T3, F3, R, G⟩
  go_wp2
  go_ret
  exact ⟨S', r, e', rfl, H3, T3, (Fr.of_below H (bel_alloc hb3 _)).trans F3, R, G⟩

set_option maxHeartbeats 4000000 in
set_option maxRecDepth 100000 in
theorem tinsert_room (w : World) (p tb : Nat) (S : St) (f : Int → Nat) (h : Int) (l : List Bool) (i : Nat) (b : Bool) (H : Ar w p S) (T : TreeAt w p tb 0) (I : S.Inv f) (B : S.bt h (.leaf l)) (hl : l.length < 64) (hi : i ≤ l.length) :
    Calls Tryz.prog 88 #[.pointer (some ⟨tb, 0, none⟩), .int .i64 h, .int .i64 i, .bool b] w fun o w' => ∃ S' r e', o = .returned (.int .i64 r) ∧ Ar w' p S' ∧ TreeAt w' p tb e' ∧ Fr [tb] p w w' ∧
      Res S f 0 S' r e' 1 ∧ (e' = 0 → S'.bt r (.leaf (ins l i b))) := by
  have hT := T
  have HG := fun w' (hb : Below w.heap.size w w') => row_leaf w' p S h l (H.below hb) B
  have HB := fun w' => bitsBits_calls w' l (by omega)
  have HI := fun w' => lInsert_room w' l i b hl hi
  have HL := fun w' (hb : Below w.heap.size w w') => tleaf_calls w' p tb S f 0 (ins l i b) (H.below hb) (hT.below H hb) (Or.inl rfl) I (by rw [ins_length]; omega)
  unfold leafNd Nd.arr at HG HB
  change ∀ w', Calls _ _ _ _ (fun e w'' => e = .returned (.tuple #[lfV (ins l i b), .bool true]) ∧ _) at HI
  unfold lfV at HB HI HL
  generalize hbb : bitsOf (ins l i b) = bb at *
  generalize hnn : ((ins l i b).length : Int) = nn at *
  generalize bitsOf l = c at *
  generalize l.length = n at *
  clear hnn hbb B I
  obtain ⟨d0, d1, dz, dl, _⟩ := T
  go_enter Tryz.func88, Tryz.ntmps88
  go_wp2_with fail
  refine (HG _ (by repeat (first | with_reducible exact Below.refl _ _ | with_reducible assumption | with_reducible refine bel_drewN ?_ | with_reducible refine bel_drew ?_ | with_reducible refine bel_alloc ?_ _ | with_reducible refine bel_set ?_ _ ?_ | with_reducible refine bel_trans ?_ (by with_reducible assumption) | ((try dsimp only); omega)))).mono ?_; rintro e1 w1 ⟨rfl, hb1⟩; obtain ⟨hc1, hf1⟩ := bcell hb1
  go_wp2_with fail
  refine (HB _).mono ?_; rintro e2 w2 ⟨rfl, hb2⟩
  have hb3 : Below w.heap.size w w2 := bel_trans (bel_alloc hb1 _) hb2
  go_wp2_with fail
  refine (HI _).mono ?_; rintro e2 w3 ⟨rfl, hb4⟩
  have hb5 : Below w.heap.size w w3 := bel_trans (bel_alloc hb3 _) hb4
  go_wp2_with fail
  refine (HL _ (by repeat (first | with_reducible exact Below.refl _ _ | with_reducible assumption | with_reducible refine bel_drewN ?_ | with_reducible refine bel_drew ?_ | with_reducible refine bel_alloc ?_ _ | with_reducible refine bel_set ?_ _ ?_ | with_reducible refine bel_trans ?_ (by with_reducible assumption) | ((try dsimp only); omega)))).mono ?_; rintro o w4 ⟨S', r, e', rfl, H3, T3, F3, R, G⟩
  go_wp2
  go_ret
  exact ⟨S', r, e', rfl, H3, T3, (Fr.of_below H (bel_alloc hb5 _)).trans F3, R, G⟩
end Go.Proofs.YtngfalbabgpnnaaGreat

namespace Go.Proofs.YtngfalbabgpnnaaGreat
open Go.RowKit St

set_option maxHeartbeats 4000000 in
set_option maxRecDepth 100000 in
theorem tinsert_lo (w : World) (p tb : Nat) (S : St) (f : Int → Nat) (h : Int) (l : List Bool) (i : Nat) (b : Bool) (H : Ar w p S) (T : TreeAt w p tb 0) (I : S.Inv f) (B : S.bt h (.leaf l)) (hl : l.length = 64) (hi : i ≤ 32) :
    Calls Tryz.prog 88 #[.pointer (some ⟨tb, 0, none⟩), .int .i64 h, .int .i64 i, .bool b] w fun o w' => ∃ S' r e', o = .returned (.int .i64 r) ∧ Ar w' p S' ∧ TreeAt w' p tb e' ∧ Fr [tb] p w w' ∧
      Res S f 0 S' r e' 3 ∧ (e' = 0 → S'.bt r (.fork (.leaf (ins (l.take 32) i b)) (.leaf (l.drop 32)))) := by
  have hT := T
  have e1 : (l.take 32).length = 32 := by simp; omega
  have e2 : (l.drop 32).length = 32 := by simp; omega
  have HG := fun w' (hb : Below w.heap.size w w') => row_leaf w' p S h l (H.below hb) B
  have HB := fun w' => bitsBits_calls w' l (by omega)
  have HI := fun w' => lInsert_full w' l i b hl (by omega)
  have HS := fun w' => lSplit_calls w' l 32 (by omega) (by omega)
  have HJ := fun w' => lInsert_room w' (l.take 32) i b (by omega) (by omega)
  have HA := fun w' (hb : Below w.heap.size w w') => tleaf_calls w' p tb S f 0 (ins (l.take 32) i b) (H.below hb) (hT.below H hb) (Or.inl rfl) I (by rw [ins_length]; omega)
  have HC := fun w' S' f' e' (H' : Ar w' p S') (T' : TreeAt w' p tb e') (he : e' = 0 ∨ e' = 2) (I' : S'.Inv f') => tleaf_calls w' p tb S' f' e' (l.drop 32) H' T' he I' (by omega)
  have e3 : (ins (l.take 32) i b).length = 33 := by rw [ins_length, e1]
  unfold leafNd Nd.arr at HG HB
  change ∀ w', Calls _ _ _ _ (fun e w'' => e = .returned (.tuple #[lfV (ins (l.take 32) i b), .bool true]) ∧ _) at HJ
  unfold lfV at HB HI HS HJ HA HC
  rw [hl] at HG HB HI HS
  rw [e1, e2] at HS
  rw [e1, e3] at HJ
  rw [e3] at HA
  rw [e2] at HC
  have hi' : (i : Int) ≤ 32 := by omega
  have oka : (BT.leaf (ins (l.take 32) i b)).ok := ⟨by omega, by omega⟩
  have okb : (BT.leaf (l.drop 32)).ok := ⟨by omega, by omega⟩
  have oka := hid oka
  have okb := hid okb
  have hlen := hid (show (BT.leaf (ins (l.take 32) i b)).bits.length + (BT.leaf (l.drop 32)).bits.length < 1000000 by simp only [BT.bits]; omega)
  generalize ins (l.take 32) i b = la at *
  generalize l.drop 32 = lb at *
  generalize l.take 32 = lc at *
  clear e1 e2 e3 B
  generalize hq1 : bitsOf la = ca at *
  generalize hq2 : bitsOf lb = cb at *
  generalize hq3 : bitsOf lc = cc at *
  generalize hq4 : bitsOf l = c at *
  clear hq1 hq2 hq3 hq4 hl
  obtain ⟨d0, d1, dz, dl, _⟩ := T
  go_enter Tryz.func88, Tryz.ntmps88
  go_wp2_with fail
  refine (HG _ (by repeat (first | with_reducible exact Below.refl _ _ | with_reducible assumption | with_reducible refine bel_drewN ?_ | with_reducible refine bel_drew ?_ | with_reducible refine bel_alloc ?_ _ | with_reducible refine bel_set ?_ _ ?_ | with_reducible refine bel_trans ?_ (by with_reducible assumption) | ((try dsimp only); omega)))).mono ?_; rintro o1 w1 ⟨rfl, hb1⟩; obtain ⟨hc1, hf1⟩ := bcell hb1
  go_wp2_with fail
  refine (HB _).mono ?_; rintro o2 w2 ⟨rfl, hb2⟩; obtain ⟨hc2, hf2⟩ := bcell hb2
  have hb3 : Below w.heap.size w w2 := bel_trans (bel_alloc hb1 _) hb2
  have zz := hb2.size; (try simp only [World.size_alloc, World.size_drew, World.size_setCell] at zz); have : w1.heap.size < w2.heap.size := (by omega); clear zz
  go_wp2_with fail
  refine (HI _).mono ?_; rintro o2 w3 ⟨rfl, hb4⟩; obtain ⟨hc4, hf4⟩ := bcell hb4
  have hb5 : Below w.heap.size w w3 := bel_trans (bel_alloc hb3 _) hb4
  have zz := hb4.size; (try simp only [World.size_alloc, World.size_drew, World.size_setCell] at zz); have : w2.heap.size < w3.heap.size := (by omega); clear zz
  go_wp2_with fail
  refine (HS _).mono ?_; rintro o2 w4 ⟨rfl, hb6⟩; obtain ⟨hc6, hf6⟩ := bcell hb6
  have hb7 : Below w.heap.size w w4 := bel_trans (bel_alloc hb5 _) hb6
  go_wp2_with fail
  generalize hW : (w4.alloc _).alloc _ = W
  have l0 : W.cell? ⟨w4.heap.size, 0, none⟩ = some (.int .u64 cc) := (by subst hW; go_simp); have l1 : W.cell? ⟨w4.heap.size, 1, none⟩ = some (.int .i64 32) := (by subst hW; go_simp)
  have m0 : W.cell? ⟨w4.heap.size + 1, 0, none⟩ = some (.int .u64 cb) := (by subst hW; go_simp); have m1 : W.cell? ⟨w4.heap.size + 1, 1, none⟩ = some (.int .i64 32) := (by subst hW; go_simp)
  have rl : ∀ i, W.frozen? ⟨w4.heap.size, i, none⟩ = false := fun i => by subst hW; go_simp
  have hsW : w4.heap.size + 1 < W.heap.size := by subst hW; simp
  have hbW : Below w.heap.size w W := by subst hW; exact (by repeat (first | with_reducible exact Below.refl _ _ | with_reducible assumption | with_reducible refine bel_drewN ?_ | with_reducible refine bel_drew ?_ | with_reducible refine bel_alloc ?_ _ | with_reducible refine bel_set ?_ _ ?_ | with_reducible refine bel_trans ?_ (by with_reducible assumption) | ((try dsimp only); omega)))
  clear hW hc1 hc2 hc4 hc6 hf1 hf2 hf4 hf6 hb1 hb2 hb3 hb4 hb5 hb6
  refine (HJ _).mono ?_; rintro o2 w5 ⟨rfl, hb8⟩
  have hb9 : Below w.heap.size w w5 := bel_trans hbW hb8
  have j0 : w5.cell? ⟨w4.heap.size, 0, none⟩ = some (.int .u64 cc) := ((bcell hb8).1 _ 0 (by omega)).trans l0
  have j1 : w5.cell? ⟨w4.heap.size, 1, none⟩ = some (.int .i64 32) := ((bcell hb8).1 _ 1 (by omega)).trans l1
  have k0 : w5.cell? ⟨w4.heap.size + 1, 0, none⟩ = some (.int .u64 cb) := ((bcell hb8).1 _ 0 hsW).trans m0
  have k1 : w5.cell? ⟨w4.heap.size + 1, 1, none⟩ = some (.int .i64 32) := ((bcell hb8).1 _ 1 hsW).trans m1
  have rj : ∀ i, w5.frozen? ⟨w4.heap.size, i, none⟩ = false := fun i => ((bcell hb8).2 _ i (by omega)).trans (rl i)
  have hs5 : w4.heap.size + 1 < w5.heap.size := Nat.lt_of_lt_of_le hsW hb8.size
  have hs7 := hb7.size
  clear l0 l1 m0 m1 rl hb8 hsW hbW
  go_wp2_with fail
  generalize hU : World.setCell _ _ _ = U
  have u0 : U.cell? ⟨w4.heap.size, 0, none⟩ = some (.int .u64 ca) := by subst hU; go_simp
  have n0 : U.cell? ⟨w4.heap.size + 1, 0, none⟩ = some (.int .u64 cb) := by subst hU; go_simp
  have n1 : U.cell? ⟨w4.heap.size + 1, 1, none⟩ = some (.int .i64 32) := by subst hU; go_simp
  have hbU : Below w.heap.size w U := by subst hU; exact bel_set (bel_set hb9 _ hs7) _ hs7
  have hsU : w4.heap.size + 1 < U.heap.size := by subst hU; simpa using hs5
  have LU : Loc p U (w4.heap.size + 1) := ⟨hsU, fun hf => by have := H.foot_lt _ ((Foot.congr (hbU.block p H.lt)).1 hf); omega⟩
  clear hU u0 j0 j1 k0 k1 rj hs5 hb9
  refine (HA _ hbU).mono ?_; rintro o w6 ⟨S1, r1, e1, rfl, H6, T6, F6, R1, G1⟩
  have LU6 := F6.loc LU (by simp; have := hT.loc.1; omega)
  have o0 := (World.cell?_of_block (a := ⟨w4.heap.size + 1, 0, none⟩) LU6.2).trans n0
  have o1 := (World.cell?_of_block (a := ⟨w4.heap.size + 1, 1, none⟩) LU6.2).trans n1
  go_wp2_with fail
  refine (HC _ _ _ _ H6 T6 R1.e2 R1.inv).mono ?_; rintro o w7 ⟨S2, r2, e2, rfl, H7, T7, F7, R2, G2⟩
  have I2 : S2.Inv (more r1 (more r2 f)) := by have := R2.inv; rw [more_comm r2 r1] at this; exact this
  have e12 : e2 = 0 → e1 = 0 := fun q => by rcases R1.e2 with h | h; exact h; exact absurd q (R2.err (by omega))
  have B1 : e2 = 0 → S2.bt r1 (.leaf la) := fun q => bt_root R2.grow I2 (held1 I2 (bt_ne R1.inv (G1 (e12 q)))) (G1 (e12 q))
  go_wp2_with fail
  refine (tpairOr_calls w7 p tb S2 f e2 r1 r2 (.leaf la) (.leaf lb) H7 T7 R2.e2 I2 (fun q => ⟨⟨B1 q, oka.out⟩, G2 q, okb.out⟩) hlen.out).mono ?_
  rintro o w8 ⟨S3, r, e', rfl, H8, T8, F8, R3, G3⟩
  go_wp2
  go_ret
  exact ⟨S3, r, e', rfl, H8, T8, (((Fr.of_below H hbU).trans F6).trans F7).trans F8, resTwo (Grow.refl S) rfl (resTwo (Grow.refl S) rfl R1 R2) R3, G3⟩
set_option maxHeartbeats 4000000 in
set_option maxRecDepth 100000 in
theorem tinsert_hi (w : World) (p tb : Nat) (S : St) (f : Int → Nat) (h : Int) (l : List Bool) (i : Nat) (b : Bool) (H : Ar w p S) (T : TreeAt w p tb 0) (I : S.Inv f) (B : S.bt h (.leaf l)) (hl : l.length = 64) (hi : 32 < i) (hi2 : i ≤ 64) :
    Calls Tryz.prog 88 #[.pointer (some ⟨tb, 0, none⟩), .int .i64 h, .int .i64 i, .bool b] w fun o w' => ∃ S' r e', o = .returned (.int .i64 r) ∧ Ar w' p S' ∧ TreeAt w' p tb e' ∧ Fr [tb] p w w' ∧
      Res S f 0 S' r e' 3 ∧ (e' = 0 → S'.bt r (.fork (.leaf (l.take 32)) (.leaf (ins (l.drop 32) (i - 32) b)))) := by
  have hT := T
  have e1 : (l.take 32).length = 32 := by simp; omega
  have e2 : (l.drop 32).length = 32 := by simp; omega
  have HG := fun w' (hb : Below w.heap.size w w') => row_leaf w' p S h l (H.below hb) B
  have HB := fun w' => bitsBits_calls w' l (by omega)
  have HI := fun w' => lInsert_full w' l i b hl (by omega)
  have HS := fun w' => lSplit_calls w' l 32 (by omega) (by omega)
  have HJ := fun w' => lInsert_room w' (l.drop 32) (i - 32) b (by omega) (by omega)
  have HA := fun w' (hb : Below w.heap.size w w') => tleaf_calls w' p tb S f 0 (l.take 32) (H.below hb) (hT.below H hb) (Or.inl rfl) I (by omega)
  have HC := fun w' S' f' e' (H' : Ar w' p S') (T' : TreeAt w' p tb e') (he : e' = 0 ∨ e' = 2) (I' : S'.Inv f') => tleaf_calls w' p tb S' f' e' (ins (l.drop 32) (i - 32) b) H' T' he I' (by rw [ins_length]; omega)
  have e3 : (ins (l.drop 32) (i - 32) b).length = 33 := by rw [ins_length, e2]
  unfold leafNd Nd.arr at HG HB
  change ∀ w', Calls _ _ _ _ (fun e w'' => e = .returned (.tuple #[lfV (ins (l.drop 32) (i - 32) b), .bool true]) ∧ _) at HJ
  unfold lfV at HB HI HS HJ HA HC
  rw [hl] at HG HB HI HS
  rw [e1, e2] at HS
  rw [e2, e3] at HJ
  rw [e1] at HA
  rw [e3] at HC
  have hi' : ¬ (i : Int) ≤ 32 := by omega
  have hi'' : (32 : Int) < (i : Int) := by omega
  have esub : (i : Int) - 32 = ((i - 32 : Nat) : Int) := by omega
  have hi3 : i - 32 ≤ 32 := by omega
  have oka : (BT.leaf (l.take 32)).ok := ⟨by omega, by omega⟩
  have okb : (BT.leaf (ins (l.drop 32) (i - 32) b)).ok := ⟨by omega, by omega⟩
  have oka := hid oka
  have okb := hid okb
  have hlen := hid (show (BT.leaf (l.take 32)).bits.length + (BT.leaf (ins (l.drop 32) (i - 32) b)).bits.length < 1000000 by simp only [BT.bits]; omega)
  generalize ins (l.drop 32) (i - 32) b = lb at *
  generalize l.drop 32 = lc at *
  generalize l.take 32 = la at *
  generalize i - 32 = i2 at *
  clear e1 e2 e3 B
  generalize hq1 : bitsOf la = ca at *
  generalize hq2 : bitsOf lb = cb at *
  generalize hq3 : bitsOf lc = cc at *
  generalize hq4 : bitsOf l = c at *
  clear hq1 hq2 hq3 hq4 hl
  obtain ⟨d0, d1, dz, dl, _⟩ := T
  go_enter Tryz.func88, Tryz.ntmps88
  go_wp2_with fail
  refine (HG _ (by repeat (first | with_reducible exact Below.refl _ _ | with_reducible assumption | with_reducible refine bel_drewN ?_ | with_reducible refine bel_drew ?_ | with_reducible refine bel_alloc ?_ _ | with_reducible refine bel_set ?_ _ ?_ | with_reducible refine bel_trans ?_ (by with_reducible assumption) | ((try dsimp only); omega)))).mono ?_; rintro o1 w1 ⟨rfl, hb1⟩; obtain ⟨hc1, hf1⟩ := bcell hb1
  go_wp2_with fail
  refine (HB _).mono ?_; rintro o2 w2 ⟨rfl, hb2⟩; obtain ⟨hc2, hf2⟩ := bcell hb2
  have hb3 : Below w.heap.size w w2 := bel_trans (bel_alloc hb1 _) hb2
  have zz := hb2.size; (try simp only [World.size_alloc, World.size_drew, World.size_setCell] at zz); have : w1.heap.size < w2.heap.size := (by omega); clear zz
  go_wp2_with fail
  refine (HI _).mono ?_; rintro o2 w3 ⟨rfl, hb4⟩; obtain ⟨hc4, hf4⟩ := bcell hb4
  have hb5 : Below w.heap.size w w3 := bel_trans (bel_alloc hb3 _) hb4
  have zz := hb4.size; (try simp only [World.size_alloc, World.size_drew, World.size_setCell] at zz); have : w2.heap.size < w3.heap.size := (by omega); clear zz
  go_wp2_with fail
  refine (HS _).mono ?_; rintro o2 w4 ⟨rfl, hb6⟩; obtain ⟨hc6, hf6⟩ := bcell hb6
  have hb7 : Below w.heap.size w w4 := bel_trans (bel_alloc hb5 _) hb6
  go_wp2_with fail
  generalize hW : (w4.alloc _).alloc _ = W
  have l0 : W.cell? ⟨w4.heap.size, 0, none⟩ = some (.int .u64 ca) := (by subst hW; go_simp); have l1 : W.cell? ⟨w4.heap.size, 1, none⟩ = some (.int .i64 32) := (by subst hW; go_simp)
  have m0 : W.cell? ⟨w4.heap.size + 1, 0, none⟩ = some (.int .u64 cc) := (by subst hW; go_simp); have m1 : W.cell? ⟨w4.heap.size + 1, 1, none⟩ = some (.int .i64 32) := (by subst hW; go_simp)
  have rl : ∀ i, W.frozen? ⟨w4.heap.size + 1, i, none⟩ = false := fun i => by subst hW; go_simp
  have hsW : w4.heap.size + 1 < W.heap.size := by subst hW; simp
  have hbW : Below w.heap.size w W := by subst hW; exact (by repeat (first | with_reducible exact Below.refl _ _ | with_reducible assumption | with_reducible refine bel_drewN ?_ | with_reducible refine bel_drew ?_ | with_reducible refine bel_alloc ?_ _ | with_reducible refine bel_set ?_ _ ?_ | with_reducible refine bel_trans ?_ (by with_reducible assumption) | ((try dsimp only); omega)))
  clear hW hc1 hc2 hc4 hc6 hf1 hf2 hf4 hf6 hb1 hb2 hb3 hb4 hb5 hb6
  refine (HJ _).mono ?_; rintro o2 w5 ⟨rfl, hb8⟩
  have hb9 : Below w.heap.size w w5 := bel_trans hbW hb8
  have j0 : w5.cell? ⟨w4.heap.size, 0, none⟩ = some (.int .u64 ca) := ((bcell hb8).1 _ 0 (by omega)).trans l0
  have j1 : w5.cell? ⟨w4.heap.size, 1, none⟩ = some (.int .i64 32) := ((bcell hb8).1 _ 1 (by omega)).trans l1
  have k0 : w5.cell? ⟨w4.heap.size + 1, 0, none⟩ = some (.int .u64 cc) := ((bcell hb8).1 _ 0 hsW).trans m0
  have k1 : w5.cell? ⟨w4.heap.size + 1, 1, none⟩ = some (.int .i64 32) := ((bcell hb8).1 _ 1 hsW).trans m1
  have rj : ∀ i, w5.frozen? ⟨w4.heap.size + 1, i, none⟩ = false := fun i => ((bcell hb8).2 _ i hsW).trans (rl i)
  have hs5 : w4.heap.size + 1 < w5.heap.size := Nat.lt_of_lt_of_le hsW hb8.size
  have hs7 := hb7.size
  clear l0 l1 m0 m1 rl hb8 hsW hbW
  go_wp2_with fail
  generalize hU : World.setCell _ _ _ = U
  have u0 : U.cell? ⟨w4.heap.size, 0, none⟩ = some (.int .u64 ca) := by subst hU; go_simp
  have n0 : U.cell? ⟨w4.heap.size + 1, 0, none⟩ = some (.int .u64 cb) := by subst hU; go_simp
  have n1 : U.cell? ⟨w4.heap.size + 1, 1, none⟩ = some (.int .i64 33) := by subst hU; go_simp
  have hbU : Below w.heap.size w U := by subst hU; exact bel_set (bel_set hb9 _ (Nat.le_succ_of_le hs7)) _ (Nat.le_succ_of_le hs7)
  have hsU : w4.heap.size + 1 < U.heap.size := by subst hU; simpa using hs5
  have LU : Loc p U (w4.heap.size + 1) := ⟨hsU, fun hf => by have := H.foot_lt _ ((Foot.congr (hbU.block p H.lt)).1 hf); omega⟩
  clear hU u0 j0 j1 k0 k1 rj hs5 hb9
  refine (HA _ hbU).mono ?_; rintro o w6 ⟨S1, r1, e1, rfl, H6, T6, F6, R1, G1⟩
  have LU6 := F6.loc LU (by simp; have := hT.loc.1; omega)
  have o0 := (World.cell?_of_block (a := ⟨w4.heap.size + 1, 0, none⟩) LU6.2).trans n0
  have o1 := (World.cell?_of_block (a := ⟨w4.heap.size + 1, 1, none⟩) LU6.2).trans n1
  go_wp2_with fail
  refine (HC _ _ _ _ H6 T6 R1.e2 R1.inv).mono ?_; rintro o w7 ⟨S2, r2, e2, rfl, H7, T7, F7, R2, G2⟩
  have I2 : S2.Inv (more r1 (more r2 f)) := by have := R2.inv; rw [more_comm r2 r1] at this; exact this
  have e12 : e2 = 0 → e1 = 0 := fun q => by rcases R1.e2 with h | h; exact h; exact absurd q (R2.err (by omega))
  have B1 : e2 = 0 → S2.bt r1 (.leaf la) := fun q => bt_root R2.grow I2 (held1 I2 (bt_ne R1.inv (G1 (e12 q)))) (G1 (e12 q))
  go_wp2_with fail
  refine (tpairOr_calls w7 p tb S2 f e2 r1 r2 (.leaf la) (.leaf lb) H7 T7 R2.e2 I2 (fun q => ⟨⟨B1 q, oka.out⟩, G2 q, okb.out⟩) hlen.out).mono ?_
  rintro o w8 ⟨S3, r, e', rfl, H8, T8, F8, R3, G3⟩
  go_wp2
  go_ret
  exact ⟨S3, r, e', rfl, H8, T8, (((Fr.of_below H hbU).trans F6).trans F7).trans F8, resTwo (Grow.refl S) rfl (resTwo (Grow.refl S) rfl R1 R2) R3, G3⟩
end Go.Proofs.YtngfalbabgpnnaaGreat

namespace Go.Proofs.YtngfalbabgpnnaaGreat
open Go.RowKit St

set_option maxHeartbeats 4000000 in
set_option maxRecDepth 100000 in
theorem tinsert_right (w : World) (p tb : Nat) (S : St) (f : Int → Nat) (h : Int) (x y : BT) (i : Nat) (b : Bool) (H : Ar w p S) (T : TreeAt w p tb 0) (I : S.Inv f) (sl : slack f (2 * (x.leaves + y.leaves) + 8)) (B : S.bt h (.fork x y)) (fx : x.fat) (fy : y.fat)
    (hl : x.bits.length + y.bits.length < 300000) (hlow : x.bits.length < i) (hi : i ≤ x.bits.length + y.bits.length)
    (hY : ∀ (hy : Int) w' S' f' (_ : Ar w' p S') (_ : TreeAt w' p tb 0) (_ : S'.Inv f') (_ : slack f' (2 * y.leaves + 8)) (_ : S'.bt hy y),
      Calls Tryz.prog 88 #[.pointer (some ⟨tb, 0, none⟩), .int .i64 hy, .int .i64 ((i - x.bits.length : Nat) : Int), .bool b] w' fun o w'' => ∃ S'' r e', o = .returned (.int .i64 r) ∧ Ar w'' p S'' ∧ TreeAt w'' p tb e' ∧ Fr [tb] p w' w'' ∧ InsR S' f' y (i - x.bits.length) b S'' r e') :
    Calls Tryz.prog 88 #[.pointer (some ⟨tb, 0, none⟩), .int .i64 h, .int .i64 i, .bool b] w fun o w' => ∃ S' r e', o = .returned (.int .i64 r) ∧ Ar w' p S' ∧ TreeAt w' p tb e' ∧ Fr [tb] p w w' ∧ InsR S f (.fork x y) i b S' r e' := by
  have hT := T
  obtain ⟨hx, hy, E, bx, by'⟩ := B.2
  have HG := fun w' (hb : Below w.heap.size w w') => row_fork w' p S h hx hy x y _ _ (H.below hb) B E
  have HL := fun w' (hb : Below w.heap.size w w') => Len_calls w' p S hx x.bits (H.below hb) (brFat bx fx) (by omega)
  have px := x.leaves_pos
  have py := y.leaves_pos
  have hx0 := bt_ne I bx
  have i1 := (I.keep bx.live (by have := sl hx; omega)).1
  have g1 := Grow.keep S hx
  have u1 : (S.keep hx).usedN = S.usedN := Inv.usedN_congr (keep_n _ _) (keep_used _ _)
  have by1 := bt_root g1 i1 (i1.kid_pos (g := h) (by rw [keep_used]; exact B.1.1) (bt_ne I by') (by rw [keep_node, E]; exact kc_pos.2 (by simp [forkNd]))) by'
  have bx1 := bt_root g1 i1 (held1 i1 hx0) bx
  have HI := fun w' (H' : Ar w' p (S.keep hx)) (T' : TreeAt w' p tb 0) => hY hy w' (S.keep hx) (more hx f) H' T' i1 ((sl.le (m := 2 * y.leaves + 9) (by omega)).more hx) by1
  have bx1 := hid bx1
  have hx1 := hid i1
  have e1 : (i : Int) - (x.bits.length : Nat) = ((i - x.bits.length : Nat) : Int) := by omega
  have e3 : (i : Int) > (x.bits.length : Nat) := by omega
  have wi : IntKind.i64.wrap ((i - x.bits.length : Nat) : Int) = ((i - x.bits.length : Nat) : Int) := i64_nat (by omega)
  have hi2 : i < 1000000 := by omega
  have hit := hid (show ins (x.bits ++ y.bits) i b = x.bits ++ ins y.bits (i - x.bits.length) b by
    simp only [ins, List.take_append, List.drop_append]
    rw [List.take_of_length_le (by omega), List.drop_of_length_le (by omega)]; simp)
  have hl2 := hid hl
  unfold forkNd Nd.arr at HG
  clear E B bx by' by1 i1 hY
  generalize hlx : x.bits.length = lx at *
  have hlx := hid hlx
  generalize hii : i - lx = i' at *
  have hii := hid hii
  generalize hnn : lx + y.bits.length = n at *
  have hnn := hid hnn
  generalize x.bits.count true + y.bits.count true = oo at *
  obtain ⟨d0, d1, dz, dl, _⟩ := T
  go_enter Tryz.func88, Tryz.ntmps88
  go_wp2_with fail
  refine (HG _ (by repeat (first | with_reducible exact Below.refl _ _ | with_reducible assumption | with_reducible refine bel_drewN ?_ | with_reducible refine bel_drew ?_ | with_reducible refine bel_alloc ?_ _ | with_reducible refine bel_set ?_ _ ?_ | with_reducible refine bel_trans ?_ (by with_reducible assumption) | ((try dsimp only); omega)))).mono ?_; rintro o1 w1 ⟨rfl, hb1⟩; obtain ⟨hc1, hf1⟩ := bcell hb1
  go_wp2
  generalize hW : w1.alloc _ = W
  have l0 : W.cell? ⟨w1.heap.size, 0, none⟩ = some (.int .i64 2) := (by subst hW; go_simp); have l1 : W.cell? ⟨w1.heap.size, 1, none⟩ = some (.int .i64 hx) := (by subst hW; go_simp); have l2 : W.cell? ⟨w1.heap.size, 2, none⟩ = some (.int .i64 hy) := (by subst hW; go_simp); have l3 : W.cell? ⟨w1.heap.size, 3, none⟩ = some (.int .i64 0) := (by subst hW; go_simp); have l4 : W.cell? ⟨w1.heap.size, 4, none⟩ = some (.int .i64 0) := (by subst hW; go_simp); have l5 : W.cell? ⟨w1.heap.size, 5, none⟩ = some (.int .u64 n) := (by subst hW; go_simp); have l6 : W.cell? ⟨w1.heap.size, 6, none⟩ = some (.int .u64 oo) := (by subst hW; go_simp)
  have hbW : Below w.heap.size w W := by subst hW; exact (by repeat (first | with_reducible exact Below.refl _ _ | with_reducible assumption | with_reducible refine bel_drewN ?_ | with_reducible refine bel_drew ?_ | with_reducible refine bel_alloc ?_ _ | with_reducible refine bel_set ?_ _ ?_ | with_reducible refine bel_trans ?_ (by with_reducible assumption) | ((try dsimp only); omega)))
  have hsW : w1.heap.size < W.heap.size := by subst hW; simp
  have LW : Loc p W w1.heap.size := by subst hW; exact Loc.new (H.below hb1) _
  have ntb : w1.heap.size ≠ tb := fun q => by have := dl; have := hb1.size; omega
  have c0W := (hT.below H hbW).c0
  clear hW hc1 hf1
  refine wp_region_can (fun w' => w'.cell? ⟨tb, 0, none⟩ = some (.pointer (some ⟨p, 0, none⟩)) ∧ ∀ o, w'.cell? ⟨w1.heap.size, o, none⟩ = W.cell? ⟨w1.heap.size, o, none⟩) [(0, false), (1, false), (2, false), (3, false), (4, false), (5, false), (6, false), (7, true), (8, false)] (by kernel_rfl) (by kernel_rfl) (fun _ d _ _ _ h => by cases d <;> exact h) ?_ ?_
  · exact ⟨c0W, fun _ => rfl⟩
  repeat ((with_reducible refine wpCan_isq ?_); first | (apply wpCan_read rfl (by rfl); (· intro w' hS; go_simp; with_reducible rfl); (· try simp only [Act.put, List.setIfInBounds_toArray, List.set_cons_zero, List.set_cons_succ]; with_reducible rfl)) | (apply wpCan_no rfl (by rfl); (· try simp only [Act.put, List.setIfInBounds_toArray, List.set_cons_zero, List.set_cons_succ]; with_reducible rfl)))
  (with_reducible refine wpCan_isl ?_); apply wpCan_call (HL _ (bel_drew hbW)) rfl (by rfl); (· go_simp); rintro o a1 ⟨rfl, ha1⟩; apply wpCan_told; (· exact ⟨(hT.below H (bel_trans (bel_drew hbW) ha1)).c0, fun o => ha1.cell hsW⟩); (· try simp only [Act.put, List.setIfInBounds_toArray, List.set_cons_zero, List.set_cons_succ]; with_reducible rfl)
  repeat ((with_reducible refine wpCan_isq ?_); first | (apply wpCan_read rfl (by rfl); (· intro w' hS; go_simp; with_reducible rfl); (· try simp only [Act.put, List.setIfInBounds_toArray, List.set_cons_zero, List.set_cons_succ]; with_reducible rfl)) | (apply wpCan_no rfl (by rfl); (· try simp only [Act.put, List.setIfInBounds_toArray, List.set_cons_zero, List.set_cons_succ]; with_reducible rfl)))
  refine wpCan_nil ?_
  have Ha : Below w.heap.size w a1 := bel_trans (bel_drew hbW) ha1
  have ec : ∀ o, a1.cell? ⟨w1.heap.size, o, none⟩ = W.cell? ⟨w1.heap.size, o, none⟩ := fun o => ha1.cell hsW
  have k0 := (ec 0).trans l0
  have k1 := (ec 1).trans l1
  have k2 := (ec 2).trans l2
  have LA : Loc p a1 w1.heap.size := LW.drew.below (H.below (bel_drew hbW)) ha1
  clear ec l0 l1 l2 l3 l4 l5 l6 c0W LW hsW
  go_wp2
  refine wp_region_can (fun w' => ∀ o, w'.cell? ⟨w1.heap.size, o, none⟩ = a1.cell? ⟨w1.heap.size, o, none⟩) [(0, false), (1, false), (2, false), (3, false), (4, false), (6, false), (7, false), (8, false), (9, false), (10, false), (11, false), (12, false), (13, false), (5, true), (14, true), (15, true), (16, false)] (by kernel_rfl) (by kernel_rfl) (fun _ d _ _ _ h => by cases d <;> exact h) ?_ ?_
  · exact fun _ => rfl
  repeat ((with_reducible refine wpCan_isq ?_); first | (apply wpCan_read rfl (by rfl); (· intro w' hS; go_simp; with_reducible rfl); (· try simp only [Act.put, List.setIfInBounds_toArray, List.set_cons_zero, List.set_cons_succ]; with_reducible rfl)) | (apply wpCan_no rfl (by rfl); (· try simp only [Act.put, List.setIfInBounds_toArray, List.set_cons_zero, List.set_cons_succ]; with_reducible rfl)))
  have HA := (H.below Ha).drew
  have TA := hT.below H (bel_drew Ha)
  (with_reducible refine wpCan_isl ?_); apply wpCan_call (tkeep_calls _ p tb S 0 hx HA TA) rfl (by rfl); (· go_simp); rintro o w2 ⟨rfl, H2, F2⟩; apply wpCan_told; (· exact fun o => World.cell?_of_block (a := ⟨w1.heap.size, o, none⟩) (F2.loc LA.drew (by simp)).2); (· try simp only [Act.put, List.setIfInBounds_toArray, List.set_cons_zero, List.set_cons_succ]; with_reducible rfl)
  have T2 := TA.fr F2
  have L2 := F2.loc LA.drew (by simp)
  (with_reducible refine wpCan_isl ?_); apply wpCan_call (HI _ H2 T2) rfl (by rfl); (· go_simp); rintro o w3 ⟨S2, r, e1, rfl, H3, T3, F3, R, G⟩; apply wpCan_told; (· exact fun o => (World.cell?_of_block (a := ⟨w1.heap.size, o, none⟩) (F3.loc L2.1 (by simpa using ntb)).2).trans (World.cell?_of_block (a := ⟨w1.heap.size, o, none⟩) L2.2)); (· try simp only [Act.put, List.setIfInBounds_toArray, List.set_cons_zero, List.set_cons_succ]; with_reducible rfl)
  have L3 := F3.loc L2.1 (by simpa using ntb)
  have I3 : S2.Inv (more hx (more r f)) := by have := R.inv; rw [more_comm r hx] at this; exact this
  have bx3 := bt_root R.grow I3 (held1 I3 hx0) bx1.out
  have hex : ∃ t', (e1 = 0 → S2.bt r t' ∧ t'.fat ∧ t'.bits = ins y.bits i' b ∧ t'.leaves ≤ y.leaves + 1) ∧ t'.bits.length ≤ y.bits.length + 1 := by
    rcases R.e2 with q | q
    · obtain ⟨t', a1, a2, a3, a4, a5⟩ := G q
      exact ⟨t', fun _ => ⟨a1, a3 fy, a4, a5⟩, by rw [a4, ins_length]; omega⟩
    · exact ⟨.leaf [], fun h => by omega, by simp [BT.bits]⟩
  obtain ⟨t', Gt, htl⟩ := hex
  have hlx' := hlx.out
  have hl3 := hl2.out
  have hn3 := hnn.out
  (with_reducible refine wpCan_isl ?_); apply wpCan_call (tfork_calls _ p tb S2 f e1 hx r x t' H3 T3 R.e2 I3 (sl.le (by omega)) (fun q => ⟨⟨bx3, fx⟩, (Gt q).1, (Gt q).2.1⟩) (by omega)) rfl (by rfl); (· go_simp); rintro o w4 ⟨S3, r', e', rfl, H4, T4, F4, R2, G2⟩; apply wpCan_told; (· exact fun o => (World.cell?_of_block (a := ⟨w1.heap.size, o, none⟩) (F4.loc L3.1 (by simpa using ntb)).2).trans ((World.cell?_of_block (a := ⟨w1.heap.size, o, none⟩) L3.2).trans (World.cell?_of_block (a := ⟨w1.heap.size, o, none⟩) L2.2))); (· try simp only [Act.put, List.setIfInBounds_toArray, List.set_cons_zero, List.set_cons_succ]; with_reducible rfl)
  repeat ((with_reducible refine wpCan_isq ?_); first | (apply wpCan_read rfl (by rfl); (· intro w' hS; go_simp; with_reducible rfl); (· try simp only [Act.put, List.setIfInBounds_toArray, List.set_cons_zero, List.set_cons_succ]; with_reducible rfl)) | (apply wpCan_no rfl (by rfl); (· try simp only [Act.put, List.setIfInBounds_toArray, List.set_cons_zero, List.set_cons_succ]; with_reducible rfl)))
  refine wpCan_nil ?_
  go_wp2
  go_ret
  have e10 : e' = 0 → e1 = 0 := fun q => by rcases R.e2 with h | h; exact h; exact absurd q (R2.err (by omega))
  refine ⟨S3, r', e', rfl, H4, T4, ((((Fr.of_below H Ha).drew.trans F2.any).trans F3)).trans F4, resMono (resTwo g1 u1 R R2) (by simp only [BT.leaves]; omega), fun q => ?_⟩
  obtain ⟨tt, c1, c2, c3, c4⟩ := G2 q
  obtain ⟨_, d2, d3, d4⟩ := Gt (e10 q)
  have hh := hit.out
  refine ⟨tt, c1, c2.ok, fun _ => c2, ?_, ?_⟩
  · rw [c3, d3]; exact hh.symm
  · simp only [BT.leaves]; omega
set_option maxHeartbeats 4000000 in
set_option maxRecDepth 100000 in
theorem tinsert_left (w : World) (p tb : Nat) (S : St) (f : Int → Nat) (h : Int) (x y : BT) (i : Nat) (b : Bool) (H : Ar w p S) (T : TreeAt w p tb 0) (I : S.Inv f) (sl : slack f (2 * (x.leaves + y.leaves) + 8)) (B : S.bt h (.fork x y)) (fx : x.fat) (fy : y.fat)
    (hl : x.bits.length + y.bits.length < 300000) (hlow : i ≤ x.bits.length)
    (hX : ∀ (hx : Int) w' S' f' (_ : Ar w' p S') (_ : TreeAt w' p tb 0) (_ : S'.Inv f') (_ : slack f' (2 * x.leaves + 8)) (_ : S'.bt hx x),
      Calls Tryz.prog 88 #[.pointer (some ⟨tb, 0, none⟩), .int .i64 hx, .int .i64 i, .bool b] w' fun o w'' => ∃ S'' r e', o = .returned (.int .i64 r) ∧ Ar w'' p S'' ∧ TreeAt w'' p tb e' ∧ Fr [tb] p w' w'' ∧ InsR S' f' x i b S'' r e') :
    Calls Tryz.prog 88 #[.pointer (some ⟨tb, 0, none⟩), .int .i64 h, .int .i64 i, .bool b] w fun o w' => ∃ S' r e', o = .returned (.int .i64 r) ∧ Ar w' p S' ∧ TreeAt w' p tb e' ∧ Fr [tb] p w w' ∧ InsR S f (.fork x y) i b S' r e' := by
  have hT := T
  obtain ⟨hx, hy, E, bx, by'⟩ := B.2
  have HG := fun w' (hb : Below w.heap.size w w') => row_fork w' p S h hx hy x y _ _ (H.below hb) B E
  have HL := fun w' (hb : Below w.heap.size w w') => Len_calls w' p S hx x.bits (H.below hb) (brFat bx fx) (by omega)
  have px := x.leaves_pos
  have py := y.leaves_pos
  have hy0 := bt_ne I by'
  have HI := fun w' (H' : Ar w' p S) (T' : TreeAt w' p tb 0) => hX hx w' S f H' T' I (sl.le (by omega)) bx
  have by1 := hid by'
  have ku := hid (⟨B.1.1, by rw [E]; exact kc_pos.2 (by simp [forkNd])⟩ : S.used h = true ∧ 0 < kc (S.node h) hy)
  have hi2 : i < 1000000 := by omega
  have q1 : ¬ (i : Int) > (x.bits.length : Nat) := by omega
  have q2 : (i : Int) ≤ (x.bits.length : Nat) := by omega
  have hit := hid (show ins (x.bits ++ y.bits) i b = ins x.bits i b ++ y.bits by
    simp only [ins, List.take_append, List.drop_append]
    rw [show i - x.bits.length = 0 by omega]; simp)
  have hl2 := hid hl
  unfold forkNd Nd.arr at HG
  clear E B bx by' hX
  generalize hlx : x.bits.length = lx at *
  have hlx := hid hlx
  generalize hnn : lx + y.bits.length = n at *
  have hnn := hid hnn
  generalize x.bits.count true + y.bits.count true = oo at *
  obtain ⟨d0, d1, dz, dl, _⟩ := T
  go_enter Tryz.func88, Tryz.ntmps88
  go_wp2_with fail
  refine (HG _ (by repeat (first | with_reducible exact Below.refl _ _ | with_reducible assumption | with_reducible refine bel_drewN ?_ | with_reducible refine bel_drew ?_ | with_reducible refine bel_alloc ?_ _ | with_reducible refine bel_set ?_ _ ?_ | with_reducible refine bel_trans ?_ (by with_reducible assumption) | ((try dsimp only); omega)))).mono ?_; rintro o1 w1 ⟨rfl, hb1⟩; obtain ⟨hc1, hf1⟩ := bcell hb1
  go_wp2
  generalize hW : w1.alloc _ = W
  have l0 : W.cell? ⟨w1.heap.size, 0, none⟩ = some (.int .i64 2) := (by subst hW; go_simp); have l1 : W.cell? ⟨w1.heap.size, 1, none⟩ = some (.int .i64 hx) := (by subst hW; go_simp); have l2 : W.cell? ⟨w1.heap.size, 2, none⟩ = some (.int .i64 hy) := (by subst hW; go_simp); have l3 : W.cell? ⟨w1.heap.size, 3, none⟩ = some (.int .i64 0) := (by subst hW; go_simp); have l4 : W.cell? ⟨w1.heap.size, 4, none⟩ = some (.int .i64 0) := (by subst hW; go_simp); have l5 : W.cell? ⟨w1.heap.size, 5, none⟩ = some (.int .u64 n) := (by subst hW; go_simp); have l6 : W.cell? ⟨w1.heap.size, 6, none⟩ = some (.int .u64 oo) := (by subst hW; go_simp)
  have hbW : Below w.heap.size w W := by subst hW; exact (by repeat (first | with_reducible exact Below.refl _ _ | with_reducible assumption | with_reducible refine bel_drewN ?_ | with_reducible refine bel_drew ?_ | with_reducible refine bel_alloc ?_ _ | with_reducible refine bel_set ?_ _ ?_ | with_reducible refine bel_trans ?_ (by with_reducible assumption) | ((try dsimp only); omega)))
  have hsW : w1.heap.size < W.heap.size := by subst hW; simp
  have LW : Loc p W w1.heap.size := by subst hW; exact Loc.new (H.below hb1) _
  have ntb : w1.heap.size ≠ tb := fun q => by have := dl; have := hb1.size; omega
  have c0W := (hT.below H hbW).c0
  clear hW hc1 hf1
  refine wp_region_can (fun w' => w'.cell? ⟨tb, 0, none⟩ = some (.pointer (some ⟨p, 0, none⟩)) ∧ ∀ o, w'.cell? ⟨w1.heap.size, o, none⟩ = W.cell? ⟨w1.heap.size, o, none⟩) [(0, false), (1, false), (2, false), (3, false), (4, false), (5, false), (6, false), (7, true), (8, false)] (by kernel_rfl) (by kernel_rfl) (fun _ d _ _ _ h => by cases d <;> exact h) ?_ ?_
  · exact ⟨c0W, fun _ => rfl⟩
  repeat ((with_reducible refine wpCan_isq ?_); first | (apply wpCan_read rfl (by rfl); (· intro w' hS; go_simp; with_reducible rfl); (· try simp only [Act.put, List.setIfInBounds_toArray, List.set_cons_zero, List.set_cons_succ]; with_reducible rfl)) | (apply wpCan_no rfl (by rfl); (· try simp only [Act.put, List.setIfInBounds_toArray, List.set_cons_zero, List.set_cons_succ]; with_reducible rfl)))
  (with_reducible refine wpCan_isl ?_); apply wpCan_call (HL _ (bel_drew hbW)) rfl (by rfl); (· go_simp); rintro o a1 ⟨rfl, ha1⟩; apply wpCan_told; (· exact ⟨(hT.below H (bel_trans (bel_drew hbW) ha1)).c0, fun o => ha1.cell hsW⟩); (· try simp only [Act.put, List.setIfInBounds_toArray, List.set_cons_zero, List.set_cons_succ]; with_reducible rfl)
  repeat ((with_reducible refine wpCan_isq ?_); first | (apply wpCan_read rfl (by rfl); (· intro w' hS; go_simp; with_reducible rfl); (· try simp only [Act.put, List.setIfInBounds_toArray, List.set_cons_zero, List.set_cons_succ]; with_reducible rfl)) | (apply wpCan_no rfl (by rfl); (· try simp only [Act.put, List.setIfInBounds_toArray, List.set_cons_zero, List.set_cons_succ]; with_reducible rfl)))
  refine wpCan_nil ?_
  have Ha : Below w.heap.size w a1 := bel_trans (bel_drew hbW) ha1
  have ec : ∀ o, a1.cell? ⟨w1.heap.size, o, none⟩ = W.cell? ⟨w1.heap.size, o, none⟩ := fun o => ha1.cell hsW
  have k0 := (ec 0).trans l0
  have k1 := (ec 1).trans l1
  have k2 := (ec 2).trans l2
  have LA : Loc p a1 w1.heap.size := LW.drew.below (H.below (bel_drew hbW)) ha1
  clear ec l0 l1 l2 l3 l4 l5 l6 c0W LW hsW
  go_wp2
  refine wp_region_can (fun w' => ∀ o, w'.cell? ⟨w1.heap.size, o, none⟩ = a1.cell? ⟨w1.heap.size, o, none⟩) [(0, false), (1, false), (2, false), (3, false), (4, false), (5, false), (6, false), (8, false), (9, false), (10, false), (11, false), (7, true), (12, true), (13, true), (14, false)] (by kernel_rfl) (by kernel_rfl) (fun _ d _ _ _ h => by cases d <;> exact h) ?_ ?_
  · exact fun _ => rfl
  repeat ((with_reducible refine wpCan_isq ?_); first | (apply wpCan_read rfl (by rfl); (· intro w' hS; go_simp; with_reducible rfl); (· try simp only [Act.put, List.setIfInBounds_toArray, List.set_cons_zero, List.set_cons_succ]; with_reducible rfl)) | (apply wpCan_no rfl (by rfl); (· try simp only [Act.put, List.setIfInBounds_toArray, List.set_cons_zero, List.set_cons_succ]; with_reducible rfl)))
  have HA := (H.below Ha).drew
  have TA := hT.below H (bel_drew Ha)
  (with_reducible refine wpCan_isl ?_); apply wpCan_call (HI _ HA TA) rfl (by rfl); (· go_simp); rintro o w3 ⟨S2, r, e1, rfl, H3, T3, F3, R, G⟩; apply wpCan_told; (· exact fun o => World.cell?_of_block (a := ⟨w1.heap.size, o, none⟩) (F3.loc LA.drew (by simpa using ntb)).2); (· try simp only [Act.put, List.setIfInBounds_toArray, List.set_cons_zero, List.set_cons_succ]; with_reducible rfl)
  have L3 := F3.loc LA.drew (by simpa using ntb)
  have hyl : S2.live hy := R.inv.kid_pos (g := h) (R.grow.used h ku.out.1) hy0 (by rw [R.grow.node h ku.out.1]; exact ku.out.2)
  have I3 : (S2.keep hy).Inv (more r (more hy f)) := by have := (R.inv.keep hyl (by have := sl hy; simp only [more]; split <;> omega)).1; rw [more_comm hy r] at this; exact this
  have g3 := Grow.keep S2 hy
  have u3 : (S2.keep hy).usedN = S2.usedN := Inv.usedN_congr (keep_n _ _) (keep_used _ _)
  have by3 := bt_root (R.grow.trans g3) I3 (held2 I3 hy0) by1.out
  (with_reducible refine wpCan_isl ?_); apply wpCan_call (tkeep_calls _ p tb S2 e1 hy H3 T3) rfl (by rfl); (· go_simp); rintro o w2 ⟨rfl, H2, F2⟩; apply wpCan_told; (· exact fun o => (World.cell?_of_block (a := ⟨w1.heap.size, o, none⟩) (F2.loc L3.1 (by simp)).2).trans (World.cell?_of_block (a := ⟨w1.heap.size, o, none⟩) L3.2)); (· try simp only [Act.put, List.setIfInBounds_toArray, List.set_cons_zero, List.set_cons_succ]; with_reducible rfl)
  have T2 := T3.fr F2
  have L2 := F2.loc L3.1 (by simp)
  have hex : ∃ t', (e1 = 0 → (S2.keep hy).bt r t' ∧ t'.fat ∧ t'.bits = ins x.bits i b ∧ t'.leaves ≤ x.leaves + 1) ∧ t'.bits.length ≤ lx + 1 := by
    rcases R.e2 with q | q
    · obtain ⟨t', c1, c2, c3, c4, c5⟩ := G q
      exact ⟨t', fun _ => ⟨bt_root g3 I3 (held1 I3 (bt_ne R.inv c1)) c1, c3 fx, c4, c5⟩, by have := hlx.out; rw [c4, ins_length]; omega⟩
    · exact ⟨.leaf [], fun h => by omega, by simp [BT.bits]⟩
  obtain ⟨t', Gt, htl⟩ := hex
  have hl3 := hl2.out
  have hn3 := hnn.out
  (with_reducible refine wpCan_isl ?_); apply wpCan_call (tfork_calls _ p tb (S2.keep hy) f e1 r hy t' y H2 T2 R.e2 I3 (sl.le (by omega)) (fun q => ⟨⟨(Gt q).1, (Gt q).2.1⟩, by3, fy⟩) (by omega)) rfl (by rfl); (· go_simp); rintro o w4 ⟨S3, r', e', rfl, H4, T4, F4, R2, G2⟩; apply wpCan_told; (· exact fun o => (World.cell?_of_block (a := ⟨w1.heap.size, o, none⟩) (F4.loc L2.1 (by simpa using ntb)).2).trans ((World.cell?_of_block (a := ⟨w1.heap.size, o, none⟩) L2.2).trans (World.cell?_of_block (a := ⟨w1.heap.size, o, none⟩) L3.2))); (· try simp only [Act.put, List.setIfInBounds_toArray, List.set_cons_zero, List.set_cons_succ]; with_reducible rfl)
  repeat ((with_reducible refine wpCan_isq ?_); first | (apply wpCan_read rfl (by rfl); (· intro w' hS; go_simp; with_reducible rfl); (· try simp only [Act.put, List.setIfInBounds_toArray, List.set_cons_zero, List.set_cons_succ]; with_reducible rfl)) | (apply wpCan_no rfl (by rfl); (· try simp only [Act.put, List.setIfInBounds_toArray, List.set_cons_zero, List.set_cons_succ]; with_reducible rfl)))
  refine wpCan_nil ?_
  go_wp2
  go_ret
  have e10 : e' = 0 → e1 = 0 := fun q => by rcases R.e2 with h | h; exact h; exact absurd q (R2.err (by omega))
  have R1' : Res S (more hy f) 0 (S2.keep hy) r e1 (3 * x.leaves + 3) :=
    ⟨R.grow.trans g3, by rw [u3]; exact R.made, by
      rcases R.e2 with q | q
      · exact Or.inl ⟨q, I3⟩
      · rcases R.out with ⟨q', _⟩ | ⟨_, z, _⟩
        · omega
        · subst z; exact Or.inr ⟨q, rfl, I3.unzero⟩, R.err, R.room⟩
  refine ⟨S3, r', e', rfl, H4, T4, ((((Fr.of_below H Ha).drew.trans F3)).trans F2.any).trans F4, resMono (resTwo (Grow.refl S) rfl R1' R2) (by simp only [BT.leaves]; omega), fun q => ?_⟩
  obtain ⟨tt, c1, c2, c3, c4⟩ := G2 q
  obtain ⟨_, d2, d3, d4⟩ := Gt (e10 q)
  have hh := hit.out
  refine ⟨tt, c1, c2.ok, fun _ => c2, ?_, ?_⟩
  · rw [c3, d3]; exact hh.symm
  · simp only [BT.leaves]; omega
end Go.Proofs.YtngfalbabgpnnaaGreat

namespace Go.Proofs.YtngfalbabgpnnaaGreat
open Go.RowKit St

theorem tinsert_calls (p tb : Nat) (b : Bool) : ∀ (t : BT) (h : Int) (i : Nat) (w : World) (S : St) (f : Int → Nat), Ar w p S → TreeAt w p tb 0 → S.Inv f → slack f (2 * t.leaves + 8) → S.bt h t → t.ok → i ≤ t.bits.length → t.bits.length < 300000 →
    Calls Tryz.prog 88 #[.pointer (some ⟨tb, 0, none⟩), .int .i64 h, .int .i64 i, .bool b] w fun o w' => ∃ S' r e', o = .returned (.int .i64 r) ∧ Ar w' p S' ∧ TreeAt w' p tb e' ∧ Fr [tb] p w w' ∧ InsR S f t i b S' r e'
  | .leaf l, h, i, w, S, f, H, T, I, sl, B, ok, hi, hl => by
    simp only [BT.bits] at hi hl
    obtain ⟨o1, o2⟩ := ok
    by_cases h64 : l.length < 64
    · refine (tinsert_room w p tb S f h l i b H T I B h64 hi).mono ?_
      rintro o w' ⟨S', r, e', rfl, HA, T', F, R, G⟩
      exact ⟨S', r, e', rfl, HA, T', F, resMono R (by omega), fun q => ⟨_, G q, ⟨by rw [ins_length]; omega, by rw [ins_length]; omega⟩, fun ft => ⟨by have := ft.1; rw [ins_length]; omega, by rw [ins_length]; omega⟩, rfl, by simp [BT.leaves]⟩⟩
    · have hl64 : l.length = 64 := by omega
      by_cases hlo : i ≤ 32
      · refine (tinsert_lo w p tb S f h l i b H T I B hl64 hlo).mono ?_
        rintro o w' ⟨S', r, e', rfl, HA, T', F, R, G⟩
        have ft : (BT.fork (.leaf (ins (l.take 32) i b)) (.leaf (l.drop 32))).fat := by
          refine ⟨⟨?_, ?_⟩, ?_, ?_⟩ <;> simp only [ins_length, List.length_take, List.length_drop] <;> omega
        refine ⟨S', r, e', rfl, HA, T', F, resMono R (by omega), fun q => ⟨_, G q, ft.ok, fun _ => ft, ?_, by simp [BT.leaves]⟩⟩
        simp only [BT.bits, ins]
        rw [List.append_assoc, List.cons_append]
        rw [List.take_take, Nat.min_eq_left hlo]
        congr 2
        conv => rhs; rw [← List.take_append_drop 32 l, List.drop_append]
        rw [show i - (l.take 32).length = 0 by simp; omega]; simp
      · refine (tinsert_hi w p tb S f h l i b H T I B hl64 (by omega) (by omega)).mono ?_
        rintro o w' ⟨S', r, e', rfl, HA, T', F, R, G⟩
        have ft : (BT.fork (.leaf (l.take 32)) (.leaf (ins (l.drop 32) (i - 32) b))).fat := by
          refine ⟨⟨?_, ?_⟩, ?_, ?_⟩ <;> simp only [ins_length, List.length_take, List.length_drop] <;> omega
        refine ⟨S', r, e', rfl, HA, T', F, resMono R (by omega), fun q => ⟨_, G q, ft.ok, fun _ => ft, ?_, by simp [BT.leaves]⟩⟩
        simp only [BT.bits, ins]
        have e : l.take i = l.take 32 ++ (l.drop 32).take (i - 32) := by
          have := List.take_add (l := l) (i := 32) (j := i - 32)
          rwa [show 32 + (i - 32) = i by omega] at this
        rw [e, List.drop_drop, show 32 + (i - 32) = i by omega, List.append_assoc]
  | .fork x y, h, i, w, S, f, H, T, I, sl, B, ok, hi, hl => by
    simp only [BT.bits, List.length_append] at hi hl
    simp only [BT.leaves] at sl
    by_cases hlow : x.bits.length < i
    · exact tinsert_right w p tb S f h x y i b H T I sl B ok.1 ok.2 hl hlow hi fun hy w' S' f' H' T' I' sl' B' => tinsert_calls p tb b y hy _ w' S' f' H' T' I' sl' B' ok.2.ok (by omega) (by omega)
    · exact tinsert_left w p tb S f h x y i b H T I sl B ok.1 ok.2 hl (by omega) fun hx w' S' f' H' T' I' sl' B' => tinsert_calls p tb b x hx _ w' S' f' H' T' I' sl' B' ok.1.ok (by omega) (by omega)
end Go.Proofs.YtngfalbabgpnnaaGreat

namespace Go.Proofs.YtngfalbabgpnnaaGreat
open Go.RowKit St

/-- A new maker. -/
theorem TreeAt.new {w : World} {p : Nat} {S : St} (H : Ar w p S) (T0 : TypeId) : TreeAt (w.alloc (.cells #[.pointer (some ⟨p, 0, none⟩), .int .i64 0] T0)) p w.heap.size 0 :=
  ⟨by rw [World.cell?_alloc_at _ _ _ _ (by simp)]; rfl, by rw [World.cell?_alloc_at _ _ _ _ (by simp)]; rfl, fun i => by unfold World.frozen?; rw [show ({ block := w.heap.size, off := i, spot := none } : Addr).block = w.heap.size from rfl, heap_alloc_new]; simp, Loc.new H _⟩
theorem frNew {p tb : Nat} {w w' : World} (F : Fr [tb] p w w') (h : w.heap.size ≤ tb) : Fr [] p w w' :=
  ⟨F.os, F.tape, F.output, F.size, fun b h1 h2 _ => F.block b h1 h2 (by simp; omega), F.foot⟩

theorem ins_nil {α : Type} (i : Nat) (b : α) : ins [] i b = [b] := by simp [ins]

set_option maxHeartbeats 4000000 in
set_option maxRecDepth 100000 in
theorem bInsert_calls (w : World) (p : Nat) (S : St) (f : Int → Nat) (h : Int) (l : List Bool) (i : Nat) (b : Bool) (H : Ar w p S) (I : S.Inv f) (sl : slack f 100000) (B : S.br h l) (hi : i ≤ l.length) (hl : l.length < 30000) :
    Calls Tryz.prog 44 #[.pointer (some ⟨p, 0, none⟩), .int .i64 h, .int .i64 i, .bool b] w fun o w' => ∃ S' r e', o = .returned (.tuple #[.int .i64 r, .int .i64 e']) ∧ Ar w' p S' ∧ Fr [] p w w' ∧
      Res S f 0 S' r e' (l.length + 9) ∧ (e' = 0 → S'.br r (ins l i b)) := by
  have HL := fun w' (hb : Below w.heap.size w w') => Len_calls w' p S h l (H.below hb) B (by omega)
  have hI : ∀ w' tb, Ar w' p S → TreeAt w' p tb 0 → Calls Tryz.prog 88 #[.pointer (some ⟨tb, 0, none⟩), .int .i64 h, .int .i64 i, .bool b] w' fun o w'' =>
      ∃ S' r e', o = .returned (.int .i64 r) ∧ Ar w'' p S' ∧ TreeAt w'' p tb e' ∧ Fr [tb] p w' w'' ∧ Res S f 0 S' r e' (l.length + 9) ∧ (e' = 0 → S'.br r (ins l i b)) := by
    intro w' tb H' T'
    rcases B with ⟨rfl, rfl⟩ | ⟨t, b1, o1, rfl⟩
    · have : i = 0 := by simpa using hi
      subst this
      refine (tinsert_zero w' p tb S f b H' T' I).mono ?_
      rintro o w'' ⟨S', r, e', rfl, HA, T2, F, R, G⟩
      exact ⟨S', r, e', rfl, HA, T2, F, resMono R (by omega), fun q => Or.inr ⟨_, G q, ⟨by simp, by simp⟩, by simp [BT.bits, ins]⟩⟩
    · have hlv : t.leaves ≤ 1 ∨ 16 * t.leaves ≤ t.bits.length := by
        cases t with
        | leaf l => exact Or.inl (Nat.le_refl _)
        | fork x y => exact Or.inr (BT.fat.len (t := .fork x y) o1)
      refine (tinsert_calls p tb b t h i w' S f H' T' I (sl.le (by omega)) b1 o1 hi (by omega)).mono ?_
      rintro o w'' ⟨S', r, e', rfl, HA, T2, F, R, G⟩
      exact ⟨S', r, e', rfl, HA, T2, F, resMono R (by omega), fun q => by obtain ⟨t', a1, a2, _, a4, _⟩ := G q; exact Or.inr ⟨t', a1, a2, a4⟩⟩
  have HT := fun w' tb e r => told_calls w' p tb e r
  have q1 : ¬ (i : Int) < 0 := by omega
  have q2 : ¬ (i : Int) > (l.length : Nat) := by omega
  have q3 : (i : Int) ≤ (l.length : Nat) := by omega
  clear B
  go_enter Tryz.func44, Tryz.ntmps44
  go_wp2_with fail
  refine (HL _ (by repeat (first | with_reducible exact Below.refl _ _ | with_reducible assumption | with_reducible refine bel_drewN ?_ | with_reducible refine bel_drew ?_ | with_reducible refine bel_alloc ?_ _ | with_reducible refine bel_set ?_ _ ?_ | with_reducible refine bel_trans ?_ (by with_reducible assumption) | ((try dsimp only); omega)))).mono ?_; rintro o1 w1 ⟨rfl, hb1⟩
  have H1 := H.below hb1
  go_wp2_with fail
  refine (hI _ _ (H1.alloc _) (TreeAt.new H1 _)).mono ?_
  rintro o w2 ⟨S', r, e', rfl, H2, T2, F2, R, G⟩
  have er : (if e' = 0 then r else 0) = r := by
    rcases R.out with ⟨q, _⟩ | ⟨q, z, _⟩
    · rw [if_pos q]
    · subst z; simp
  have HT1 := HT w2 w1.heap.size e' r T2
  rw [er] at HT1
  clear er HT
  go_wp2_with fail
  refine HT1.mono ?_
  rintro o w3 ⟨rfl, hb3⟩
  go_wp2
  go_ret2
  exact ⟨S', r, e', rfl, H2.below hb3, (frNew ((Fr.of_below H (bel_alloc hb1 _)).trans F2) hb1.size).trans (Fr.of_below H2 hb3), R, G⟩
end Go.Proofs.YtngfalbabgpnnaaGreat

namespace Go.Proofs.YtngfalbabgpnnaaGreat
open Go.RowKit St

theorem i64_and1 {x : Nat} (h : x < 1000) : bits .and .i64 (x : Int) 1 = ((x % 2 : Nat) : Int) := by
  have := (bits_nat .i64 63 (by decide) (fun n h0 h1 => by simp [IntKind.wrap, IntKind.bits, IntKind.signed]; omega) x 1 (by omega) (by decide)).1
  rw [show ((1 : Nat) : Int) = 1 from rfl] at this
  rw [this, Nat.and_one_is_mod]

set_option maxHeartbeats 2000000 in
/-- n levels are left behind this one. -/
theorem symBit_calls (w : World) (s n : Nat) (hs : s < 257) (hn : n ≤ 8) : Calls Tryz.prog 113 #[.int .i64 (s : Int), .int .i64 ((8 - n : Nat) : Int)] w fun o w' => o = .returned (.bool (s.testBit n)) ∧ w' = w := by
  have q1 : ¬ (s : Int) < 0 := by omega
  have q2 : ¬ (s : Int) ≥ 257 := by omega
  have q2' : (s : Int) < 257 := by omega
  have hm : ∃ m : Nat, 8 - n = m ∧ m ≤ 8 ∧ 8 - m = n := ⟨8 - n, rfl, by omega, by omega⟩
  obtain ⟨m, e, hm, e2⟩ := hm
  rw [e]
  subst e2
  clear e hn
  have q3 : ¬ (m : Int) < 0 := by omega
  have q4 : ¬ (m : Int) ≥ 9 := by omega
  have q4' : (m : Int) < 9 := by omega
  have q5 : (8 : Int) - (m : Int) = ((8 - m : Nat) : Int) := by omega
  have q6 : ¬ ((8 : Int) - (m : Int)) < 0 := by omega
  go_enter Tryz.func113, Tryz.ntmps113
  go_wp2
  go_ret
  refine ⟨congrArg (fun z => Ending.returned (.bool z)) (show (bits BinOp.and IntKind.i64 ((s : Int) / 2 ^ (8 - m)) 1 == 1) = s.testBit (8 - m) from ?_), rfl⟩
  rw [shr_nat, i64_and1 (Nat.lt_of_le_of_lt (Nat.div_le_self _ _) (by omega)), Nat.testBit_eq_decide_div_mod_eq]
  by_cases q : s / 2 ^ (8 - m) % 2 = 1
  · rw [q]; rfl
  · have : s / 2 ^ (8 - m) % 2 = 0 := by omega
    rw [this]; rfl

set_option maxHeartbeats 2000000 in
theorem waveIs_calls (w : World) (s : Nat) (hs : s < 257) : Calls Tryz.prog 84 #[.int .i64 (s : Int)] w fun o w' => o = .returned (.bool true) ∧ w' = w := by
  have q1 : (s : Int) ≥ 0 := by omega
  have q2' : (s : Int) < 257 := by omega
  go_enter Tryz.func84, Tryz.ntmps84
  go_wp2
  go_ret
  exact ⟨rfl, rfl⟩

set_option maxHeartbeats 2000000 in
theorem waveKid_calls (w : World) (x : Nd) (one : Bool) : Calls Tryz.prog 110 #[.agg x.arr, .bool one] w fun o w' => o = .returned (.int .i64 (if one then x.k2 else x.k1)) ∧ Below w.heap.size w w' := by
  unfold Nd.arr
  cases one with
  | true =>
    go_enter Tryz.func110, Tryz.ntmps110
    go_wp2
    go_ret
    exact ⟨rfl, (by repeat (first | with_reducible exact Below.refl _ _ | with_reducible assumption | with_reducible refine bel_drewN ?_ | with_reducible refine bel_drew ?_ | with_reducible refine bel_alloc ?_ _ | with_reducible refine bel_set ?_ _ ?_ | with_reducible refine bel_trans ?_ (by with_reducible assumption) | ((try dsimp only); omega)))⟩
  | false =>
    go_enter Tryz.func110, Tryz.ntmps110
    go_wp2
    go_ret
    exact ⟨rfl, (by repeat (first | with_reducible exact Below.refl _ _ | with_reducible assumption | with_reducible refine bel_drewN ?_ | with_reducible refine bel_drew ?_ | with_reducible refine bel_alloc ?_ _ | with_reducible refine bel_set ?_ _ ?_ | with_reducible refine bel_trans ?_ (by with_reducible assumption) | ((try dsimp only); omega)))⟩
end Go.Proofs.YtngfalbabgpnnaaGreat
