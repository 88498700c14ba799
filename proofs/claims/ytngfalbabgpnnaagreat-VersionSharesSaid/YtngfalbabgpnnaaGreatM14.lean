/-
  The walk of the closure in list.Insert.
  The walks of package list: Get, All.
  The walks of package table: Len, Place, Add.
-/
import Derived.Test.YtngfalbabgpnnaaGreatM8
import Derived.Test.YtngfalbabgpnnaaGreatM13
import Derived.Deep.LoopGhost
set_option linter.unusedVariables false
set_option linter.unusedSimpArgs false
namespace Go.Proofs.YtngfalbabgpnnaaGreat
open Go.RowKit St

def insG (n i : Nat) (x : Nat × Nat) (m : List (Nat × Nat)) : List (Nat × Nat) := if n = 0 then [x] else if i = n then m ++ [x] else x :: m
theorem insG_length (n i : Nat) (x : Nat × Nat) (m : List (Nat × Nat)) : (insG n i x m).length ≤ m.length + 1 := by
  unfold insG; split
  · simp
  · split <;> simp

/-- What the closure reads. -/
structure InsEnv (W0 : World) (tb n i a b b1 b2 b3 b4 : Nat) : Prop where
  t : W0.cell? ⟨b1, 0, none⟩ = some (.pointer (some ⟨tb, 0, none⟩))
  xa : W0.cell? ⟨b2, 0, none⟩ = some (.int .i64 a)
  xb : W0.cell? ⟨b2, 1, none⟩ = some (.int .i64 b)
  n : W0.cell? ⟨b3, 0, none⟩ = some (.int .i64 n)
  i : W0.cell? ⟨b4, 0, none⟩ = some (.int .i64 i)
theorem InsEnv.at {W0 w : World} {p tb n i a b b1 b2 b3 b4 : Nat} (V : InsEnv W0 tb n i a b b1 b2 b3 b4) (E : Env p [b1, b2, b3, b4] W0 w) : InsEnv w tb n i a b b1 b2 b3 b4 :=
  ⟨(World.cell?_of_block (a := ⟨b1, 0, none⟩) (E b1 (by simp)).2).trans V.t, (World.cell?_of_block (a := ⟨b2, 0, none⟩) (E b2 (by simp)).2).trans V.xa, (World.cell?_of_block (a := ⟨b2, 1, none⟩) (E b2 (by simp)).2).trans V.xb,
    (World.cell?_of_block (a := ⟨b3, 0, none⟩) (E b3 (by simp)).2).trans V.n, (World.cell?_of_block (a := ⟨b4, 0, none⟩) (E b4 (by simp)).2).trans V.i⟩

set_option maxHeartbeats 4000000 in
set_option maxRecDepth 100000 in
theorem insOne (p tb n i a b b1 b2 b3 b4 : Nat) (W0 : World) (V0 : InsEnv W0 tb n i a b b1 b2 b3 b4) (htb : tb ∉ [b1, b2, b3, b4]) (ha : a < 9223372036854775808) (hb : b < 9223372036854775808) (hnn : n < 300000) (hin : i < 300000) (h : Int) (l : List (Nat × Nat))
    (w : World) (S : St) (f : Int → Nat) (H : Ar w p S) (T : TreeAt w p tb 0) (E : Env p [b1, b2, b3, b4] W0 w) (I : S.Inv f) (sl : slack f 20) (L : S.lr h l) (hl : l.length ≤ 1) :
    Calls Tryz.prog 93 #[.int .i64 h, .pointer (some ⟨b1, 0, none⟩), .pointer (some ⟨b2, 0, none⟩), .pointer (some ⟨b3, 0, none⟩), .pointer (some ⟨b4, 0, none⟩)] w fun o w' => ∃ S' r e', o = .returned (.int .i64 r) ∧ Ar w' p S' ∧ TreeAt w' p tb e' ∧ Fr [tb] p w w' ∧ ChgR S f l (insG n i (a, b) l) S' r e' := by
  obtain ⟨z1, z2, z3, z4, z5⟩ := V0.at E
  have HI := fun w' (H' : Ar w' p S) (T' : TreeAt w' p tb 0) => litem_calls w' p tb S f 0 a b H' T' (Or.inl rfl) I ha hb
  have hL := hid L
  have hI := hid I
  have hE := hid E
  have hT := T
  clear L E I
  by_cases n0 : n = 0
  · subst n0
    go_enter Tryz.func93, Tryz.ntmps93
    go_wp2_with fail
    refine (HI _ H T).mono ?_; rintro o1 w1 ⟨S1, y, e1, rfl, H1, T1, F1, R1, G1⟩
    obtain ⟨z1, z2, z3, z4, z5⟩ := V0.at (hE.out.fr F1 htb)
    go_wp2
    go_ret
    refine ⟨S1, y, e1, rfl, H1, T1, F1, resMono R1 (by omega), fun q => ?_⟩
    exact Or.inr ⟨_, G1 q, by simp [insG, LT.items]⟩
  · have n0b : ((n : Int) == 0) = false := by simp; omega
    have lv : ∀ S1 e1 y, Res S f 0 S1 y e1 1 → (S1.keep h).Inv (more h (more y f)) ∧ Grow S (S1.keep h) ∧ (S1.keep h).usedN = S1.usedN ∧ (S1.keep h).lr h l := by
      intro S1 e1 y R1
      have I1 := R1.inv
      have g := R1.grow.trans (Grow.keep S1 h)
      have u : (S1.keep h).usedN = S1.usedN := Inv.usedN_congr (keep_n _ _) (keep_used _ _)
      rcases hL.out with ⟨q, ql⟩ | ⟨t, b, ql⟩
      · subst q
        rw [keep_zero I1.wf] at g ⊢
        exact ⟨I1.zero, g, rfl, Or.inl ⟨rfl, ql⟩⟩
      · have hlv : S1.live h := R1.grow.live hI.out I1 (fun x => more_le _ _ _) b.live
        have I2 := (I1.keep hlv (by have := sl h; simp only [more]; split <;> omega)).1
        have h0 : h ≠ 0 := lt_ne hI.out b
        exact ⟨I2, g, u, Or.inr ⟨t, lt_root g I2 (held1 I2 h0) b, ql⟩⟩
    have ylr : ∀ S1 y e1, Res S f 0 S1 y e1 1 → (e1 = 0 → S1.lt y (.item a b)) → (S1.keep h).Inv (more h (more y f)) → ∃ m, (S1.keep h).lr y m ∧ m.length ≤ 1 ∧ (e1 = 0 → m = [(a, b)]) := by
      intro S1 y e1 R1 G1 I2
      rcases R1.out with ⟨q, _⟩ | ⟨q, z, _⟩
      · exact ⟨_, Or.inr ⟨_, lt_root (Grow.keep S1 h) I2 (held2 I2 (lt_ne R1.inv (G1 q))) (G1 q), rfl⟩, by simp [LT.items], fun _ => rfl⟩
      · exact ⟨[], Or.inl ⟨z, rfl⟩, by simp, fun h => by omega⟩
    have lv := hid lv
    have ylr := hid ylr
    by_cases hin' : i = n
    · have inb : ((i : Int) == (n : Int)) = true := by simp [hin']
      go_enter Tryz.func93, Tryz.ntmps93
      go_wp2_with fail
      refine (HI _ H T).mono ?_; rintro o1 w1 ⟨S1, y, e1, rfl, H1, T1, F1, R1, G1⟩
      obtain ⟨z1, z2, z3, z4, z5⟩ := V0.at (hE.out.fr F1 htb)
      obtain ⟨I2, g2, u2, L2⟩ := lv.out S1 e1 y R1
      obtain ⟨m, M2, ml, me⟩ := ylr.out S1 y e1 R1 G1 I2
      have I2 := hid I2
      have L2 := hid L2
      have M2 := hid M2
      have u2 := hid u2
      go_wp2
      refine wp_region_can (fun w' => ∀ o, w'.cell? ⟨b1, o, none⟩ = w1.cell? ⟨b1, o, none⟩) [(0, false), (1, false), (2, false), (4, false), (3, true), (5, true), (6, false)] (by kernel_rfl) (by kernel_rfl) (fun _ d _ _ _ h => by cases d <;> exact h) ?_ ?_
      · exact fun _ => rfl
      repeat ((with_reducible refine wpCan_isq ?_); first | (apply wpCan_read rfl (by rfl); (· intro w' hS; go_simp; with_reducible rfl); (· try simp only [Act.put, List.setIfInBounds_toArray, List.set_cons_zero, List.set_cons_succ]; with_reducible rfl)) | (apply wpCan_no rfl (by rfl); (· try simp only [Act.put, List.setIfInBounds_toArray, List.set_cons_zero, List.set_cons_succ]; with_reducible rfl)))
      have Eb1 := (hE.out.fr F1 htb) b1 (by simp)
      (with_reducible refine wpCan_isl ?_); apply wpCan_call (lkeep_calls _ p tb S1 e1 h H1.drew (T1.below H1 (bel_drew (Below.refl _ _)))) rfl (by rfl); (· go_simp); rintro o w2 ⟨rfl, H2, F2⟩; apply wpCan_told; (· exact fun o => World.cell?_of_block (a := ⟨b1, o, none⟩) (F2.loc Eb1.1.drew (by simp)).2); (· try simp only [Act.put, List.setIfInBounds_toArray, List.set_cons_zero, List.set_cons_succ]; with_reducible rfl)
      have T2 := T1.fr F2.drewL
      have Lb := F2.loc Eb1.1.drew (by simp)
      (with_reducible refine wpCan_isl ?_); apply wpCan_call (ljoin_calls _ p tb (S1.keep h) f e1 h y l m H2 T2 R1.e2 I2.out (sl.le (by omega)) L2.out M2.out (by omega)) rfl (by rfl); (· go_simp); rintro o w3 ⟨S3, r, e3, rfl, H3, T3, F3, R3, G3⟩; apply wpCan_told; (· exact fun o => (World.cell?_of_block (a := ⟨b1, o, none⟩) (F3.loc Lb.1 (by simp; rintro rfl; exact htb (by simp))).2).trans (World.cell?_of_block (a := ⟨b1, o, none⟩) Lb.2)); (· try simp only [Act.put, List.setIfInBounds_toArray, List.set_cons_zero, List.set_cons_succ]; with_reducible rfl)
      repeat ((with_reducible refine wpCan_isq ?_); first | (apply wpCan_read rfl (by rfl); (· intro w' hS; go_simp; with_reducible rfl); (· try simp only [Act.put, List.setIfInBounds_toArray, List.set_cons_zero, List.set_cons_succ]; with_reducible rfl)) | (apply wpCan_no rfl (by rfl); (· try simp only [Act.put, List.setIfInBounds_toArray, List.set_cons_zero, List.set_cons_succ]; with_reducible rfl)))
      refine wpCan_nil ?_
      go_wp2
      go_ret
      have e10 : e3 = 0 → e1 = 0 := fun q => by rcases R1.e2 with h | h; exact h; exact absurd q (R3.err (by omega))
      have R1' : Res S (more h f) 0 (S1.keep h) y e1 1 := ⟨g2, by rw [u2.out]; exact R1.made, by
        rcases R1.out with ⟨q, _⟩ | ⟨q, z, _⟩
        · refine Or.inl ⟨q, ?_⟩
          have := I2.out; rw [more_comm h y] at this; exact this
        · refine Or.inr ⟨q, z, ?_⟩
          have := I2.out; rw [z, more_comm h 0] at this; exact this.unzero, R1.err, R1.room⟩
      refine ⟨S3, r, e3, rfl, H3, T3, (F1.trans F2.drewL.any).trans F3, resMono (resTwo (Grow.refl S) rfl R1' R3) (by omega), fun q => ?_⟩
      have := G3 q
      rw [me (e10 q)] at this
      unfold insG
      rw [if_neg n0, if_pos hin']
      exact this
    · have inb : ((i : Int) == (n : Int)) = false := by simp; omega
      go_enter Tryz.func93, Tryz.ntmps93
      go_wp2_with fail
      refine (HI _ H T).mono ?_; rintro o1 w1 ⟨S1, y, e1, rfl, H1, T1, F1, R1, G1⟩
      obtain ⟨z1, z2, z3, z4, z5⟩ := V0.at (hE.out.fr F1 htb)
      obtain ⟨I2, g2, u2, L2⟩ := lv.out S1 e1 y R1
      obtain ⟨m, M2, ml, me⟩ := ylr.out S1 y e1 R1 G1 I2
      have I2 := hid I2
      have L2 := hid L2
      have M2 := hid M2
      have u2 := hid u2
      go_wp2
      refine wp_region_can (fun w' => ∀ o, w'.cell? ⟨b1, o, none⟩ = w1.cell? ⟨b1, o, none⟩) [(0, false), (1, false), (2, false), (3, false), (4, true), (5, true), (6, false)] (by kernel_rfl) (by kernel_rfl) (fun _ d _ _ _ h => by cases d <;> exact h) ?_ ?_
      · exact fun _ => rfl
      repeat ((with_reducible refine wpCan_isq ?_); first | (apply wpCan_read rfl (by rfl); (· intro w' hS; go_simp; with_reducible rfl); (· try simp only [Act.put, List.setIfInBounds_toArray, List.set_cons_zero, List.set_cons_succ]; with_reducible rfl)) | (apply wpCan_no rfl (by rfl); (· try simp only [Act.put, List.setIfInBounds_toArray, List.set_cons_zero, List.set_cons_succ]; with_reducible rfl)))
      have Eb1 := (hE.out.fr F1 htb) b1 (by simp)
      (with_reducible refine wpCan_isl ?_); apply wpCan_call (lkeep_calls _ p tb S1 e1 h H1.drew (T1.below H1 (bel_drew (Below.refl _ _)))) rfl (by rfl); (· go_simp); rintro o w2 ⟨rfl, H2, F2⟩; apply wpCan_told; (· exact fun o => World.cell?_of_block (a := ⟨b1, o, none⟩) (F2.loc Eb1.1.drew (by simp)).2); (· try simp only [Act.put, List.setIfInBounds_toArray, List.set_cons_zero, List.set_cons_succ]; with_reducible rfl)
      have T2 := T1.fr F2.drewL
      have Lb := F2.loc Eb1.1.drew (by simp)
      have I2' : (S1.keep h).Inv (more y (more h f)) := by have := I2.out; rw [more_comm h y] at this; exact this
      (with_reducible refine wpCan_isl ?_); apply wpCan_call (ljoin_calls _ p tb (S1.keep h) f e1 y h m l H2 T2 R1.e2 I2' (sl.le (by omega)) M2.out L2.out (by omega)) rfl (by rfl); (· go_simp); rintro o w3 ⟨S3, r, e3, rfl, H3, T3, F3, R3, G3⟩; apply wpCan_told; (· exact fun o => (World.cell?_of_block (a := ⟨b1, o, none⟩) (F3.loc Lb.1 (by simp; rintro rfl; exact htb (by simp))).2).trans (World.cell?_of_block (a := ⟨b1, o, none⟩) Lb.2)); (· try simp only [Act.put, List.setIfInBounds_toArray, List.set_cons_zero, List.set_cons_succ]; with_reducible rfl)
      repeat ((with_reducible refine wpCan_isq ?_); first | (apply wpCan_read rfl (by rfl); (· intro w' hS; go_simp; with_reducible rfl); (· try simp only [Act.put, List.setIfInBounds_toArray, List.set_cons_zero, List.set_cons_succ]; with_reducible rfl)) | (apply wpCan_no rfl (by rfl); (· try simp only [Act.put, List.setIfInBounds_toArray, List.set_cons_zero, List.set_cons_succ]; with_reducible rfl)))
      refine wpCan_nil ?_
      go_wp2
      go_ret
      have e10 : e3 = 0 → e1 = 0 := fun q => by rcases R1.e2 with h | h; exact h; exact absurd q (R3.err (by omega))
      have R1' : Res S (more h f) 0 (S1.keep h) y e1 1 := ⟨g2, by rw [u2.out]; exact R1.made, by
        rcases R1.out with ⟨q, _⟩ | ⟨q, z, _⟩
        · exact Or.inl ⟨q, I2'⟩
        · refine Or.inr ⟨q, z, ?_⟩
          have := I2.out; rw [z, more_comm h 0] at this; exact this.unzero, R1.err, R1.room⟩
      refine ⟨S3, r, e3, rfl, H3, T3, (F1.trans F2.drewL.any).trans F3, resMono (resTwo (Grow.refl S) rfl R1' R3) (by omega), fun q => ?_⟩
      have := G3 q
      rw [me (e10 q)] at this
      unfold insG
      rw [if_neg n0, if_neg hin']
      exact this

theorem chg_ins {l : List (Nat × Nat)} {i : Nat} (x : Nat × Nat) (hl : l ≠ []) (hi : i ≤ l.length) : chg (insG l.length i x) l (min i (l.length - 1)) = ins l i x := by
  have hp : 0 < l.length := List.length_pos_iff.2 hl
  by_cases q : i = l.length
  · have e : min i (l.length - 1) = l.length - 1 := by omega
    have e2 : (l.drop (l.length - 1)).take 1 = l.drop (l.length - 1) := List.take_of_length_le (by simp; omega)
    rw [e, chg, e2]
    unfold insG ins
    rw [if_neg (by omega), if_pos q, show l.length - 1 + 1 = l.length by omega, List.drop_length, List.append_nil, ← List.append_assoc, List.take_append_drop, q, List.take_length, List.drop_length]
  · have e : min i (l.length - 1) = i := by omega
    have hlt : i < l.length := by omega
    rw [e, chg]
    unfold insG ins
    rw [if_neg (by omega), if_neg q]
    have e3 : l.drop (i + 1) = (l.drop i).drop 1 := by rw [List.drop_drop]
    rw [e3, List.append_assoc, List.cons_append, List.take_append_drop]

theorem Ar.newer {w W : World} {p b : Nat} {S : St} (H : Ar w p S) (hb : Below w.heap.size w W) (h1 : w.heap.size ≤ b) (h2 : b < W.heap.size) : Loc p W b :=
  ⟨h2, fun hf => by have := H.foot_lt b ((Foot.congr (hb.block p H.lt)).1 hf); omega⟩

set_option maxHeartbeats 4000000 in
set_option maxRecDepth 100000 in
theorem lInsert_calls (w : World) (p : Nat) (S : St) (f : Int → Nat) (h : Int) (l : List (Nat × Nat)) (i a b : Nat) (H : Ar w p S) (I : S.Inv f) (sl : slack f 100000) (L : S.lr h l) (hi : i ≤ l.length) (hl : l.length < 30000) (ha : a < 9223372036854775808) (hb : b < 9223372036854775808) :
    Calls Tryz.prog 45 #[.pointer (some ⟨p, 0, none⟩), .int .i64 h, .int .i64 i, .agg #[.int .i64 a, .int .i64 b]] w fun o w' => ∃ S' r e', o = .returned (.tuple #[.int .i64 r, .int .i64 e']) ∧ Ar w' p S' ∧ Fr [] p w w' ∧
      Res S f 0 S' r e' (3 * l.length + 4) ∧ (e' = 0 → S'.lr r (ins l i (a, b))) := by
  have HL := fun w' (hb : Below w.heap.size w w') => lLen_calls w' p S h l (H.below hb) L (by omega)
  have HM := fun w' => lmay_calls w' a b i l.length hi
  have hC : ∀ w' tb b1 b2 b3 b4, Ar w' p S → TreeAt w' p tb 0 → Env p [b1, b2, b3, b4] w' w' → InsEnv w' tb l.length i a b b1 b2 b3 b4 → tb ∉ [b1, b2, b3, b4] →
      Calls Tryz.prog 92 #[.pointer (some ⟨tb, 0, none⟩), .int .i64 h, .int .i64 ((min i (l.length - 1) : Nat) : Int), .func (.func 93) #[] #[.pointer (some ⟨b1, 0, none⟩), .pointer (some ⟨b2, 0, none⟩), .pointer (some ⟨b3, 0, none⟩), .pointer (some ⟨b4, 0, none⟩)]] w' fun o w'' =>
        ∃ S' r e', o = .returned (.int .i64 r) ∧ Ar w'' p S' ∧ TreeAt w'' p tb e' ∧ Fr [tb] p w' w'' ∧ Res S f 0 S' r e' (3 * l.length + 4) ∧ (e' = 0 → S'.lr r (ins l i (a, b))) := by
    intro w' tb b1 b2 b3 b4 H' T' E' V' htb
    have O : OneSays p tb 93 #[.pointer (some ⟨b1, 0, none⟩), .pointer (some ⟨b2, 0, none⟩), .pointer (some ⟨b3, 0, none⟩), .pointer (some ⟨b4, 0, none⟩)] [b1, b2, b3, b4] w' (insG l.length i (a, b)) :=
      fun h l' w S f H T E I sl L hl' => insOne p tb l.length i a b b1 b2 b3 b4 w' V' htb ha hb (by omega) (by omega) h l' w S f H T E I sl L hl'
    rcases L with ⟨rfl, rfl⟩ | ⟨t, B, rfl⟩
    · have i0 : i = 0 := by simpa using hi
      subst i0
      refine (lchangeI_zero w' p tb S f _ _ _ _ _ _ _ _ H' T' E' I (sl.le (by omega)) O).mono ?_
      rintro o w'' ⟨S', r, e', rfl, HA, T2, F, R, G⟩
      exact ⟨S', r, e', rfl, HA, T2, F, R, fun q => by have := G q; simpa [insG, ins] using this⟩
    · have hne : t.items ≠ [] := fun q => by have := t.len_pos; rw [q] at this; simp at this
      have hp := t.len_pos
      refine (lchangeI_calls p tb _ _ _ _ _ _ _ (insG_length _ _ _) htb O t h _ w' S f H' T' E' I (sl.le (by omega)) B (by omega) (by omega)).mono ?_
      rintro o w'' ⟨S', r, e', rfl, HA, T2, F, R, G⟩
      exact ⟨S', r, e', rfl, HA, T2, F, R, fun q => by have := G q; rw [chg_ins (a, b) hne hi] at this; exact this⟩
  have HT := fun w' tb e r => ltold_calls w' p tb e r
  clear L
  have q0 : IntKind.i64.wrap ((l.length : Nat) - (1 : Int)) = (l.length : Nat) - (1 : Int) := by simp [IntKind.wrap, IntKind.bits, IntKind.signed]; omega
  have q1 := hid (show (if (if ((l.length : Nat) : Int) - 1 < 0 then 0 else ((l.length : Nat) : Int) - 1) < (i : Int) then (if ((l.length : Nat) : Int) - 1 < 0 then 0 else ((l.length : Nat) : Int) - 1) else (i : Int)) = ((min i (l.length - 1) : Nat) : Int) by
    split <;> split <;> omega)
  have hC := hid hC
  generalize min i (l.length - 1) = j at *
  generalize hnl : l.length = n at *
  have hnl := hid hnl
  go_enter Tryz.func45, Tryz.ntmps45
  go_wp2_with fail
  refine (HL _ (by repeat (first | with_reducible exact Below.refl _ _ | with_reducible assumption | with_reducible refine bel_drewN ?_ | with_reducible refine bel_drew ?_ | with_reducible refine bel_alloc ?_ _ | with_reducible refine bel_set ?_ _ ?_ | with_reducible refine bel_trans ?_ (by with_reducible assumption) | ((try dsimp only); omega)))).mono ?_; rintro o1 w1 ⟨rfl, hb1⟩; obtain ⟨hc1, hf1⟩ := bcell hb1
  have zz := hb1.size; (try simp only [World.size_alloc, World.size_drew, World.size_setCell] at zz); have : w.heap.size < w1.heap.size := (by omega); have : w.heap.size + 1 < w1.heap.size := (by omega); clear zz
  go_wp2_with fail
  refine (HM _).mono ?_; rintro o2 w2 ⟨rfl, hb2⟩; obtain ⟨hc2, hf2⟩ := bcell hb2
  have zz := hb2.size; (try simp only [World.size_alloc, World.size_drew, World.size_setCell] at zz); have : w1.heap.size < w2.heap.size := (by omega); clear zz
  have q8 : w.heap.size < w2.heap.size := by omega
  have q9 : w.heap.size + 1 < w2.heap.size := by omega
  go_wp2
  generalize hW : World.alloc _ _ = W
  have hsz : W.heap.size = w2.heap.size + 1 + 1 := by subst hW; simp
  have t0 : W.cell? ⟨w2.heap.size, 0, none⟩ = some (.pointer (some ⟨p, 0, none⟩)) := by subst hW; go_simp
  have t1 : W.cell? ⟨w2.heap.size, 1, none⟩ = some (.int .i64 0) := by subst hW; go_simp
  have tf : ∀ j, W.frozen? ⟨w2.heap.size, j, none⟩ = false := fun j => by subst hW; go_simp
  have z1 : W.cell? ⟨w2.heap.size + 1, 0, none⟩ = some (.pointer (some ⟨w2.heap.size, 0, none⟩)) := by subst hW; go_simp
  have z2 : W.cell? ⟨w.heap.size + 1, 0, none⟩ = some (.int .i64 a) := by subst hW; go_simp
  have z3 : W.cell? ⟨w.heap.size + 1, 1, none⟩ = some (.int .i64 b) := by subst hW; go_simp
  have z4 : W.cell? ⟨w1.heap.size, 0, none⟩ = some (.int .i64 n) := by subst hW; go_simp
  have z5 : W.cell? ⟨w.heap.size, 0, none⟩ = some (.int .i64 i) := by subst hW; go_simp
  have hbW : Below w.heap.size w W := by subst hW; exact (by repeat (first | with_reducible exact Below.refl _ _ | with_reducible assumption | with_reducible refine bel_drewN ?_ | with_reducible refine bel_drew ?_ | with_reducible refine bel_alloc ?_ _ | with_reducible refine bel_set ?_ _ ?_ | with_reducible refine bel_trans ?_ (by with_reducible assumption) | ((try dsimp only); omega)))
  have s1 := hb1.size
  have s2 := hb2.size
  simp only [World.size_alloc] at s1 s2
  clear hW hc1 hf1 hc2 hf2 hb1 hb2
  have lo := fun b h1 h2 => H.newer hbW (b := b) h1 h2
  have HW := H.below hbW
  have hTW : TreeAt W p w2.heap.size 0 := ⟨t0, t1, tf, lo _ (by omega) (by omega)⟩
  have hEW : Env p [w2.heap.size + 1, w.heap.size + 1, w1.heap.size, w.heap.size] W W := fun b hb => ⟨by
    simp only [List.mem_cons, List.mem_nil_iff, or_false] at hb
    exact lo b (by omega) (by omega), rfl⟩
  have htb : w2.heap.size ∉ [w2.heap.size + 1, w.heap.size + 1, w1.heap.size, w.heap.size] := by
    simp only [List.mem_cons, List.mem_nil_iff, or_false]; omega
  have hC1 := hC.out W.drew w2.heap.size _ _ _ _ HW.drew (hTW.below HW (bel_drew (Below.refl _ _))) (fun b hb => hEW b hb) ⟨z1, z2, z3, z4, z5⟩ htb
  have hEW := hid hEW
  have hbW := hid hbW
  have htb := hid htb
  have lo := hid lo
  clear hC
  refine wp_region_can (fun w' => w'.cell? ⟨w2.heap.size + 1, 0, none⟩ = some (.pointer (some ⟨w2.heap.size, 0, none⟩)) ∧ w'.cell? ⟨w.heap.size, 0, none⟩ = some (.int .i64 i) ∧ w'.cell? ⟨w1.heap.size, 0, none⟩ = some (.int .i64 n)) [(0, false), (1, false), (2, false), (3, false), (4, false), (5, false), (6, false), (7, false), (8, true), (9, true), (10, true), (11, false), (12, false), (13, false), (14, false)] (by kernel_rfl) (by kernel_rfl) (fun _ d _ _ _ h => by cases d <;> exact h) ?_ ?_
  · exact ⟨z1, z5, z4⟩
  repeat ((with_reducible refine wpCan_isq ?_); first | (apply wpCan_read rfl (by rfl); (· intro w' hS; go_simp; with_reducible rfl); (· try simp only [Act.put, List.setIfInBounds_toArray, List.set_cons_zero, List.set_cons_succ]; with_reducible rfl)) | (apply wpCan_no rfl (by rfl); (· try simp only [Act.put, List.setIfInBounds_toArray, List.set_cons_zero, List.set_cons_succ]; with_reducible rfl)))
  rw [q1.out]
  (with_reducible refine wpCan_isl ?_); apply wpCan_step rfl (by rfl); (· go_simp; first | with_reducible rfl | exact ⟨rfl, rfl⟩); (· try simp only [Act.put, List.setIfInBounds_toArray, List.set_cons_zero, List.set_cons_succ]; with_reducible rfl); (· exact ⟨z1, z5, z4⟩)
  (with_reducible refine wpCan_isl ?_); apply wpCan_call (hC1) rfl (by rfl); (· go_simp); rintro o w3 ⟨S', r, e', rfl, H3, T3, F3, R, G⟩; apply wpCan_told; (· exact (fun V => ⟨V.t, V.i, V.n⟩) (InsEnv.at (p := p) (b1 := w2.heap.size + 1) (b2 := w.heap.size + 1) (a := a) (b := b) ⟨z1, z2, z3, z4, z5⟩ (Env.fr hEW.out F3.drewL htb.out))); (· try simp only [Act.put, List.setIfInBounds_toArray, List.set_cons_zero, List.set_cons_succ]; with_reducible rfl)
  have er : (if e' = 0 then r else 0) = r := by
    rcases R.out with ⟨q, _⟩ | ⟨q, z, _⟩
    · rw [if_pos q]
    · subst z; simp
  have HT1 := HT w3 w2.heap.size e' r T3
  rw [er] at HT1
  (with_reducible refine wpCan_isl ?_); apply wpCan_call (HT1) rfl (by rfl); (· go_simp); rintro o w4 ⟨rfl, hb4⟩; apply wpCan_told; (· exact (fun V => ⟨V.t, V.i, V.n⟩) (InsEnv.at (p := p) (b1 := w2.heap.size + 1) (b2 := w.heap.size + 1) (a := a) (b := b) ⟨z1, z2, z3, z4, z5⟩ ((Env.fr hEW.out F3.drewL htb.out).below H3 hb4))); (· try simp only [Act.put, List.setIfInBounds_toArray, List.set_cons_zero, List.set_cons_succ]; with_reducible rfl)
  repeat ((with_reducible refine wpCan_isq ?_); first | (apply wpCan_read rfl (by rfl); (· intro w' hS; go_simp; with_reducible rfl); (· try simp only [Act.put, List.setIfInBounds_toArray, List.set_cons_zero, List.set_cons_succ]; with_reducible rfl)) | (apply wpCan_no rfl (by rfl); (· try simp only [Act.put, List.setIfInBounds_toArray, List.set_cons_zero, List.set_cons_succ]; with_reducible rfl)))
  refine wpCan_nil ?_
  go_wp2
  all_goals go_ret2
  all_goals exact ⟨S', r, e', rfl, H3.below hb4, (frNew ((Fr.of_below H hbW.out).trans F3.drewL) (by omega)).trans (Fr.of_below H3 hb4), R, G⟩
end Go.Proofs.YtngfalbabgpnnaaGreat

namespace Go.Proofs.YtngfalbabgpnnaaGreat
open Go.RowKit St

/-- A node that lies written out at block b. -/
structure NdAt (w : World) (b : Nat) (x : Nd) : Prop where
  c0 : w.cell? ⟨b, 0, none⟩ = some (.int .i64 x.tag)
  c1 : w.cell? ⟨b, 1, none⟩ = some (.int .i64 x.k0)
  c2 : w.cell? ⟨b, 2, none⟩ = some (.int .i64 x.k1)
  c3 : w.cell? ⟨b, 3, none⟩ = some (.int .i64 x.k2)
  c4 : w.cell? ⟨b, 4, none⟩ = some (.int .i64 x.k3)
  c5 : w.cell? ⟨b, 5, none⟩ = some (.int .u64 x.a)
  c6 : w.cell? ⟨b, 6, none⟩ = some (.int .u64 x.b)
  fz : ∀ i, w.frozen? ⟨b, i, none⟩ = false
  lt : b < w.heap.size
theorem NdAt.below {w w' : World} {b : Nat} {x : Nd} (N : NdAt w b x) (h : Below w.heap.size w w') : NdAt w' b x := by
  obtain ⟨c0, c1, c2, c3, c4, c5, c6, fz, lt⟩ := N
  obtain ⟨hc, hf⟩ := bcell h
  exact ⟨(hc _ _ lt).trans c0, (hc _ _ lt).trans c1, (hc _ _ lt).trans c2, (hc _ _ lt).trans c3, (hc _ _ lt).trans c4, (hc _ _ lt).trans c5, (hc _ _ lt).trans c6, fun i => (hf _ i lt).trans (fz i), Nat.lt_of_lt_of_le lt h.size⟩

set_option maxHeartbeats 4000000 in
set_option maxRecDepth 100000 in
theorem lGet_list_calls (w : World) (p : Nat) (S : St) (h : Int) (l : List (Nat × Nat)) (i a b : Nat) (H : Ar w p S) (L : S.lr h l) (hl : l.length < 400000) (hi : l[i]? = some (a, b)) :
    Calls Tryz.prog 103 #[.pointer (some ⟨p, 0, none⟩), .int .i64 h, .int .i64 i] w fun o w' => o = .returned (.tuple #[.agg #[.int .i64 a, .int .i64 b], .bool true]) ∧ Below w.heap.size w w' := by
  have hil := (List.getElem?_eq_some_iff.1 hi).1
  have HL := fun w' (hb : Below w.heap.size w w') => lLen_calls w' p S h l (H.below hb) L (by omega)
  have HG := fun w' (hb : Below w.heap.size w w') => listNode_calls w' p S h (H.below hb)
  have q0 : ¬ ((i : Int) < 0) := by omega
  have q1 : ¬ ((i : Int) ≥ (l.length : Nat)) := by omega
  have q2 : ((i : Int) < (l.length : Nat)) := by omega
  rcases L with ⟨rfl, rfl⟩ | ⟨t, B, rfl⟩
  · simp at hi
  have B := hid B
  have hl := hid hl
  have hi := hid hi
  have hx := hid (rfl : S.node h = S.node h)
  unfold Nd.arr at HG
  generalize hn : t.items.length = n at *
  have hn := hid hn
  generalize hxx : S.node h = x at HG hx
  have hxx := hid hxx
  clear hx
  go_enter Tryz.func103, Tryz.ntmps103
  go_wp2_with fail
  refine (HL _ (by repeat (first | with_reducible exact Below.refl _ _ | with_reducible assumption | with_reducible refine bel_drewN ?_ | with_reducible refine bel_drew ?_ | with_reducible refine bel_alloc ?_ _ | with_reducible refine bel_set ?_ _ ?_ | with_reducible refine bel_trans ?_ (by with_reducible assumption) | ((try dsimp only); omega)))).mono ?_; rintro o1 w1 ⟨rfl, hb1⟩; obtain ⟨hc1, hf1⟩ := bcell hb1
  have zz := hb1.size; (try simp only [World.size_alloc, World.size_drew, World.size_setCell] at zz); have : w.heap.size < w1.heap.size := (by omega); clear zz
  go_wp2_with fail
  refine (HG _ (by repeat (first | with_reducible exact Below.refl _ _ | with_reducible assumption | with_reducible refine bel_drewN ?_ | with_reducible refine bel_drew ?_ | with_reducible refine bel_alloc ?_ _ | with_reducible refine bel_set ?_ _ ?_ | with_reducible refine bel_trans ?_ (by with_reducible assumption) | ((try dsimp only); omega)))).mono ?_; rintro o2 w2 ⟨rfl, hb2⟩; obtain ⟨hc2, hf2⟩ := bcell hb2
  have zz := hb2.size; (try simp only [World.size_alloc, World.size_drew, World.size_setCell] at zz); clear zz
  have q9 : w.heap.size < w2.heap.size := Nat.lt_of_lt_of_le (by assumption) hb2.size
  go_wp2
  go_loopg [1, 2] n (fun k vh vi wr => ∃ (h : Int) (i : Nat) (t : LT), vh = .int .i64 h ∧ vi = .int .i64 i ∧ Hid (k = t.items.length) ∧ Hid (S.lt h t) ∧ Hid (t.items[i]? = some (a, b)) ∧ Hid (t.items.length < 400000) ∧ Below w.heap.size w wr ∧ NdAt wr w2.heap.size (S.node h) ∧ wr.cell? ⟨w.heap.size, 0, none⟩ = some (.int .i64 0) ∧ wr.cell? ⟨w.heap.size, 1, none⟩ = some (.int .i64 0) ∧ wr.frozen? ⟨w.heap.size, 0, none⟩ = false ∧ wr.frozen? ⟨w.heap.size, 1, none⟩ = false)
  case atStart =>
    refine ⟨h, i, t, rfl, rfl, hid hn.out.symm, B, hi, hid (by rw [hn.out]; exact hl.out), (by repeat (first | with_reducible exact Below.refl _ _ | with_reducible assumption | with_reducible refine bel_drewN ?_ | with_reducible refine bel_drew ?_ | with_reducible refine bel_alloc ?_ _ | with_reducible refine bel_set ?_ _ ?_ | with_reducible refine bel_trans ?_ (by with_reducible assumption) | ((try dsimp only); omega))), ?_, by go_simp, by go_simp, by go_simp, by go_simp⟩
    rw [hxx.out]
    exact ⟨by go_simp, by go_simp, by go_simp, by go_simp, by go_simp, by go_simp, by go_simp, fun j => by go_simp, by simp⟩
  case round =>
    clear HL HG q0 q1 q2 B hl hi hn hxx hc1 hf1 hc2 hf2 hil
    obtain ⟨h, i, t, rfl, rfl, hk, B, hi, hl, hb, N, r0, r1, f0, f1⟩ := hrel
    have hN := N
    obtain ⟨c0, c1, c2, c3, c4, c5, c6, fz, lt⟩ := N
    cases t with
    | item a' b' =>
      have E := B.out.2.1
      have hi' := hi.out
      have i0 : i = 0 := by
        have := (List.getElem?_eq_some_iff.1 hi').1
        simp only [LT.items, List.length_cons, List.length_nil] at this; omega
      subst i0
      simp only [LT.items, List.getElem?_cons_zero, Option.some.injEq, Prod.mk.injEq] at hi'
      obtain ⟨rfl, rfl⟩ := hi'
      have ha := B.out.2.2.1
      have hb' := B.out.2.2.2
      have wa := i64_nat ha
      have wb := i64_nat hb'
      rw [E] at c0 c1 c2 c3 c4 c5 c6
      simp only [itemNd] at c0 c1 c2 c3 c4 c5 c6
      clear E hi hk
      have ne : w.heap.size ≠ w2.heap.size := by omega
      go_wp2
      refine bodyPost_ret (v := .tuple #[.agg #[.int .i64 a', .int .i64 b'], .bool true]) ?_ rfl ⟨rfl, (by repeat (first | with_reducible exact Below.refl _ _ | with_reducible assumption | with_reducible refine bel_drewN ?_ | with_reducible refine bel_drew ?_ | with_reducible refine bel_alloc ?_ _ | with_reducible refine bel_set ?_ _ ?_ | with_reducible refine bel_trans ?_ (by with_reducible assumption) | ((try dsimp only); omega)))⟩
      simp [results, Tryz.results103, go_sem, *]
    | join x y =>
      obtain ⟨hx, hy, E, Bx, By⟩ := B.out.2
      have hl1 := hl.out
      simp only [LT.items, List.length_append] at hl1
      have hi1 := hi.out
      simp only [LT.items] at hi1
      have hk1 := hk.out
      simp only [LT.items, List.length_append] at hk1
      have px := x.len_pos
      have py := y.len_pos
      have HL := fun w' (hb' : Below w.heap.size w w') => lLen_calls w' p S hx x.items (H.below hb') (lrOf Bx) (by omega)
      rw [E] at c0 c1 c2 c3 c4 c5 c6
      simp only [joinNd] at c0 c1 c2 c3 c4 c5 c6
      by_cases hlow : x.items.length ≤ i
      · have HG := fun w' (hb' : Below w.heap.size w w') => listNode_calls w' p S hy (H.below hb')
        unfold Nd.arr at HG
        have hii : i < 400000 := by have := (List.getElem?_eq_some_iff.1 hi.out).1; have := hl.out; omega
        have fin := hid (show y.items.length < gk ∧ S.lt hy y ∧ y.items[i - x.items.length]? = some (a, b) ∧ y.items.length < 400000 by
          refine ⟨by omega, By, ?_, by omega⟩
          rw [List.getElem?_append_right hlow] at hi1; exact hi1)
        have e1 : (i : Int) - (x.items.length : Nat) = ((i - x.items.length : Nat) : Int) := by omega
        have e2 : IntKind.i64.wrap ((i - x.items.length : Nat) : Int) = ((i - x.items.length : Nat) : Int) := i64_nat (by omega)
        have hge : (i : Int) ≥ (x.items.length : Nat) := by omega
        have hyx := hid (rfl : S.node hy = S.node hy)
        generalize hxx : S.node hy = xx at HG hyx
        have hxx := hid hxx
        clear hyx hi1 hl1 hk1 Bx By E B hi hl hk px py hN
        generalize i - x.items.length = i' at *
        generalize x.items.length + y.items.length = n at *
        generalize x.items.length = lx at *
        go_wp2_with fail
        refine (HL _ (by repeat (first | with_reducible exact Below.refl _ _ | with_reducible assumption | with_reducible refine bel_drewN ?_ | with_reducible refine bel_drew ?_ | with_reducible refine bel_alloc ?_ _ | with_reducible refine bel_set ?_ _ ?_ | with_reducible refine bel_trans ?_ (by with_reducible assumption) | ((try dsimp only); omega)))).mono ?_; rintro o3 w3 ⟨rfl, hb3⟩; obtain ⟨hc3, hf3⟩ := bcell hb3
        have zz := hb3.size; (try simp only [World.size_alloc, World.size_drew, World.size_setCell] at zz); clear zz
        have q4 : w2.heap.size < wr.heap.size := lt
        have q5 : w.heap.size < wr.heap.size := by omega
        have Hb3 := bel_trans hb hb3
        have q6 : w2.heap.size < w3.heap.size := Nat.lt_of_lt_of_le lt hb3.size
        have q7 : w.heap.size < w3.heap.size := by omega
        go_wp2_with fail
        refine (HG _ (by repeat (first | with_reducible exact Below.refl _ _ | with_reducible assumption | with_reducible refine bel_drewN ?_ | with_reducible refine bel_drew ?_ | with_reducible refine bel_alloc ?_ _ | with_reducible refine bel_set ?_ _ ?_ | with_reducible refine bel_trans ?_ (by with_reducible assumption) | ((try dsimp only); omega)))).mono ?_; rintro o4 w4 ⟨rfl, hb4⟩; obtain ⟨hc4, hf4⟩ := bcell hb4
        have Hb4 := bel_trans Hb3 hb4
        have q8 : w2.heap.size < w4.heap.size := Nat.lt_of_lt_of_le q6 hb4.size
        have ne : w.heap.size ≠ w2.heap.size := by omega
        go_wp2
        go_roundg y.items.length
        case measure => exact fin.out.1
        case rel =>
          obtain ⟨_, g1, g2, g3⟩ := fin.out
          refine ⟨hy, i', y, rfl, rfl, hid rfl, hid g1, hid g2, hid g3, (by repeat (first | with_reducible exact Below.refl _ _ | with_reducible assumption | with_reducible refine bel_drewN ?_ | with_reducible refine bel_drew ?_ | with_reducible refine bel_alloc ?_ _ | with_reducible refine bel_set ?_ _ ?_ | with_reducible refine bel_trans ?_ (by with_reducible assumption) | ((try dsimp only); omega))), ?_, by go_simp, by go_simp, by go_simp, by go_simp⟩
          rw [hxx.out]
          exact ⟨by go_simp, by go_simp, by go_simp, by go_simp, by go_simp, by go_simp, by go_simp, fun j => by go_simp, by simpa using q8⟩
      · have HG := fun w' (hb' : Below w.heap.size w w') => listNode_calls w' p S hx (H.below hb')
        unfold Nd.arr at HG
        have hii : i < 400000 := by have := (List.getElem?_eq_some_iff.1 hi.out).1; have := hl.out; omega
        have fin := hid (show x.items.length < gk ∧ S.lt hx x ∧ x.items[i]? = some (a, b) ∧ x.items.length < 400000 by
          refine ⟨by omega, Bx, ?_, by omega⟩
          rw [List.getElem?_append_left (by omega)] at hi1; exact hi1)
        have hge : ¬ (i : Int) ≥ (x.items.length : Nat) := by omega
        have hge2 : (i : Int) < (x.items.length : Nat) := by omega
        have hyx := hid (rfl : S.node hx = S.node hx)
        generalize hxx : S.node hx = xx at HG hyx
        have hxx := hid hxx
        clear hyx hi1 hl1 hk1 Bx By E B hi hl hk px py hN
        generalize x.items.length + y.items.length = n at *
        generalize hlx : x.items.length = lx at *
        have hlx := hid hlx
        go_wp2_with fail
        refine (HL _ (by repeat (first | with_reducible exact Below.refl _ _ | with_reducible assumption | with_reducible refine bel_drewN ?_ | with_reducible refine bel_drew ?_ | with_reducible refine bel_alloc ?_ _ | with_reducible refine bel_set ?_ _ ?_ | with_reducible refine bel_trans ?_ (by with_reducible assumption) | ((try dsimp only); omega)))).mono ?_; rintro o3 w3 ⟨rfl, hb3⟩; obtain ⟨hc3, hf3⟩ := bcell hb3
        have zz := hb3.size; (try simp only [World.size_alloc, World.size_drew, World.size_setCell] at zz); clear zz
        have q4 : w2.heap.size < wr.heap.size := lt
        have q5 : w.heap.size < wr.heap.size := by omega
        have Hb3 := bel_trans hb hb3
        have q6 : w2.heap.size < w3.heap.size := Nat.lt_of_lt_of_le lt hb3.size
        have q7 : w.heap.size < w3.heap.size := by omega
        go_wp2_with fail
        refine (HG _ (by repeat (first | with_reducible exact Below.refl _ _ | with_reducible assumption | with_reducible refine bel_drewN ?_ | with_reducible refine bel_drew ?_ | with_reducible refine bel_alloc ?_ _ | with_reducible refine bel_set ?_ _ ?_ | with_reducible refine bel_trans ?_ (by with_reducible assumption) | ((try dsimp only); omega)))).mono ?_; rintro o4 w4 ⟨rfl, hb4⟩; obtain ⟨hc4, hf4⟩ := bcell hb4
        have Hb4 := bel_trans Hb3 hb4
        have q8 : w2.heap.size < w4.heap.size := Nat.lt_of_lt_of_le q6 hb4.size
        have ne : w.heap.size ≠ w2.heap.size := by omega
        go_wp2
        go_roundg lx
        case measure => exact fin.out.1
        case rel =>
          obtain ⟨_, g1, g2, g3⟩ := fin.out
          refine ⟨hx, i, x, rfl, rfl, hid hlx.out.symm, hid g1, hid g2, hid (by rw [hlx.out]; exact g3), (by repeat (first | with_reducible exact Below.refl _ _ | with_reducible assumption | with_reducible refine bel_drewN ?_ | with_reducible refine bel_drew ?_ | with_reducible refine bel_alloc ?_ _ | with_reducible refine bel_set ?_ _ ?_ | with_reducible refine bel_trans ?_ (by with_reducible assumption) | ((try dsimp only); omega))), ?_, by go_simp, by go_simp, by go_simp, by go_simp⟩
          rw [hxx.out]
          exact ⟨by go_simp, by go_simp, by go_simp, by go_simp, by go_simp, by go_simp, by go_simp, fun j => by go_simp, by simpa using q8⟩

set_option maxHeartbeats 1000000 in
theorem info_item : (Tryz.prog.info? 80).map (fun i => (i.zero, i.size, i.bytes)) = some (some (.agg #[.int .i64 0, .int .i64 0]), 2, 16) := by kernel_rfl

def itemV (x : Nat × Nat) : List Value := [.int .i64 (x.1 : Int), .int .i64 (x.2 : Int)]

set_option maxHeartbeats 4000000 in
set_option maxRecDepth 100000 in
theorem lAll_calls (w : World) (p : Nat) (S : St) (h : Int) (l : List (Nat × Nat)) (H : Ar w p S) (L : S.lr h l) (hl : l.length < 400000) :
    Calls Tryz.prog 54 #[.pointer (some ⟨p, 0, none⟩), .int .i64 h] w fun e w' => ∃ v, e = .returned v ∧ w'.ownsRow w.heap.size 80 2 v l.length (l.flatMap itemV) ∧ Below w.heap.size w w' := by
  obtain ⟨i0, hi, hz0, hz1, hz2⟩ := info_parts info_item
  have HL := fun w' (hb : Below w.heap.size w w') => lLen_calls w' p S h l (H.below hb) L (by omega)
  have HG := fun w' (hb : Below w.heap.size w w') (i a b : Nat) (hi : l[i]? = some (a, b)) => lGet_list_calls w' p S h l i a b (H.below hb) L hl hi
  go_enter Tryz.func54, Tryz.ntmps54
  go_wp2_with fail
  refine (HL _ (by repeat (first | with_reducible exact Below.refl _ _ | with_reducible assumption | with_reducible refine bel_drewN ?_ | with_reducible refine bel_drew ?_ | with_reducible refine bel_alloc ?_ _ | with_reducible refine bel_set ?_ _ ?_ | with_reducible refine bel_trans ?_ (by with_reducible assumption) | ((try dsimp only); omega)))).mono ?_; rintro e w1 ⟨rfl, hb1⟩
  go_wp2
  go_loopw [5, 12] (fun v c wr => ∃ i : Nat, i ≤ l.length ∧ c = .int .i64 i ∧ Below w.heap.size w wr ∧ wr.ownsRow w.heap.size 80 2 v i ((l.take i).flatMap itemV)) (fun _ c _ => l.length - (intOf c).toNat)
  case atStart =>
    exact ⟨0, by omega, rfl, (by repeat (first | with_reducible exact Below.refl _ _ | with_reducible assumption | with_reducible refine bel_drewN ?_ | with_reducible refine bel_drew ?_ | with_reducible refine bel_alloc ?_ _ | with_reducible refine bel_set ?_ _ ?_ | with_reducible refine bel_trans ?_ (by with_reducible assumption) | ((try dsimp only); omega))), World.ownsRow_nil _ _ _ _⟩
  case round =>
    obtain ⟨i, hin, rfl, hb, ho⟩ := hrel
    have hv := ho.lt
    by_cases hil : i = l.length
    · subst hil
      rw [List.take_of_length_le (by simp)] at ho
      go_wp2
      go_ret
      exact ⟨_, rfl, ho, hb⟩
    · have hlt : i < l.length := by omega
      have hlt' : (i : Int) < (l.length : Nat) := by omega
      obtain ⟨⟨a, b⟩, hbi⟩ : ∃ b, l[i]? = some b := ⟨l[i], List.getElem?_eq_getElem hlt⟩
      have HG1 := HG wr hb i a b hbi
      have etk := hid (show (l.take i).flatMap itemV ++ [.int .i64 (a : Int), .int .i64 (b : Int)] = (l.take (i + 1)).flatMap itemV by
        rw [List.take_add_one, hbi, List.flatMap_append]; rfl)
      clear HG hbi
      go_wp2_with fail
      refine HG1.mono ?_; rintro e w2 ⟨rfl, hb2⟩
      have ho2 := own_below ho hb2
      have hb3 : Below w.heap.size w w2 := (by repeat (first | with_reducible exact Below.refl _ _ | with_reducible assumption | with_reducible refine bel_drewN ?_ | with_reducible refine bel_drew ?_ | with_reducible refine bel_alloc ?_ _ | with_reducible refine bel_set ?_ _ ?_ | with_reducible refine bel_trans ?_ (by with_reducible assumption) | ((try dsimp only); omega)))
      have hs3 := hb3.size
      clear ho hb2 hb
      go_wp2_with (at_builtin; refine wpList_append_own _ rfl (.tmp 22) (.tmp 24) 89 rfl w.heap.size 80 i0 (.agg #[.int .i64 0, .int .i64 0]) 2 16 Tryz.underlying89 hi hz0 hz1 hz2 rfl (by decide) u5 i _ rfl ((ho2.alloc _).alloc _) ⟨w2.heap.size + 1, 0, none⟩ 1 1 [.int .i64 a, .int .i64 b] rfl rfl ?c1 ?c2 (by unfold maxLen; omega) (by omega) (by simp; omega) ?_)
      case c1 => intro j u hj; match j, hj with | 0, hj => (simp at hj; subst hj; simp only [Addr.add, if_true]; go_simp) | 1, hj => (simp at hj; subst hj; simp only [Addr.add, if_true]; go_simp)
      case c2 => intro u hu; simp at hu; rcases hu with rfl | rfl <;> rfl
      intro v' w3 ho3 hg3 _
      have hb4 := below_grown (bel_alloc (bel_alloc hb3 _) _) ((ho2.alloc _).alloc _) hg3
      rw [etk.out] at ho3
      clear hg3
      go_wp2
      go_roundw
      case rel => exact ⟨i + 1, by omega, by simp, hb4, ho3⟩
      case measure => simp [intOf]; omega
end Go.Proofs.YtngfalbabgpnnaaGreat

namespace Go.Proofs.YtngfalbabgpnnaaGreat
open Go.RowKit St

theorem own_cases {w : World} {base : Nat} {e : TypeId} {size : Nat} {v : Value} {n : Nat} {xs : List Value} (h : w.ownsRow base e size v n xs) :
    (v = .slice none 0 0 ∧ n = 0 ∧ xs = []) ∨ ∃ g cap, v = .slice (some ⟨g, 0, none⟩) n cap ∧ base ≤ g ∧ g < w.heap.size ∧ n ≤ cap ∧ ∀ j x, xs[j]? = some x → w.cell? ⟨g, j, none⟩ = some x := by
  obtain ⟨h1, h2 | ⟨g, cap, cur, rfl, hb, hg, hn, _, hs, ht⟩⟩ := h
  · obtain ⟨rfl, rfl⟩ := h2
    exact Or.inl ⟨rfl, rfl, by simpa using h1⟩
  · refine Or.inr ⟨g, cap, rfl, hb, (Array.getElem?_eq_some_iff.1 hg).1, hn, fun j x hx => ?_⟩
    subst ht
    rw [List.getElem?_take] at hx
    split at hx
    · rw [World.cell?, hg]
      simpa using hx
    · cases hx
theorem flat2 {l : List (Nat × Nat)} {i : Nat} {x : Nat × Nat} (h : l[i]? = some x) : (l.flatMap itemV)[i * 2]? = some (.int .i64 (x.1 : Int)) ∧ (l.flatMap itemV)[i * 2 + 1]? = some (.int .i64 (x.2 : Int)) := by
  induction l generalizing i with
  | nil => simp at h
  | cons a r ih =>
    cases i with
    | zero => simp at h; subst h; simp [itemV]
    | succ i =>
      have := ih (i := i) (by simpa using h)
      rw [List.flatMap_cons]
      have e1 : (i + 1) * 2 = 2 + i * 2 := by omega
      have e2 : 2 + i * 2 + 1 = 2 + (i * 2 + 1) := by omega
      rw [e1, e2]
      constructor
      · rw [List.getElem?_append_right (by simp [itemV])]; simpa [itemV] using this.1
      · rw [List.getElem?_append_right (by simp [itemV])]
        rw [show 2 + (i * 2 + 1) - (itemV a).length = i * 2 + 1 by simp [itemV]]
        exact this.2

set_option maxHeartbeats 1000000 in
theorem tabLen_calls (w : World) (p : Nat) (S : St) (h : Int) (l : List (Nat × Nat)) (H : Ar w p S) (L : S.lr h l) (hl : l.length < 400000) :
    Calls Tryz.prog 75 #[.pointer (some ⟨p, 0, none⟩), .int .i64 h] w fun o w' => o = .returned (.int .i64 (l.length : Nat)) ∧ Below w.heap.size w w' := by
  have HL := lLen_calls w p S h l H L (by omega)
  go_enter Tryz.func75, Tryz.ntmps75
  go_wp2_with fail
  refine HL.mono ?_; rintro o1 w1 ⟨rfl, hb1⟩
  go_wp2
  go_ret
  exact ⟨rfl, hb1⟩

/-- Where a document's number is in a table. -/
def placeV (l : List (Nat × Nat)) (id : Int) : Value := match l.findIdx? (fun x => (x.1 : Int) == id) with
  | some i => .tuple #[.int .i64 (i : Int), .bool true]
  | none => .tuple #[.int .i64 0, .bool false]

set_option maxHeartbeats 4000000 in
set_option maxRecDepth 100000 in
theorem tabPlace_calls (w : World) (p : Nat) (S : St) (h : Int) (l : List (Nat × Nat)) (id : Int) (H : Ar w p S) (L : S.lr h l) (hl : l.length < 400000) :
    Calls Tryz.prog 63 #[.pointer (some ⟨p, 0, none⟩), .int .i64 h, .int .i64 id] w fun o w' => o = .returned (placeV l id) ∧ Below w.heap.size w w' := by
  have HL := lAll_calls w p S h l H L hl
  go_enter Tryz.func63, Tryz.ntmps63
  go_wp2_with fail
  refine HL.mono ?_; rintro o1 w1 ⟨v, rfl, ho, hb1⟩
  clear HL
  rcases own_cases ho with ⟨rfl, hn, hx⟩ | ⟨g, cap, rfl, hg, hgs, hcap, hc⟩
  · have : l = [] := List.length_eq_zero_iff.1 hn
    subst this
    go_wp2
    go_loopw [14] (fun c wr => c = .int .i64 0 ∧ Below w.heap.size w wr) (fun c _ => 0)
    case atStart => exact ⟨rfl, hb1⟩
    case round =>
      obtain ⟨rfl, hb⟩ := hrel
      go_wp2
      go_ret2
      exact ⟨rfl, hb⟩
  · clear ho
    have hcap := hid hcap
    have hc := hid hc
    go_wp2
    go_loopw [14] (fun c wr => ∃ i : Nat, i ≤ l.length ∧ c = .int .i64 i ∧ Below w1.heap.size w1 wr ∧ Hid (∀ (j : Nat) x, j < i → l[j]? = some x → ((x.1 : Int) == id) = false)) (fun c _ => l.length - (intOf c).toNat)
    case atStart => exact ⟨0, by omega, rfl, Below.refl _ _, hid (fun j x h => by omega)⟩
    case round =>
      obtain ⟨i, hin, rfl, hb, hno⟩ := hrel
      by_cases hil : i = l.length
      · have fin := hid (show placeV l id = .tuple #[.int .i64 0, .bool false] by
          have : l.findIdx? (fun x => (x.1 : Int) == id) = none := by
            rw [List.findIdx?_eq_none_iff]
            intro x hx
            obtain ⟨j, hj⟩ := List.mem_iff_getElem?.1 hx
            have hjl := (List.getElem?_eq_some_iff.1 hj).1
            exact hno.out j x (by omega) hj
          unfold placeV; rw [this])
        subst hil
        go_wp2
        go_ret2
        exact ⟨by rw [fin.out]; rfl, bel_trans hb1 hb⟩
      · have hlt : i < l.length := by omega
        have hlt' : (i : Int) < (l.length : Nat) := by omega
        obtain ⟨⟨a, b⟩, hbi⟩ : ∃ b, l[i]? = some b := ⟨l[i], List.getElem?_eq_getElem hlt⟩
        obtain ⟨f1, f2⟩ := flat2 hbi
        have z1 : wr.cell? ⟨g, i * 2, none⟩ = some (.int .i64 a) := ((bcell hb).1 g _ hgs).trans (hc.out _ _ f1)
        have z2 : wr.cell? ⟨g, i * 2 + 1, none⟩ = some (.int .i64 b) := ((bcell hb).1 g _ hgs).trans (hc.out _ _ f2)
        have hbi := hid hbi
        have hgr : g < wr.heap.size := Nat.lt_of_lt_of_le hgs hb.size
        have hi3 : i < 400000 := by omega
        clear f1 f2
        by_cases hq : (a : Int) = id
        · have fin := hid (show placeV l id = .tuple #[.int .i64 (i : Int), .bool true] by
            have : l.findIdx? (fun x => (x.1 : Int) == id) = some i := by
              rw [List.findIdx?_eq_some_iff_getElem]
              refine ⟨hlt, ?_, fun j hj => ?_⟩
              · have := List.getElem?_eq_getElem hlt
                rw [hbi.out] at this
                rw [← Option.some.inj this]; simp [hq]
              · have := hno.out j l[j] hj (List.getElem?_eq_getElem (by omega))
                simp [this]
            unfold placeV; rw [this])
          have hqb : ((a : Int) == id) = true := by simp [hq]
          subst hq
          go_wp2
          go_ret2
          exact ⟨by rw [fin.out]; rfl, bel_trans hb1 (by repeat (first | with_reducible exact Below.refl _ _ | with_reducible assumption | with_reducible refine bel_drewN ?_ | with_reducible refine bel_drew ?_ | with_reducible refine bel_alloc ?_ _ | with_reducible refine bel_set ?_ _ ?_ | with_reducible refine bel_trans ?_ (by with_reducible assumption) | ((try dsimp only); omega)))⟩
        · have hqb : ((a : Int) == id) = false := by simp [hq]
          have hno2 := hid (show ∀ (j : Nat) x, j < i + 1 → l[j]? = some x → ((x.1 : Int) == id) = false from fun j x hj hx => by
            by_cases e : j = i
            · subst e; rw [hbi.out] at hx; obtain rfl := Option.some.inj hx; exact hqb
            · exact hno.out j x (by omega) hx)
          clear hno
          go_wp2
          go_roundw
          case rel => exact ⟨i + 1, by omega, by simp, (by repeat (first | with_reducible exact Below.refl _ _ | with_reducible assumption | with_reducible refine bel_drewN ?_ | with_reducible refine bel_drew ?_ | with_reducible refine bel_alloc ?_ _ | with_reducible refine bel_set ?_ _ ?_ | with_reducible refine bel_trans ?_ (by with_reducible assumption) | ((try dsimp only); omega))), hno2⟩
          case measure => simp [intOf]; omega

theorem placeV_none {l : List (Nat × Nat)} {id : Int} (h : ∀ x ∈ l, (x.1 : Int) ≠ id) : placeV l id = .tuple #[.int .i64 0, .bool false] := by
  have : l.findIdx? (fun x => (x.1 : Int) == id) = none := by
    rw [List.findIdx?_eq_none_iff]
    intro x hx
    have := h x hx
    simp [this]
  unfold placeV; rw [this]

set_option maxHeartbeats 4000000 in
set_option maxRecDepth 100000 in
theorem tabAdd_calls (w : World) (p : Nat) (S : St) (f : Int → Nat) (h : Int) (l : List (Nat × Nat)) (id n : Nat) (H : Ar w p S) (I : S.Inv f) (sl : slack f 100000) (L : S.lr h l) (hl : l.length < 10) (h1 : 1 ≤ id) (h2 : id < 9223372036854775808) (hn : n ≤ 40) (hno : ∀ x ∈ l, x.1 ≠ id) :
    Calls Tryz.prog 46 #[.pointer (some ⟨p, 0, none⟩), .int .i64 h, .int .i64 id, .int .i64 n] w fun o w' => ∃ S' r e', o = .returned (.tuple #[.int .i64 r, .int .i64 e']) ∧ Ar w' p S' ∧ Fr [] p w w' ∧
      Res S f 0 S' r e' (3 * l.length + 4) ∧ (e' = 0 → S'.lr r (l ++ [(id, n)])) := by
  have HL := fun w' (hb : Below w.heap.size w w') => tabLen_calls w' p S h l (H.below hb) L (by omega)
  have HP := fun w' (hb : Below w.heap.size w w') => tabPlace_calls w' p S h l id (H.below hb) L (by omega)
  rw [placeV_none (fun x hx q => hno x hx (by omega))] at HP
  have HI := fun w' (hb : Below w.heap.size w w') => lInsert_calls w' p S f h l l.length id n (H.below hb) I sl L (by omega) (by omega) h2 (by omega)
  have ei : ins l l.length (id, n) = l ++ [(id, n)] := by simp [ins]
  rw [ei] at HI
  have q1 : ¬ (id : Int) < 1 := by omega
  have q2 : ¬ (n : Int) < 0 := by omega
  have q3 : ¬ (n : Int) > 40 := by omega
  have q3' : (n : Int) ≤ 40 := by omega
  have q4 : ¬ ((l.length : Nat) : Int) ≥ 10 := by omega
  have q5 : ((l.length : Nat) : Int) < 10 := by omega
  clear L hno ei
  generalize hll : l.length = m at *
  have hll := hid hll
  go_enter Tryz.func46, Tryz.ntmps46
  go_wp2_with fail
  refine (HL _ (by repeat (first | with_reducible exact Below.refl _ _ | with_reducible assumption | with_reducible refine bel_drewN ?_ | with_reducible refine bel_drew ?_ | with_reducible refine bel_alloc ?_ _ | with_reducible refine bel_set ?_ _ ?_ | with_reducible refine bel_trans ?_ (by with_reducible assumption) | ((try dsimp only); omega)))).mono ?_; rintro o1 w1 ⟨rfl, hb1⟩
  go_wp2_with fail
  refine (HP _ (by repeat (first | with_reducible exact Below.refl _ _ | with_reducible assumption | with_reducible refine bel_drewN ?_ | with_reducible refine bel_drew ?_ | with_reducible refine bel_alloc ?_ _ | with_reducible refine bel_set ?_ _ ?_ | with_reducible refine bel_trans ?_ (by with_reducible assumption) | ((try dsimp only); omega)))).mono ?_; rintro o2 w2 ⟨rfl, hb2⟩
  have hb3 := bel_trans hb1 hb2
  go_wp2_with fail
  refine (HI _ (by repeat (first | with_reducible exact Below.refl _ _ | with_reducible assumption | with_reducible refine bel_drewN ?_ | with_reducible refine bel_drew ?_ | with_reducible refine bel_alloc ?_ _ | with_reducible refine bel_set ?_ _ ?_ | with_reducible refine bel_trans ?_ (by with_reducible assumption) | ((try dsimp only); omega)))).mono ?_; rintro o3 w3 ⟨S', r, e', rfl, H3, F3, R, G⟩
  go_wp2
  go_ret2
  exact ⟨S', r, e', rfl, H3, (Fr.of_below H hb3).trans F3, R, G⟩
end Go.Proofs.YtngfalbabgpnnaaGreat
