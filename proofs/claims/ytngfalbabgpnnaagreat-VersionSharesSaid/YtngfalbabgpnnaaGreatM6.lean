/-
  The walks of package bits: a bit, how many are 1.
  The walks of package bits: all bits.
  The walks of the makers of rows of bits: keep, drop.
  The walk of tree.node.
  tree.node by the invariant; leaves.
  The walk of tree.pair.
-/
import Derived.Test.YtngfalbabgpnnaaGreatM2
import Derived.Test.YtngfalbabgpnnaaGreatM5
set_option linter.unusedVariables false
set_option linter.unusedSimpArgs false
namespace Go.Proofs.YtngfalbabgpnnaaGreat
open Go.RowKit

theorem brFat {S : St} {h : Int} {t : BT} (B : S.bt h t) (o : t.fat) : S.br h t.bits := Or.inr ⟨t, B, o.ok, rfl⟩
theorem brOk {S : St} {h : Int} {t : BT} (B : S.bt h t) (o : t.ok) : S.br h t.bits := Or.inr ⟨t, B, o, rfl⟩

set_option maxHeartbeats 4000000 in
set_option maxRecDepth 100000 in
theorem Get_bit_calls (w : World) (p : Nat) (S : St) (h : Int) (l : List Bool) (i : Nat) (b : Bool) (H : Ar w p S) (B : S.br h l) (hl : l.length < 1000000) (hi : l[i]? = some b) :
    Calls Tryz.prog 105 #[.pointer (some ⟨p, 0, none⟩), .int .i64 h, .int .i64 i] w fun e w' => e = .returned (.tuple #[.bool b, .bool true]) ∧ Below w.heap.size w w' := by
  rcases B with ⟨rfl, rfl⟩ | ⟨t, h1, h2, rfl⟩
  · simp at hi
  have hil := (List.getElem?_eq_some_iff.1 hi).1
  have HL := fun w' (hb : Below w.heap.size w w') => Len_calls w' p S h t.bits (H.below hb) (brOk h1 h2) (by omega)
  have q0 : ¬ ((i : Int) < 0) := by omega
  have q1 : ((i : Int) ≥ (t.bits.length : Nat)) = False := by simp; omega
  have hi := hid hi
  have h1 := hid h1
  go_enter Tryz.func105, Tryz.ntmps105
  go_wp2
  refine wp_scope_fuel 0 (fun k a w' => ∃ (h : Int) (i : Nat) (t : BT), (∃ u : Nat → Value, a = { tmps := #[.pointer (some ⟨p, 0, none⟩), .int .i64 h, .int .i64 i, u 3, u 4, u 5, .bool false, .bool false, u 8, u 9, u 10, u 11, u 12, u 13, u 14, u 15, u 16, u 17, u 18, u 19, u 20, u 21, u 22, u 23, u 24, u 25, u 26, u 27, u 28, u 29, u 30, u 31, u 32, u 33, u 34, u 35, u 36, u 37, u 38, u 39, u 40, u 41, u 42, u 43, u 44, u 45, u 46, u 47], defers := [] }) ∧ Below w.heap.size w w' ∧ Hid (t.leaves = k) ∧ Hid (S.bt h t) ∧ Hid t.ok ∧ Hid (t.bits.length < 1000000) ∧ Hid (t.bits[i]? = some b)) rfl ?_ ?_
  · rintro k a w1 ⟨h, i, t, ⟨u, rfl⟩, hb1, ek, B, o, hl, hi⟩
    cases t with
    | leaf l =>
      have HG := fun w' (hb : Below w.heap.size w w') => row_leaf w' p S h l (H.below hb) B.out
      have hl64 := B.out.2.2
      have HB := fun w' => bitsBits_calls w' l hl64
      have HR := fun w' => lGet_calls w' l i hl64
      have eb := hid (show lGet l i = b by have := hi.out; simp only [BT.bits] at this; simp [lGet, List.getD, this])
      generalize lGet l i = b' at *
      unfold leafNd Nd.arr at HG HB
      unfold lfV at HB HR
      generalize l.length = n at *
      generalize bitsOf l = c at *
      go_wp2_with fail
      refine (HG _ (by repeat (first | with_reducible exact Below.refl _ _ | with_reducible assumption | with_reducible refine bel_drewN ?_ | with_reducible refine bel_drew ?_ | with_reducible refine bel_alloc ?_ _ | with_reducible refine bel_set ?_ _ ?_ | with_reducible refine bel_trans ?_ (by with_reducible assumption) | ((try dsimp only); omega)))).mono ?_; rintro e w2 ⟨rfl, hb2⟩; obtain ⟨hc2, hf2⟩ := bcell hb2
      go_wp2_with fail
      refine (HB _).mono ?_; rintro e w3 ⟨rfl, hb3⟩; obtain ⟨hc3, hf3⟩ := bcell hb3
      go_wp2_with fail
      refine (HR _).mono ?_; rintro e w4 ⟨rfl, hb4⟩; obtain ⟨hc4, hf4⟩ := bcell hb4
      go_wp2
      simp only [Exit.jump]
      go_ret2
      have e1 := eb.out
      refine ⟨by rw [e1]; rfl, (by repeat (first | with_reducible exact Below.refl _ _ | with_reducible assumption | with_reducible refine bel_drewN ?_ | with_reducible refine bel_drew ?_ | with_reducible refine bel_alloc ?_ _ | with_reducible refine bel_set ?_ _ ?_ | with_reducible refine bel_trans ?_ (by with_reducible assumption) | ((try dsimp only); omega)))⟩
    | fork x y =>
      obtain ⟨hx, hy, E, Bx, By⟩ := B.out.2
      have HG := fun w' (hb : Below w.heap.size w w') => row_fork w' p S h hx hy x y _ _ (H.below hb) B.out E
      obtain ⟨fx, fy⟩ := o.out
      have hl1 := hl.out
      simp only [BT.bits, List.length_append] at hl1
      have HL := fun w' (hb : Below w.heap.size w w') => Len_calls w' p S hx x.bits (H.below hb) (brFat Bx fx) (by omega)
      have ek1 := ek.out
      simp only [BT.leaves] at ek1
      have px := x.leaves_pos
      have py := y.leaves_pos
      have hi1 := hi.out
      simp only [BT.bits] at hi1
      unfold forkNd Nd.arr at HG
      by_cases hlow : x.bits.length ≤ i
      · have J := hid (⟨hy, i - x.bits.length, y, rfl⟩ : ∃ (h : Int) (i : Nat) (t : BT), h = h)
        have fin := hid (show y.leaves < k ∧ S.bt hy y ∧ y.ok ∧ y.bits.length < 1000000 ∧ y.bits[i - x.bits.length]? = some b by
          refine ⟨by omega, By, fy.ok, by omega, ?_⟩
          rw [List.getElem?_append_right hlow] at hi1; exact hi1)
        have e1 : (i : Int) - (x.bits.length : Nat) = ((i - x.bits.length : Nat) : Int) := by omega
        have hil : i < 1000000 := by
          have := (List.getElem?_eq_some_iff.1 hi.out).1
          have := hl.out; omega
        clear hi1 ek1 hl1 fx fy Bx By E B o hi hl ek
        generalize i - x.bits.length = i' at *
        generalize x.bits.length + y.bits.length = n at *
        generalize List.count true x.bits + List.count true y.bits = o at *
        generalize x.bits.length = lx at *
        go_wp2_with fail
        refine (HG _ (by repeat (first | with_reducible exact Below.refl _ _ | with_reducible assumption | with_reducible refine bel_drewN ?_ | with_reducible refine bel_drew ?_ | with_reducible refine bel_alloc ?_ _ | with_reducible refine bel_set ?_ _ ?_ | with_reducible refine bel_trans ?_ (by with_reducible assumption) | ((try dsimp only); omega)))).mono ?_; rintro e w2 ⟨rfl, hb2⟩; obtain ⟨hc2, hf2⟩ := bcell hb2
        go_wp2_with fail
        refine (HL _ (by repeat (first | with_reducible exact Below.refl _ _ | with_reducible assumption | with_reducible refine bel_drewN ?_ | with_reducible refine bel_drew ?_ | with_reducible refine bel_alloc ?_ _ | with_reducible refine bel_set ?_ _ ?_ | with_reducible refine bel_trans ?_ (by with_reducible assumption) | ((try dsimp only); omega)))).mono ?_; rintro e w3 ⟨rfl, hb3⟩; obtain ⟨hc3, hf3⟩ := bcell hb3
        go_wp2
        go_step3
        obtain ⟨f1, f2, f3, f4, f5⟩ := fin.out
        exact ⟨rfl, _, f1, hy, i', y, mk_u (a := Act.mk _ _) rfl, (by repeat (first | with_reducible exact Below.refl _ _ | with_reducible assumption | with_reducible refine bel_drewN ?_ | with_reducible refine bel_drew ?_ | with_reducible refine bel_alloc ?_ _ | with_reducible refine bel_set ?_ _ ?_ | with_reducible refine bel_trans ?_ (by with_reducible assumption) | ((try dsimp only); omega))), hid rfl, hid f2, hid f3, hid f4, hid f5⟩
      · have fin := hid (show x.leaves < k ∧ S.bt hx x ∧ x.ok ∧ x.bits.length < 1000000 ∧ x.bits[i]? = some b by
          refine ⟨by omega, Bx, fx.ok, by omega, ?_⟩
          rw [List.getElem?_append_left (by omega)] at hi1; exact hi1)
        have hlow2 : ¬ ((x.bits.length : Nat) : Int) ≤ (i : Int) := by omega
        have hlow3 : (i : Int) < ((x.bits.length : Nat) : Int) := by omega
        clear hi1 ek1 hl1 fx fy Bx By E B o hi hl ek hlow
        generalize x.bits.length + y.bits.length = n at *
        generalize List.count true x.bits + List.count true y.bits = o at *
        generalize hlx : x.bits.length = lx at *
        have hlx := hid hlx
        go_wp2_with fail
        refine (HG _ (by repeat (first | with_reducible exact Below.refl _ _ | with_reducible assumption | with_reducible refine bel_drewN ?_ | with_reducible refine bel_drew ?_ | with_reducible refine bel_alloc ?_ _ | with_reducible refine bel_set ?_ _ ?_ | with_reducible refine bel_trans ?_ (by with_reducible assumption) | ((try dsimp only); omega)))).mono ?_; rintro e w2 ⟨rfl, hb2⟩; obtain ⟨hc2, hf2⟩ := bcell hb2
        go_wp2_with fail
        refine (HL _ (by repeat (first | with_reducible exact Below.refl _ _ | with_reducible assumption | with_reducible refine bel_drewN ?_ | with_reducible refine bel_drew ?_ | with_reducible refine bel_alloc ?_ _ | with_reducible refine bel_set ?_ _ ?_ | with_reducible refine bel_trans ?_ (by with_reducible assumption) | ((try dsimp only); omega)))).mono ?_; rintro e w3 ⟨rfl, hb3⟩; obtain ⟨hc3, hf3⟩ := bcell hb3
        go_wp2
        go_step3
        obtain ⟨f1, f2, f3, f4, f5⟩ := fin.out
        exact ⟨rfl, _, f1, hx, i, x, mk_u (a := Act.mk _ _) rfl, (by repeat (first | with_reducible exact Below.refl _ _ | with_reducible assumption | with_reducible refine bel_drewN ?_ | with_reducible refine bel_drew ?_ | with_reducible refine bel_alloc ?_ _ | with_reducible refine bel_set ?_ _ ?_ | with_reducible refine bel_trans ?_ (by with_reducible assumption) | ((try dsimp only); omega))), hid rfl, hid f2, hid f3, hid (hlx.out ▸ f4), hid f5⟩
  · intro hp
    go_wp2_with fail
    refine (HL _ (by repeat (first | with_reducible exact Below.refl _ _ | with_reducible assumption | with_reducible refine bel_drewN ?_ | with_reducible refine bel_drew ?_ | with_reducible refine bel_alloc ?_ _ | with_reducible refine bel_set ?_ _ ?_ | with_reducible refine bel_trans ?_ (by with_reducible assumption) | ((try dsimp only); omega)))).mono ?_; rintro e w2 ⟨rfl, hb2⟩
    go_wp2
    go_step3
    rename_i hK
    exact hK _ _ (hp _ _ _ ⟨h, i, t, mk_u (a := Act.mk _ _) rfl, (by repeat (first | with_reducible exact Below.refl _ _ | with_reducible assumption | with_reducible refine bel_drewN ?_ | with_reducible refine bel_drew ?_ | with_reducible refine bel_alloc ?_ _ | with_reducible refine bel_set ?_ _ ?_ | with_reducible refine bel_trans ?_ (by with_reducible assumption) | ((try dsimp only); omega))), hid rfl, h1, hid h2, hid hl, hi⟩)

set_option maxHeartbeats 4000000 in
set_option maxRecDepth 100000 in
theorem Rank_bits_calls (w : World) (p : Nat) (S : St) (h : Int) (l : List Bool) (m : Nat) (H : Ar w p S) (B : S.br h l) (hl : l.length < 1000000) (hm : m ≤ l.length) :
    Calls Tryz.prog 116 #[.pointer (some ⟨p, 0, none⟩), .int .i64 h, .int .i64 m] w fun e w' => e = .returned (.int .i64 ((l.take m).count true : Nat)) ∧ Below w.heap.size w w' := by
  have HL := fun w' (hb : Below w.heap.size w w') => Len_calls w' p S h l (H.below hb) B (by omega)
  have q0 : ¬ ((m : Int) < 0) := by omega
  have q1 : max (m : Int) 0 = m := by omega
  have q2 : min (m : Int) (l.length : Nat) = m := by omega
  by_cases hz : m = 0
  · subst hz
    rw [List.take_zero, List.count_nil]
    go_enter Tryz.func116, Tryz.ntmps116
    go_wp2
    refine wp_scope_fuel 0 (fun _ _ _ => False) rfl (fun _ _ _ h => h.elim) ?_
    intro _
    go_wp2_with fail
    refine (HL _ (by repeat (first | with_reducible exact Below.refl _ _ | with_reducible assumption | with_reducible refine bel_drewN ?_ | with_reducible refine bel_drew ?_ | with_reducible refine bel_alloc ?_ _ | with_reducible refine bel_set ?_ _ ?_ | with_reducible refine bel_trans ?_ (by with_reducible assumption) | ((try dsimp only); omega)))).mono ?_; rintro e w2 ⟨rfl, hb2⟩
    go_wp2
    simp only [Exit.jump]
    go_ret
    exact ⟨rfl, (by repeat (first | with_reducible exact Below.refl _ _ | with_reducible assumption | with_reducible refine bel_drewN ?_ | with_reducible refine bel_drew ?_ | with_reducible refine bel_alloc ?_ _ | with_reducible refine bel_set ?_ _ ?_ | with_reducible refine bel_trans ?_ (by with_reducible assumption) | ((try dsimp only); omega)))⟩
  rcases B with ⟨rfl, rfl⟩ | ⟨t, h1, h2, rfl⟩
  · simp at hm; omega
  have hzz : ((m : Int) == 0) = false := by simp; exact hz
  have h1 := hid h1
  have hm := hid hm
  generalize hg : (t.bits.take m).count true = g at *
  go_enter Tryz.func116, Tryz.ntmps116
  go_wp2
  refine wp_scope_fuel 0 (fun k a w' => ∃ (h : Int) (i s : Nat) (t : BT), (∃ u : Nat → Value, a = { tmps := #[.pointer (some ⟨p, 0, none⟩), .int .i64 h, .int .i64 i, u 3, u 4, u 5, .int .i64 0, .int .i64 s, u 8, u 9, u 10, u 11, u 12, u 13, u 14, u 15, u 16, u 17, u 18, u 19, u 20, u 21, u 22, u 23, u 24, u 25, u 26, u 27, u 28, u 29, u 30, u 31, u 32, u 33, u 34, u 35, u 36, u 37, u 38, u 39, u 40, u 41, u 42, u 43, u 44, u 45, u 46, u 47, u 48, u 49, u 50, u 51, u 52, u 53], defers := [] }) ∧ Below w.heap.size w w' ∧ Hid (t.leaves = k) ∧ Hid (S.bt h t) ∧ Hid t.ok ∧ Hid (s + t.bits.length < 1000000) ∧ Hid (1 ≤ i ∧ i ≤ t.bits.length ∧ s + (t.bits.take i).count true = g)) rfl ?_ ?_
  · clear HL q0 q1 q2 hzz
    rintro k a w1 ⟨h, i, s, t, ⟨u, rfl⟩, hb1, ek, B, o, hl, hi⟩
    cases t with
    | leaf l =>
      have HG := fun w' (hb : Below w.heap.size w w') => row_leaf w' p S h l (H.below hb) B.out
      have hl64 := B.out.2.2
      have HB := fun w' => bitsBits_calls w' l hl64
      have HR := fun w' => lRank_calls w' l i hl64 hi.out.2.1
      have fin := hid hi.out.2.2
      have hs := hl.out
      have hc : (l.take i).count true ≤ l.length := Nat.le_trans List.count_le_length (by rw [List.length_take]; omega)
      simp only [BT.bits] at fin hs
      clear hi B o hl ek
      generalize (l.take i).count true = c1 at *
      unfold leafNd Nd.arr at HG HB
      unfold lfV at HB HR
      generalize l.length = n at *
      generalize bitsOf l = c at *
      go_wp2_with fail
      refine (HG _ (by repeat (first | with_reducible exact Below.refl _ _ | with_reducible assumption | with_reducible refine bel_drewN ?_ | with_reducible refine bel_drew ?_ | with_reducible refine bel_alloc ?_ _ | with_reducible refine bel_set ?_ _ ?_ | with_reducible refine bel_trans ?_ (by with_reducible assumption) | ((try dsimp only); omega)))).mono ?_; rintro e w2 ⟨rfl, hb2⟩; obtain ⟨hc2, hf2⟩ := bcell hb2
      go_wp2_with fail
      refine (HB _).mono ?_; rintro e w3 ⟨rfl, hb3⟩; obtain ⟨hc3, hf3⟩ := bcell hb3
      go_wp2_with fail
      refine (HR _).mono ?_; rintro e w4 ⟨rfl, hb4⟩; obtain ⟨hc4, hf4⟩ := bcell hb4
      go_wp2
      simp only [Exit.jump]
      go_ret
      have e1 := fin.out
      exact ⟨congrArg (fun z => Ending.returned (.int .i64 z)) (show ((s : Int) + c1) = (g : Nat) by omega), (by repeat (first | with_reducible exact Below.refl _ _ | with_reducible assumption | with_reducible refine bel_drewN ?_ | with_reducible refine bel_drew ?_ | with_reducible refine bel_alloc ?_ _ | with_reducible refine bel_set ?_ _ ?_ | with_reducible refine bel_trans ?_ (by with_reducible assumption) | ((try dsimp only); omega)))⟩
    | fork x y =>
      obtain ⟨hx, hy, E, Bx, By⟩ := B.out.2
      have HG := fun w' (hb : Below w.heap.size w w') => row_fork w' p S h hx hy x y _ _ (H.below hb) B.out E
      obtain ⟨fx, fy⟩ := o.out
      have hl1 := hl.out
      simp only [BT.bits, List.length_append] at hl1
      have HL := fun w' (hb : Below w.heap.size w w') => Len_calls w' p S hx x.bits (H.below hb) (brFat Bx fx) (by omega)
      have HO := fun w' (hb : Below w.heap.size w w') => ones_calls w' p S hx x.bits (H.below hb) (brFat Bx fx) (by omega)
      have ek1 := ek.out
      simp only [BT.leaves] at ek1
      have px := x.leaves_pos
      have py := y.leaves_pos
      obtain ⟨i1, i2, i3⟩ := hi.out
      simp only [BT.bits, List.length_append] at i2 i3
      have hc := List.count_le_length (a := true) (l := x.bits)
      unfold forkNd Nd.arr at HG
      by_cases hlow : x.bits.length < i
      · have fin := hid (show y.leaves < k ∧ S.bt hy y ∧ y.ok ∧ (s + x.bits.count true) + y.bits.length < 1000000 ∧ 1 ≤ i - x.bits.length ∧ i - x.bits.length ≤ y.bits.length ∧ (s + x.bits.count true) + (y.bits.take (i - x.bits.length)).count true = g by
          refine ⟨by omega, By, fy.ok, by omega, by omega, by omega, ?_⟩
          rw [List.take_append, List.take_of_length_le (by omega), List.count_append] at i3; omega)
        have e1 : (i : Int) - (x.bits.length : Nat) = ((i - x.bits.length : Nat) : Int) := by omega
        have e2 : (s : Int) + (x.bits.count true : Nat) = ((s + x.bits.count true : Nat) : Int) := by omega
        have e3 : (i : Int) > (x.bits.length : Nat) := by omega
        have e4 : i < 1000000 ∧ s + x.bits.count true < 1000000 := by omega
        clear i1 i2 i3 ek1 hl1 fx fy Bx By E B o hi hl ek hc hlow
        generalize i - x.bits.length = i' at *
        generalize x.bits.length + y.bits.length = n at *
        generalize List.count true x.bits + List.count true y.bits = o at *
        generalize s + x.bits.count true = s' at *
        generalize x.bits.count true = cx at *
        generalize x.bits.length = lx at *
        go_wp2_with fail
        refine (HG _ (by repeat (first | with_reducible exact Below.refl _ _ | with_reducible assumption | with_reducible refine bel_drewN ?_ | with_reducible refine bel_drew ?_ | with_reducible refine bel_alloc ?_ _ | with_reducible refine bel_set ?_ _ ?_ | with_reducible refine bel_trans ?_ (by with_reducible assumption) | ((try dsimp only); omega)))).mono ?_; rintro e w2 ⟨rfl, hb2⟩; obtain ⟨hc2, hf2⟩ := bcell hb2
        go_wp2_with fail
        refine (HL _ (by repeat (first | with_reducible exact Below.refl _ _ | with_reducible assumption | with_reducible refine bel_drewN ?_ | with_reducible refine bel_drew ?_ | with_reducible refine bel_alloc ?_ _ | with_reducible refine bel_set ?_ _ ?_ | with_reducible refine bel_trans ?_ (by with_reducible assumption) | ((try dsimp only); omega)))).mono ?_; rintro e w3 ⟨rfl, hb3⟩; obtain ⟨hc3, hf3⟩ := bcell hb3
        have zz := hb3.size; (try simp only [World.size_alloc, World.size_drew, World.size_setCell] at zz); have : w2.heap.size < w3.heap.size := (by omega); clear zz
        go_wp2_with fail
        refine (HO _ (by repeat (first | with_reducible exact Below.refl _ _ | with_reducible assumption | with_reducible refine bel_drewN ?_ | with_reducible refine bel_drew ?_ | with_reducible refine bel_alloc ?_ _ | with_reducible refine bel_set ?_ _ ?_ | with_reducible refine bel_trans ?_ (by with_reducible assumption) | ((try dsimp only); omega)))).mono ?_; rintro e w4 ⟨rfl, hb4⟩; obtain ⟨hc4, hf4⟩ := bcell hb4
        go_wp2
        go_step3
        obtain ⟨f1, f2, f3, f4, f5⟩ := fin.out
        exact ⟨rfl, _, f1, hy, i', s', y, mk_u (a := Act.mk _ _) rfl, (by repeat (first | with_reducible exact Below.refl _ _ | with_reducible assumption | with_reducible refine bel_drewN ?_ | with_reducible refine bel_drew ?_ | with_reducible refine bel_alloc ?_ _ | with_reducible refine bel_set ?_ _ ?_ | with_reducible refine bel_trans ?_ (by with_reducible assumption) | ((try dsimp only); omega))), hid rfl, hid f2, hid f3, hid f4, hid f5⟩
      · have fin := hid (show x.leaves < k ∧ S.bt hx x ∧ x.ok ∧ s + x.bits.length < 1000000 ∧ 1 ≤ i ∧ i ≤ x.bits.length ∧ s + (x.bits.take i).count true = g by
          refine ⟨by omega, Bx, fx.ok, by omega, by omega, by omega, ?_⟩
          rw [List.take_append_of_le_length (by omega)] at i3; exact i3)
        have hlow2 : ¬ ((x.bits.length : Nat) : Int) < (i : Int) := by omega
        have hlow3 : (i : Int) ≤ ((x.bits.length : Nat) : Int) := by omega
        clear i1 i2 i3 ek1 hl1 fx fy Bx By E B o hi hl ek hc hlow HO
        generalize x.bits.length + y.bits.length = n at *
        generalize List.count true x.bits + List.count true y.bits = o at *
        generalize hlx : x.bits.length = lx at *
        have hlx := hid hlx
        go_wp2_with fail
        refine (HG _ (by repeat (first | with_reducible exact Below.refl _ _ | with_reducible assumption | with_reducible refine bel_drewN ?_ | with_reducible refine bel_drew ?_ | with_reducible refine bel_alloc ?_ _ | with_reducible refine bel_set ?_ _ ?_ | with_reducible refine bel_trans ?_ (by with_reducible assumption) | ((try dsimp only); omega)))).mono ?_; rintro e w2 ⟨rfl, hb2⟩; obtain ⟨hc2, hf2⟩ := bcell hb2
        go_wp2_with fail
        refine (HL _ (by repeat (first | with_reducible exact Below.refl _ _ | with_reducible assumption | with_reducible refine bel_drewN ?_ | with_reducible refine bel_drew ?_ | with_reducible refine bel_alloc ?_ _ | with_reducible refine bel_set ?_ _ ?_ | with_reducible refine bel_trans ?_ (by with_reducible assumption) | ((try dsimp only); omega)))).mono ?_; rintro e w3 ⟨rfl, hb3⟩; obtain ⟨hc3, hf3⟩ := bcell hb3
        go_wp2
        go_step3
        obtain ⟨f1, f2, f3, f4, f5, f6, f7⟩ := fin.out
        have ee := hlx.out
        exact ⟨rfl, _, f1, hx, i, s, x, mk_u (a := Act.mk _ _) rfl, (by repeat (first | with_reducible exact Below.refl _ _ | with_reducible assumption | with_reducible refine bel_drewN ?_ | with_reducible refine bel_drew ?_ | with_reducible refine bel_alloc ?_ _ | with_reducible refine bel_set ?_ _ ?_ | with_reducible refine bel_trans ?_ (by with_reducible assumption) | ((try dsimp only); omega))), hid rfl, hid f2, hid f3, hid (by omega), hid ⟨f5, by omega, f7⟩⟩
  · intro hp
    go_wp2_with fail
    refine (HL _ (by repeat (first | with_reducible exact Below.refl _ _ | with_reducible assumption | with_reducible refine bel_drewN ?_ | with_reducible refine bel_drew ?_ | with_reducible refine bel_alloc ?_ _ | with_reducible refine bel_set ?_ _ ?_ | with_reducible refine bel_trans ?_ (by with_reducible assumption) | ((try dsimp only); omega)))).mono ?_; rintro e w2 ⟨rfl, hb2⟩
    go_wp2
    go_step3
    rename_i hK
    exact hK _ _ (hp _ _ _ ⟨h, m, 0, t, mk_u (a := Act.mk _ _) rfl, (by repeat (first | with_reducible exact Below.refl _ _ | with_reducible assumption | with_reducible refine bel_drewN ?_ | with_reducible refine bel_drew ?_ | with_reducible refine bel_alloc ?_ _ | with_reducible refine bel_set ?_ _ ?_ | with_reducible refine bel_trans ?_ (by with_reducible assumption) | ((try dsimp only); omega))), hid rfl, h1, hid h2, hid (by omega), hid ⟨by omega, hm.out, by rw [hg]; omega⟩⟩)
end Go.Proofs.YtngfalbabgpnnaaGreat

namespace Go.Proofs.YtngfalbabgpnnaaGreat
open Go.RowKit

theorem info_bool1 : (Tryz.prog.info? 4).map (fun i => (i.zero, i.size, i.bytes)) = some (some (.bool false), 1, 1) := by kernel_rfl

set_option maxHeartbeats 4000000 in
set_option maxRecDepth 100000 in
theorem All_bits_calls (w : World) (p : Nat) (S : St) (h : Int) (l : List Bool) (H : Ar w p S) (B : S.br h l) (hl : l.length < 1000000) :
    Calls Tryz.prog 59 #[.pointer (some ⟨p, 0, none⟩), .int .i64 h] w fun e w' => ∃ v, e = .returned v ∧ w'.ownsRow w.heap.size 4 1 v l.length (l.map .bool) ∧ Below w.heap.size w w' := by
  obtain ⟨i0, hi, hz0, hz1, hz2⟩ := info_parts info_bool1
  have HL := fun w' (hb : Below w.heap.size w w') => Len_calls w' p S h l (H.below hb) B (by omega)
  have HG := fun w' (hb : Below w.heap.size w w') (i : Nat) (b : Bool) (hi : l[i]? = some b) => Get_bit_calls w' p S h l i b (H.below hb) B hl hi
  go_enter Tryz.func59, Tryz.ntmps59
  go_wp2_with fail
  refine (HL _ (by repeat (first | with_reducible exact Below.refl _ _ | with_reducible assumption | with_reducible refine bel_drewN ?_ | with_reducible refine bel_drew ?_ | with_reducible refine bel_alloc ?_ _ | with_reducible refine bel_set ?_ _ ?_ | with_reducible refine bel_trans ?_ (by with_reducible assumption) | ((try dsimp only); omega)))).mono ?_; rintro e w1 ⟨rfl, hb1⟩
  go_wp2
  go_loopw [5, 12] (fun v c wr => ∃ i : Nat, i ≤ l.length ∧ c = .int .i64 i ∧ Below w.heap.size w wr ∧ wr.ownsRow w.heap.size 4 1 v i ((l.take i).map .bool)) (fun _ c _ => l.length - (intOf c).toNat)
  case atStart =>
    exact ⟨0, by omega, rfl, (by repeat (first | with_reducible exact Below.refl _ _ | with_reducible assumption | with_reducible refine bel_drewN ?_ | with_reducible refine bel_drew ?_ | with_reducible refine bel_alloc ?_ _ | with_reducible refine bel_set ?_ _ ?_ | with_reducible refine bel_trans ?_ (by with_reducible assumption) | ((try dsimp only); omega))), World.ownsRow_nil _ _ _ _⟩
  case round =>
    obtain ⟨i, hin, rfl, hb, ho⟩ := hrel
    have hv := ho.lt
    by_cases hil : i = l.length
    · subst hil
      rw [List.take_of_length_le (by simp)] at ho
      go_wp2
      go_ret
      exact ⟨_, rfl, ho, hb⟩
    · have hlt : i < l.length := by omega
      have hlt' : (i : Int) < (l.length : Nat) := by omega
      obtain ⟨b, hbi⟩ : ∃ b, l[i]? = some b := ⟨l[i], List.getElem?_eq_getElem hlt⟩
      have HG1 := HG wr hb i b hbi
      have etk := hid (show (l.map Value.bool).take i ++ [.bool b] = (l.map .bool).take (i + 1) by
        rw [List.take_add_one, List.getElem?_map, hbi]; rfl)
      clear HG hbi
      go_wp2_with fail
      refine HG1.mono ?_; rintro e w2 ⟨rfl, hb2⟩
      have ho2 := own_below ho hb2
      have hb3 : Below w.heap.size w w2 := (by repeat (first | with_reducible exact Below.refl _ _ | with_reducible assumption | with_reducible refine bel_drewN ?_ | with_reducible refine bel_drew ?_ | with_reducible refine bel_alloc ?_ _ | with_reducible refine bel_set ?_ _ ?_ | with_reducible refine bel_trans ?_ (by with_reducible assumption) | ((try dsimp only); omega)))
      have hs3 := hb3.size
      clear ho hb2 hb
      go_wp2_with (at_builtin; refine wpList_append_own _ rfl (.tmp 22) (.tmp 24) 68 rfl w.heap.size 4 i0 (.bool false) 1 1 Tryz.underlying68 hi hz0 hz1 hz2 rfl (by decide) u5 i _ rfl (ho2.alloc _) ⟨w2.heap.size, 0, none⟩ 1 1 [.bool b] rfl rfl ?c1 ?c2 (by unfold maxLen; omega) (by omega) (by simp; omega) ?_)
      case c1 => intro j u hj; match j, hj with | 0, hj => simp at hj; subst hj; simp only [Addr.add, if_true]; rw [World.cell?_alloc_at _ _ _ _ (by simp)]; rfl
      case c2 => intro u hu; simp at hu; subst hu; rfl
      intro v' w3 ho3 hg3 _
      have hb4 := below_grown (bel_alloc hb3 _) (ho2.alloc _) hg3
      rw [etk.out] at ho3
      clear hg3
      go_wp2
      go_roundw
      case rel => exact ⟨i + 1, by omega, by simp, hb4, by simpa using ho3⟩
      case measure => simp [intOf]; omega
end Go.Proofs.YtngfalbabgpnnaaGreat

namespace Go.Proofs.YtngfalbabgpnnaaGreat
open Go.RowKit

/-- A maker of trees at block tb: its arena, its error. -/
structure TreeAt (w : World) (p tb : Nat) (e : Int) : Prop where
  c0 : w.cell? ⟨tb, 0, none⟩ = some (.pointer (some ⟨p, 0, none⟩))
  c1 : w.cell? ⟨tb, 1, none⟩ = some (.int .i64 e)
  fz : ∀ i, w.frozen? ⟨tb, i, none⟩ = false
  loc : Loc p w tb

theorem TreeAt.fr {w w' : World} {p tb : Nat} {e : Int} (T : TreeAt w p tb e) (F : Fr [] p w w') : TreeAt w' p tb e := by
  obtain ⟨l, h⟩ := F.loc T.loc (by simp)
  exact ⟨by rw [← T.c0]; exact World.cell?_of_block h, by rw [← T.c1]; exact World.cell?_of_block h, fun i => by rw [← T.fz i]; exact World.frozen?_of_block h, l⟩
theorem TreeAt.below {w w' : World} {p tb : Nat} {e : Int} {S : St} (T : TreeAt w p tb e) (H : Ar w p S) (hb : Below w.heap.size w w') : TreeAt w' p tb e := T.fr (Fr.of_below H hb)

def dropL (l : List Int) (S : St) : St := l.foldl St.drop S

set_option maxHeartbeats 1000000 in
theorem tkeep_calls (w : World) (p tb : Nat) (S : St) (e h : Int) (H : Ar w p S) (T : TreeAt w p tb e) :
    Calls Tryz.prog 126 #[.pointer (some ⟨tb, 0, none⟩), .int .i64 h] w fun r w' => r = .returned (.int .i64 h) ∧ Ar w' p (S.keep h) ∧ Fr [] p w w' := by
  have HK := Keep_calls w p S h H
  obtain ⟨c0, c1, fz, _⟩ := T
  go_enter Tryz.func126, Tryz.ntmps126
  go_wp2_with fail
  refine HK.mono ?_; rintro r w1 ⟨rfl, HA, F⟩
  go_wp2
  go_ret
  exact ⟨rfl, HA, F⟩

set_option maxHeartbeats 2000000 in
set_option maxRecDepth 100000 in
theorem tdrop_calls (w : World) (p tb b o c : Nat) (S : St) (e : Int) (l : List Int) (H : Ar w p S) (T : TreeAt w p tb e) (hl : l.length ≤ 4) (hlc : l.length ≤ c)
    (hc : ∀ i x, l[i]? = some x → w.cell? ⟨b, o + i, none⟩ = some (.int .i64 x)) (hloc : Loc p w b) :
    Calls Tryz.prog 154 #[.pointer (some ⟨tb, 0, none⟩), .slice (some ⟨b, o, none⟩) l.length c] w fun r w' => r = .returned (.tuple #[]) ∧ Ar w' p (dropL l S) ∧ Fr [] p w w' := by
  have HD := fun w' S' x (H : Ar w' p S') => Drop_calls w' p S' x H
  go_enter Tryz.func154, Tryz.ntmps154
  go_wp2
  go_loopw [8] (fun c wr => ∃ i : Nat, i ≤ l.length ∧ c = .int .i64 i ∧ Ar wr p (dropL (l.take i) S) ∧ Fr [] p w wr) (fun c _ => l.length - (intOf c).toNat)
  case atStart => exact ⟨0, by omega, rfl, H, Fr.refl _ _ _⟩
  case round =>
    obtain ⟨i, hin, rfl, HA, F⟩ := hrel
    by_cases hil : i = l.length
    · subst hil
      rw [List.take_length] at HA
      go_wp2
      go_end0
      exact ⟨rfl, HA, F⟩
    · have hlt : i < l.length := by omega
      have hlt' : (i : Int) < (l.length : Nat) := by omega
      obtain ⟨x, hxi⟩ : ∃ x, l[i]? = some x := ⟨l[i], List.getElem?_eq_getElem hlt⟩
      have hcx := hc i x hxi
      rw [← World.cell?_of_block (a := ⟨b, o + i, none⟩) (F.loc hloc (by simp)).2] at hcx
      have etk := hid (show (dropL (l.take i) S).drop x = dropL (l.take (i + 1)) S by
        rw [List.take_add_one, hxi]; simp [dropL])
      obtain ⟨c0, c1, fz, _⟩ := T.fr F
      have HD1 := HD wr _ x HA
      clear HD hc hxi
      go_wp2_with fail
      refine HD1.mono ?_; rintro r w2 ⟨rfl, HA2, F2⟩
      go_wp2
      go_roundw
      case rel => exact ⟨i + 1, by omega, by simp, by rw [← etk.out]; exact HA2, F.trans F2⟩
      case measure => simp [intOf]; omega
end Go.Proofs.YtngfalbabgpnnaaGreat

namespace Go.Proofs.YtngfalbabgpnnaaGreat
open Go.RowKit

theorem TreeAt.set {w : World} {p tb : Nat} {e : Int} (T : TreeAt w p tb e) (e' : Int) : TreeAt (w.setCell ⟨tb, 1, none⟩ (.int .i64 e')) p tb e' := by
  refine ⟨?_, World.cell?_setCell_same _ _ _ T.c1, fun i => ?_, T.loc.setCell _ (fun h => T.loc.ne h)⟩
  · rw [World.cell?_setCell_other _ _ _ _ (by simp)]; exact T.c0
  · rw [World.frozen?_setCell]; exact T.fz i
theorem Ar.setTree {w : World} {p tb : Nat} {e : Int} {S : St} (H : Ar w p S) (T : TreeAt w p tb e) (e' : Int) : Ar (w.setCell ⟨tb, 1, none⟩ (.int .i64 e')) p S := H.setCell _ T.loc.2
theorem Fr.setTree {w : World} {p tb : Nat} {e : Int} (T : TreeAt w p tb e) (e' : Int) : Fr [tb] p w (w.setCell ⟨tb, 1, none⟩ (.int .i64 e')) :=
  Fr.setCell (Fr.refl _ _ _) _ (Or.inr (by simp)) (fun h => T.loc.ne h)
def Nd.kids (x : Nd) : List Int := [x.k0, x.k1, x.k2, x.k3]
/-- What node does: the handle, the error, the state. -/
def nodeR (S : St) (e : Int) (x : Nd) : Int × Int × St :=
  if e = 0 then ((S.make x).1, (S.make x).2.1, dropL x.kids (S.make x).2.2) else (0, e, dropL x.kids S)

set_option maxHeartbeats 4000000 in
set_option maxRecDepth 100000 in
theorem tnode_err (w : World) (p tb : Nat) (S : St) (e : Int) (x : Nd) (H : Ar w p S) (T : TreeAt w p tb e) (he : e ≠ 0) :
    Calls Tryz.prog 152 #[.pointer (some ⟨tb, 0, none⟩), .agg x.arr] w fun r w' => r = .returned (.int .i64 0) ∧ Ar w' p (dropL x.kids S) ∧ Fr [] p w w' := by
  have hT := T
  obtain ⟨c0, c1, fz, lt, _⟩ := T
  have hee : (e == 0) = false := by simp [he]
  have HD := fun w' (h : Ar w' p S) (T : TreeAt w' p tb e) b o (hc : ∀ i z, x.kids[i]? = some z → w'.cell? ⟨b, o + i, none⟩ = some (.int .i64 z)) hl => tdrop_calls w' p tb b o 4 S e x.kids h T (by simp [Nd.kids]) (by simp [Nd.kids]) hc hl
  unfold Nd.arr
  go_enter Tryz.func152, Tryz.ntmps152
  go_wp2_with fail
  refine (HD _ (H.alloc _) (hT.below H (by repeat (first | with_reducible exact Below.refl _ _ | with_reducible assumption | with_reducible refine bel_drewN ?_ | with_reducible refine bel_drew ?_ | with_reducible refine bel_alloc ?_ _ | with_reducible refine bel_set ?_ _ ?_ | with_reducible refine bel_trans ?_ (by with_reducible assumption) | ((try dsimp only); omega)))) w.heap.size 1 ?hc (Loc.new H _)).mono ?_
  case hc => intro i z hz; match i, hz with | 0, hz => simp [Nd.kids] at hz; subst hz; go_simp | 1, hz => simp [Nd.kids] at hz; subst hz; go_simp | 2, hz => simp [Nd.kids] at hz; subst hz; go_simp | 3, hz => simp [Nd.kids] at hz; subst hz; go_simp
  rintro r w1 ⟨rfl, HA, F⟩
  go_wp2
  go_ret
  exact ⟨rfl, HA, (Fr.of_below H (by repeat (first | with_reducible exact Below.refl _ _ | with_reducible assumption | with_reducible refine bel_drewN ?_ | with_reducible refine bel_drew ?_ | with_reducible refine bel_alloc ?_ _ | with_reducible refine bel_set ?_ _ ?_ | with_reducible refine bel_trans ?_ (by with_reducible assumption) | ((try dsimp only); omega)))).trans F⟩

set_option maxHeartbeats 4000000 in
set_option maxRecDepth 100000 in
theorem tnode_ok (w : World) (p tb : Nat) (S : St) (x : Nd) (H : Ar w p S) (T : TreeAt w p tb 0) :
    Calls Tryz.prog 152 #[.pointer (some ⟨tb, 0, none⟩), .agg x.arr] w fun r w' => r = .returned (.int .i64 (S.make x).1) ∧ Ar w' p (dropL x.kids (S.make x).2.2) ∧ TreeAt w' p tb (S.make x).2.1 ∧ Fr [tb] p w w' := by
  have hT := T
  obtain ⟨c0, c1, fz, lt, _⟩ := T
  have HM := fun w' (h : Ar w' p S) => Make_calls w' p S x h
  have HD := fun w' S' e (h : Ar w' p S') (T : TreeAt w' p tb e) b o (hc : ∀ i z, x.kids[i]? = some z → w'.cell? ⟨b, o + i, none⟩ = some (.int .i64 z)) hl => tdrop_calls w' p tb b o 4 S' e x.kids h T (by simp [Nd.kids]) (by simp [Nd.kids]) hc hl
  unfold Nd.arr at HM ⊢
  go_enter Tryz.func152, Tryz.ntmps152
  go_wp2_with fail
  generalize hW : w.alloc _ = W
  have l0 : W.cell? ⟨w.heap.size, 0, none⟩ = some (.int .i64 x.tag) := (by subst hW; go_simp); have l1 : W.cell? ⟨w.heap.size, 1, none⟩ = some (.int .i64 x.k0) := (by subst hW; go_simp); have l2 : W.cell? ⟨w.heap.size, 2, none⟩ = some (.int .i64 x.k1) := (by subst hW; go_simp); have l3 : W.cell? ⟨w.heap.size, 3, none⟩ = some (.int .i64 x.k2) := (by subst hW; go_simp); have l4 : W.cell? ⟨w.heap.size, 4, none⟩ = some (.int .i64 x.k3) := (by subst hW; go_simp); have l5 : W.cell? ⟨w.heap.size, 5, none⟩ = some (.int .u64 x.a) := (by subst hW; go_simp); have l6 : W.cell? ⟨w.heap.size, 6, none⟩ = some (.int .u64 x.b) := (by subst hW; go_simp)
  have hbW : Below w.heap.size w W := by subst hW; exact (by repeat (first | with_reducible exact Below.refl _ _ | with_reducible assumption | with_reducible refine bel_drewN ?_ | with_reducible refine bel_drew ?_ | with_reducible refine bel_alloc ?_ _ | with_reducible refine bel_set ?_ _ ?_ | with_reducible refine bel_trans ?_ (by with_reducible assumption) | ((try dsimp only); omega)))
  have HW : Ar W p S := by subst hW; exact H.alloc _
  have TW : TreeAt W p tb 0 := hT.below H hbW
  have LW : Loc p W w.heap.size := by subst hW; exact Loc.new H _
  have FW : Fr [] p w W := Fr.of_below H hbW
  clear hW
  refine wp_region_can (fun w' => w'.cell? ⟨tb, 0, none⟩ = some (.pointer (some ⟨p, 0, none⟩)) ∧ ∀ o, w'.cell? ⟨w.heap.size, o, none⟩ = W.cell? ⟨w.heap.size, o, none⟩) [(0, false), (1, false), (2, false), (3, false), (4, false), (5, false), (6, true), (7, false), (8, false), (9, false), (10, false), (11, false), (12, false), (13, true)] (by kernel_rfl) (by kernel_rfl) (fun _ d _ _ _ h => by cases d <;> exact h) ?_ ?_
  · exact ⟨TW.c0, fun _ => rfl⟩
  repeat ((with_reducible refine wpCan_isq ?_); first | (apply wpCan_read rfl (by rfl); (· intro w' hS; go_simp; with_reducible rfl); (· try simp only [Act.put, List.setIfInBounds_toArray, List.set_cons_zero, List.set_cons_succ]; with_reducible rfl)) | (apply wpCan_no rfl (by rfl); (· try simp only [Act.put, List.setIfInBounds_toArray, List.set_cons_zero, List.set_cons_succ]; with_reducible rfl)))
  have TD : TreeAt W.drew p tb 0 := TW.below HW (by repeat (first | with_reducible exact Below.refl _ _ | with_reducible assumption | with_reducible refine bel_drewN ?_ | with_reducible refine bel_drew ?_ | with_reducible refine bel_alloc ?_ _ | with_reducible refine bel_set ?_ _ ?_ | with_reducible refine bel_trans ?_ (by with_reducible assumption) | ((try dsimp only); omega)))
  (with_reducible refine wpCan_isl ?_); apply wpCan_call (HM _ HW.drew) rfl (by rfl); (· go_simp); rintro r w2 ⟨rfl, HA, F2⟩; apply wpCan_told; (· exact ⟨(TD.fr F2).c0, fun o => World.cell?_of_block (a := ⟨w.heap.size, o, none⟩) (F2.loc LW (by simp)).2⟩); (· try simp only [Act.put, List.setIfInBounds_toArray, List.set_cons_zero, List.set_cons_succ]; with_reducible rfl)
  have T2 := TD.fr F2
  have L2 := F2.loc LW.drew (by simp)
  obtain ⟨d0, d1, dz, dl⟩ := T2
  repeat ((with_reducible refine wpCan_isq ?_); first | (apply wpCan_read rfl (by rfl); (· intro w' hS; go_simp; with_reducible rfl); (· try simp only [Act.put, List.setIfInBounds_toArray, List.set_cons_zero, List.set_cons_succ]; with_reducible rfl)) | (apply wpCan_no rfl (by rfl); (· try simp only [Act.put, List.setIfInBounds_toArray, List.set_cons_zero, List.set_cons_succ]; with_reducible rfl)))
  have T2 : TreeAt w2 p tb 0 := ⟨d0, d1, dz, dl⟩
  have ntb : w.heap.size ≠ tb := fun h => by have := hT.loc.1; omega
  have hc2 : ∀ o, (w2.setCell ⟨tb, 1, none⟩ (.int .i64 (S.make x).2.1)).cell? ⟨w.heap.size, o, none⟩ = W.cell? ⟨w.heap.size, o, none⟩ := fun o => by
    rw [World.cell?_setCell_other _ _ _ _ (fun h => ntb (Addr.mk.inj h).1.symm)]
    exact World.cell?_of_block (a := ⟨w.heap.size, o, none⟩) L2.2
  (with_reducible refine wpCan_isl ?_); apply wpCan_skip rfl (by rfl); (· go_simp; with_reducible rfl); (· try simp only [Act.put, List.setIfInBounds_toArray, List.set_cons_zero, List.set_cons_succ]; with_reducible rfl); (· exact ⟨(T2.set _).c0, hc2⟩)
  refine wpCan_nil ?_
  have T3 := T2.set (S.make x).2.1
  have A3 := HA.setTree T2 (S.make x).2.1
  have F3 := Fr.setTree T2 (S.make x).2.1
  have L3 := L2.1.setCell (a := ⟨tb, 1, none⟩) (.int .i64 (S.make x).2.1) dl.ne
  generalize w2.setCell _ _ = w3 at *
  clear T2 L2 d0 d1 dz
  go_wp2_with fail
  refine (HD _ _ _ A3 T3 w.heap.size 1 ?hc L3).mono ?_
  case hc => intro i z hz; rw [hc2]; match i, hz with | 0, hz => simp [Nd.kids] at hz; subst hz; exact l1 | 1, hz => simp [Nd.kids] at hz; subst hz; exact l2 | 2, hz => simp [Nd.kids] at hz; subst hz; exact l3 | 3, hz => simp [Nd.kids] at hz; subst hz; exact l4
  rintro r w4 ⟨rfl, HA4, F4⟩
  go_wp2
  go_ret
  exact ⟨rfl, HA4, T3.fr F4, ((FW.any.drew.trans F2.any).trans F3).trans F4.any⟩
end Go.Proofs.YtngfalbabgpnnaaGreat

namespace Go.Proofs.YtngfalbabgpnnaaGreat
open Go.RowKit

namespace St
/-- A tree whose root stays live stays. -/
theorem bt_root {S S' : St} {f' : Int → Nat} (h : Grow S S') (H' : S'.Inv f') : ∀ {t : BT} {x : Int}, S'.live x → S.bt x t → S'.bt x t
  | .leaf l, x, v, b => ⟨v, by rw [h.node x b.1.1]; exact b.2.1, b.2.2⟩
  | .fork _ _, x, v, b => by
    obtain ⟨hl, hx, hy, e, bx, by'⟩ := b
    have ex := h.node x hl.1
    have x0 : hx ≠ 0 := fun q => by
      have := bx.live; have := H'.wf.out 0 (Or.inl (by decide)); have := h.used hx (bx.live).1; subst q; simp_all
    have y0 : hy ≠ 0 := fun q => by
      have := by'.live; have := H'.wf.out 0 (Or.inl (by decide)); have := h.used hy (by'.live).1; subst q; simp_all
    exact ⟨v, hx, hy, by rw [ex]; exact e, bt_root h H' (H'.kid_pos v.1 x0 (by rw [ex, e]; exact kc_pos.2 (by simp [forkNd]))) bx,
      bt_root h H' (H'.kid_pos v.1 y0 (by rw [ex, e]; exact kc_pos.2 (by simp [forkNd]))) by'⟩

def moreK (x : Nd) (f : Int → Nat) : Int → Nat := more x.k0 (more x.k1 (more x.k2 (more x.k3 f)))
theorem moreK_more (x : Nd) (r : Int) (f : Int → Nat) : moreK x (more r f) = more r (moreK x f) := by
  funext y; simp only [moreK, more]; omega
theorem Inv.dropL {S : St} {f : Int → Nat} {x : Nd} (H : S.Inv (moreK x f)) : (dropL x.kids S).Inv f := by
  unfold moreK at H
  exact H.drop.drop.drop.drop
theorem Grow.dropL (S : St) (l : List Int) : Grow S (dropL l S) := by
  induction l generalizing S with
  | nil => exact Grow.refl S
  | cons a l ih => exact (Grow.drop S a).trans (ih (S.drop a))
theorem dropL_n (S : St) (l : List Int) : (dropL l S).n = S.n := (Grow.dropL S l).n
theorem dropL_used (S : St) (l : List Int) : (dropL l S).used = S.used := by
  induction l generalizing S with
  | nil => rfl
  | cons a l ih => exact (ih (S.drop a)).trans (drop_used S a)
theorem dropL_node (S : St) (l : List Int) : (dropL l S).node = S.node := by
  induction l generalizing S with
  | nil => rfl
  | cons a l ih => exact (ih (S.drop a)).trans (drop_node S a)
theorem dropL_usedN (S : St) (l : List Int) : (dropL l S).usedN = S.usedN := Inv.usedN_congr (dropL_n S l) (dropL_used S l)

/-- What a maker leaves: nothing is freed; so many nodes more at most; a handle that is held once more, or an error. -/
structure Res (S : St) (f : Int → Nat) (e : Int) (S' : St) (r e' : Int) (cost : Nat) : Prop where
  grow : Grow S S'
  made : S'.usedN ≤ S.usedN + cost
  out : (e' = 0 ∧ S'.Inv (more r f)) ∨ (e' = 2 ∧ r = 0 ∧ S'.Inv f)
  err : e ≠ 0 → e' ≠ 0
  room : e = 0 → S.usedN + cost ≤ S.n → e' = 0
theorem Res.inv {S S' : St} {f : Int → Nat} {e r e' : Int} {cost : Nat} (R : Res S f e S' r e' cost) : S'.Inv (more r f) := by
  rcases R.out with ⟨_, h⟩ | ⟨_, rfl, h⟩
  · exact h
  · exact h.zero
theorem Res.e2 {S S' : St} {f : Int → Nat} {e r e' : Int} {cost : Nat} (R : Res S f e S' r e' cost) : e' = 0 ∨ e' = 2 := by
  rcases R.out with ⟨h, _⟩ | ⟨h, _⟩
  · exact Or.inl h
  · exact Or.inr h
end St
open St

theorem tnode_calls (w : World) (p tb : Nat) (S : St) (f : Int → Nat) (e : Int) (x : Nd) (H : Ar w p S) (T : TreeAt w p tb e) (he : e = 0 ∨ e = 2) (I : S.Inv (moreK x f)) (ht : 1 ≤ x.tag ∧ x.tag ≤ 6) :
    Calls Tryz.prog 152 #[.pointer (some ⟨tb, 0, none⟩), .agg x.arr] w fun o w' => ∃ S' r e', o = .returned (.int .i64 r) ∧ Ar w' p S' ∧ TreeAt w' p tb e' ∧ Fr [tb] p w w' ∧ Res S f e S' r e' 1 ∧ (e' = 0 → S'.node r = x ∧ S'.live r) := by
  rcases he with rfl | rfl
  · refine (tnode_ok w p tb S x H T).mono ?_
    rintro o w' ⟨rfl, HA, T', F⟩
    refine ⟨_, _, _, rfl, HA, T', F, ?_⟩
    have hk : ∀ k, k ≠ 0 → 0 < kc x k → S.live k := fun k k0 h => I.held_pos k0 (by
      unfold kc at h; simp only [moreK, more, eq_comm (a := k)]; omega)
    rcases I.make ht hk with ⟨em, en⟩ | ⟨r, em, r1, ru, hp, hlt, hu⟩
    · rw [em]
      exact ⟨⟨Grow.dropL _ _, by rw [dropL_usedN]; (try dsimp only); omega, Or.inr ⟨rfl, rfl, I.dropL⟩, fun h => absurd rfl h, fun _ h => by omega⟩, fun h => absurd h (by simp)⟩
    · rw [em]
      rw [← moreK_more] at hp
      have hd := hp.dropL
      refine ⟨⟨(Grow.put ru).trans (Grow.dropL _ _), by rw [dropL_usedN]; (try dsimp only); omega, Or.inl ⟨rfl, hd⟩, fun h => absurd rfl h, fun _ _ => rfl⟩, fun _ => ⟨?_, hd.held_pos (by omega) (by rw [more_self]; omega)⟩⟩
      rw [dropL_node, put_node, if_pos rfl]
  · refine (tnode_err w p tb S 2 x H T (by decide)).mono ?_
    rintro o w' ⟨rfl, HA, F⟩
    exact ⟨_, 0, 2, rfl, HA, T.fr F, F.any, ⟨Grow.dropL _ _, by rw [dropL_usedN]; (try dsimp only); omega, Or.inr ⟨rfl, rfl, I.dropL⟩, fun _ => by decide, fun h => absurd h (by decide)⟩, fun h => absurd h (by simp)⟩

set_option maxHeartbeats 1000000 in
theorem tleaf_calls (w : World) (p tb : Nat) (S : St) (f : Int → Nat) (e : Int) (l : List Bool) (H : Ar w p S) (T : TreeAt w p tb e) (he : e = 0 ∨ e = 2) (I : S.Inv f) (hl : l.length ≤ 64) :
    Calls Tryz.prog 121 #[.pointer (some ⟨tb, 0, none⟩), lfV l] w fun o w' => ∃ S' r e', o = .returned (.int .i64 r) ∧ Ar w' p S' ∧ TreeAt w' p tb e' ∧ Fr [tb] p w w' ∧ Res S f e S' r e' 1 ∧ (e' = 0 → S'.bt r (.leaf l)) := by
  have HN := fun w' (h : Ar w' p S) (T : TreeAt w' p tb e) => tnode_calls w' p tb S f e (leafNd l) h T he I.zero.zero.zero.zero (by simp [leafNd])
  have un := u64_id (x := (l.length : Nat)) (by omega) (by omega)
  unfold leafNd Nd.arr at HN
  unfold lfV
  generalize hn : l.length = n at *
  generalize hb : bitsOf l = b at *
  have hn := hid hn
  have hb := hid hb
  go_enter Tryz.func121, Tryz.ntmps121
  go_wp2_with fail
  refine (HN _ (H.alloc _) (T.below H (by repeat (first | with_reducible exact Below.refl _ _ | with_reducible assumption | with_reducible refine bel_drewN ?_ | with_reducible refine bel_drew ?_ | with_reducible refine bel_alloc ?_ _ | with_reducible refine bel_set ?_ _ ?_ | with_reducible refine bel_trans ?_ (by with_reducible assumption) | ((try dsimp only); omega))))).mono ?_
  rintro o w1 ⟨S', r, e', rfl, HA, T', F, R, G⟩
  go_wp2
  go_ret
  refine ⟨S', r, e', rfl, HA, T', (Fr.of_below H (by repeat (first | with_reducible exact Below.refl _ _ | with_reducible assumption | with_reducible refine bel_drewN ?_ | with_reducible refine bel_drew ?_ | with_reducible refine bel_alloc ?_ _ | with_reducible refine bel_set ?_ _ ?_ | with_reducible refine bel_trans ?_ (by with_reducible assumption) | ((try dsimp only); omega)))).trans F, R, fun h => ⟨(G h).2, ?_, by have := hn.out; omega⟩⟩
  rw [(G h).1]
  unfold leafNd
  rw [hn.out, hb.out]
end Go.Proofs.YtngfalbabgpnnaaGreat

namespace Go.Proofs.YtngfalbabgpnnaaGreat
open Go.RowKit St

theorem moreK_fork (x y : Int) (n o : Nat) (f : Int → Nat) : moreK (forkNd x y n o) f = more 0 (more 0 (more x (more y f))) := by
  show more x (more y (more 0 (more 0 f))) = _
  rw [more_comm y 0, more_comm x 0, more_comm y 0, more_comm x 0]

set_option maxHeartbeats 4000000 in
set_option maxRecDepth 100000 in
theorem tpair_calls (w : World) (p tb : Nat) (S : St) (f : Int → Nat) (e x y : Int) (lx ly : List Bool) (H : Ar w p S) (T : TreeAt w p tb e) (he : e = 0 ∨ e = 2) (I : S.Inv (more x (more y f)))
    (Bx : S.br x lx) (By : S.br y ly) (hl : lx.length + ly.length < 1000000) :
    Calls Tryz.prog 155 #[.pointer (some ⟨tb, 0, none⟩), .int .i64 x, .int .i64 y] w fun o w' => ∃ S' r e', o = .returned (.int .i64 r) ∧ Ar w' p S' ∧ TreeAt w' p tb e' ∧ Fr [tb] p w w' ∧ Res S f e S' r e' 1 ∧
      (e' = 0 → S'.live r ∧ ∀ tx ty, S.bt x tx → S.bt y ty → tx.bits = lx → ty.bits = ly → S'.bt r (.fork tx ty)) := by
  have hT := T
  have I' : S.Inv (moreK (forkNd x y (lx.length + ly.length) (lx.count true + ly.count true)) f) := by rw [moreK_fork]; exact I.zero.zero
  have HN := fun w' (h : Ar w' p S) (T : TreeAt w' p tb e) => tnode_calls w' p tb S f e (forkNd x y (lx.length + ly.length) (lx.count true + ly.count true)) h T he I' (by simp [forkNd])
  have HLx := fun w' (h : Ar w' p S) => Len_calls w' p S x lx h Bx (by omega)
  have HLy := fun w' (h : Ar w' p S) => Len_calls w' p S y ly h By (by omega)
  have HOx := fun w' (h : Ar w' p S) => ones_calls w' p S x lx h Bx (by omega)
  have HOy := fun w' (h : Ar w' p S) => ones_calls w' p S y ly h By (by omega)
  have c1 := List.count_le_length (a := true) (l := lx)
  have c2 := List.count_le_length (a := true) (l := ly)
  have fin : ∀ S' r, Grow S S' → S'.Inv (more r f) → S'.node r = forkNd x y (lx.length + ly.length) (lx.count true + ly.count true) → S'.live r → (∀ tx ty, S.bt x tx → S.bt y ty → tx.bits = lx → ty.bits = ly → S'.bt r (.fork tx ty)) := by
    intro S' r g i en lr tx ty bx by' ex ey
    have x0 : x ≠ 0 := fun q => by have := (live.ne H.2 bx.live).1; omega
    have y0 : y ≠ 0 := fun q => by have := (live.ne H.2 by'.live).1; omega
    refine ⟨lr, x, y, by rw [ex, ey]; exact en, bt_root g i (i.kid_pos lr.1 x0 (by rw [en]; exact kc_pos.2 (by simp [forkNd]))) bx, bt_root g i (i.kid_pos lr.1 y0 (by rw [en]; exact kc_pos.2 (by simp [forkNd]))) by'⟩
  have fin := hid fin
  unfold forkNd Nd.arr at HN
  have w1 := u64_id (x := ((lx.length : Nat) : Int) + (ly.length : Nat)) (by omega) (by omega)
  have w2 := u64_id (x := ((lx.count true : Nat) : Int) + (ly.count true : Nat)) (by omega) (by omega)
  simp only [Int.natCast_add] at HN
  have v1 : IntKind.i64.wrap (((lx.length : Nat) : Int) + (ly.length : Nat)) = ((lx.length : Nat) : Int) + (ly.length : Nat) := by simp [IntKind.wrap, IntKind.bits, IntKind.signed]; omega
  have v2 : IntKind.i64.wrap (((lx.count true : Nat) : Int) + (ly.count true : Nat)) = ((lx.count true : Nat) : Int) + (ly.count true : Nat) := by simp [IntKind.wrap, IntKind.bits, IntKind.signed]; omega
  clear I' I Bx By
  generalize lx.count true = ox at *
  generalize ly.count true = oy at *
  generalize lx.length = nx at *
  generalize ly.length = ny at *
  obtain ⟨d0, d1, dz, dl⟩ := T
  have ntb : w.heap.size ≠ tb := fun h => by have := dl.1; omega
  go_enter Tryz.func155, Tryz.ntmps155
  go_wp2
  generalize hW : w.alloc _ = W
  have hbW : Below w.heap.size w W := by subst hW; exact (by repeat (first | with_reducible exact Below.refl _ _ | with_reducible assumption | with_reducible refine bel_drewN ?_ | with_reducible refine bel_drew ?_ | with_reducible refine bel_alloc ?_ _ | with_reducible refine bel_set ?_ _ ?_ | with_reducible refine bel_trans ?_ (by with_reducible assumption) | ((try dsimp only); omega)))
  have HW : Ar W p S := by subst hW; exact H.alloc _
  have TW : TreeAt W p tb e := hT.below H hbW
  have l0 : W.cell? ⟨w.heap.size, 0, none⟩ = some (.int .i64 2) := (by subst hW; go_simp); have l1 : W.cell? ⟨w.heap.size, 1, none⟩ = some (.int .i64 x) := (by subst hW; go_simp); have l2 : W.cell? ⟨w.heap.size, 2, none⟩ = some (.int .i64 y) := (by subst hW; go_simp); have l3 : W.cell? ⟨w.heap.size, 3, none⟩ = some (.int .i64 0) := (by subst hW; go_simp); have l4 : W.cell? ⟨w.heap.size, 4, none⟩ = some (.int .i64 0) := (by subst hW; go_simp); have l5 : W.cell? ⟨w.heap.size, 5, none⟩ = some (.int .u64 0) := (by subst hW; go_simp); have l6 : W.cell? ⟨w.heap.size, 6, none⟩ = some (.int .u64 0) := (by subst hW; go_simp)
  have r1 : ∀ i, W.frozen? ⟨w.heap.size, i, none⟩ = false := fun i => by subst hW; go_simp
  have sz1 : w.heap.size < W.heap.size := by subst hW; simp
  have g1 := l5
  clear hW
  refine wp_region_can (fun w' => w'.cell? ⟨tb, 0, none⟩ = some (.pointer (some ⟨p, 0, none⟩))) [(0, false), (1, false), (2, false), (3, false), (4, false), (6, false), (7, false), (8, false), (9, false), (10, false), (5, true), (11, true), (12, false), (13, false), (14, false), (15, true)] (by kernel_rfl) (by kernel_rfl) (fun _ d _ _ _ h => by cases d <;> exact h) ?_ ?_
  · exact TW.c0
  repeat ((with_reducible refine wpCan_isq ?_); first | (apply wpCan_read rfl (by rfl); (· intro w' hS; go_simp; with_reducible rfl); (· try simp only [Act.put, List.setIfInBounds_toArray, List.set_cons_zero, List.set_cons_succ]; with_reducible rfl)) | (apply wpCan_no rfl (by rfl); (· try simp only [Act.put, List.setIfInBounds_toArray, List.set_cons_zero, List.set_cons_succ]; with_reducible rfl)))
  (with_reducible refine wpCan_isl ?_); apply wpCan_call (HLx _ HW.drew) rfl (by rfl); (· go_simp); rintro o a1 ⟨rfl, ha1⟩; apply wpCan_told; (· exact ((TW.below HW (bel_drew (Below.refl _ _))).below HW.drew ha1).c0); (· try simp only [Act.put, List.setIfInBounds_toArray, List.set_cons_zero, List.set_cons_succ]; with_reducible rfl)
  have Ha1 : Below w.heap.size w a1 := bel_trans (bel_drew hbW) ha1
  have HAa1 := H.below Ha1
  repeat ((with_reducible refine wpCan_isq ?_); first | (apply wpCan_read rfl (by rfl); (· intro w' hS; go_simp; with_reducible rfl); (· try simp only [Act.put, List.setIfInBounds_toArray, List.set_cons_zero, List.set_cons_succ]; with_reducible rfl)) | (apply wpCan_no rfl (by rfl); (· try simp only [Act.put, List.setIfInBounds_toArray, List.set_cons_zero, List.set_cons_succ]; with_reducible rfl)))
  (with_reducible refine wpCan_isl ?_); apply wpCan_call (HLy _ HAa1) rfl (by rfl); (· go_simp); rintro o b1 ⟨rfl, hb1⟩; apply wpCan_told; (· exact (hT.below H (bel_trans Ha1 hb1)).c0); (· try simp only [Act.put, List.setIfInBounds_toArray, List.set_cons_zero, List.set_cons_succ]; with_reducible rfl)
  have Hb1 : Below w.heap.size w b1 := bel_trans Ha1 hb1
  have sa1 : w.heap.size < a1.heap.size := Nat.lt_of_lt_of_le sz1 ha1.size
  have sb1 : w.heap.size < b1.heap.size := Nat.lt_of_lt_of_le sa1 hb1.size
  have eb1 := hid (fun o => ((bcell hb1).1 _ o sa1).trans ((bcell ha1).1 _ o sz1) : ∀ o, b1.cell? ⟨w.heap.size, o, none⟩ = W.cell? ⟨w.heap.size, o, none⟩)
  have zf1 : ∀ o, b1.frozen? ⟨w.heap.size, o, none⟩ = false := fun o => (((bcell hb1).2 _ o sa1).trans ((bcell ha1).2 _ o sz1)).trans (r1 o)
  have zc1 := (eb1.out 5).trans g1
  repeat ((with_reducible refine wpCan_isq ?_); first | (apply wpCan_read rfl (by rfl); (· intro w' hS; go_simp; with_reducible rfl); (· try simp only [Act.put, List.setIfInBounds_toArray, List.set_cons_zero, List.set_cons_succ]; with_reducible rfl)) | (apply wpCan_no rfl (by rfl); (· try simp only [Act.put, List.setIfInBounds_toArray, List.set_cons_zero, List.set_cons_succ]; with_reducible rfl)))
  (with_reducible refine wpCan_isl ?_); apply wpCan_skip rfl (by rfl); (· go_simp; with_reducible rfl); (· try simp only [Act.put, List.setIfInBounds_toArray, List.set_cons_zero, List.set_cons_succ]; with_reducible rfl); (· rw [World.cell?_setCell_other _ _ _ _ (fun h => ntb (Addr.mk.inj h).1.symm.symm)]; exact (hT.below H Hb1).c0)
  refine wpCan_nil ?_
  generalize hV : b1.setCell _ _ = V
  have hbV : Below w.heap.size w V := by subst hV; exact bel_set Hb1 _ (Nat.le_refl _)
  have HV := H.below hbV
  have TV := hT.below H hbV
  have sz2 : w.heap.size < V.heap.size := by subst hV; simpa using sb1
  have r2 : ∀ i, V.frozen? ⟨w.heap.size, i, none⟩ = false := fun i => by subst hV; rw [World.frozen?_setCell]; exact zf1 i
  have ev : ∀ i v, i ≠ 5 → W.cell? ⟨w.heap.size, i, none⟩ = some v → V.cell? ⟨w.heap.size, i, none⟩ = some v := fun i v hi h => by
    subst hV; rw [World.cell?_setCell_other _ _ _ _ (by simp <;> omega), eb1.out]; exact h
  have m0 := ev 0 _ (by decide) l0
  have m1 := ev 1 _ (by decide) l1
  have m2 := ev 2 _ (by decide) l2
  have m3 := ev 3 _ (by decide) l3
  have m4 := ev 4 _ (by decide) l4
  have m5 : V.cell? ⟨w.heap.size, 5, none⟩ = some (.int .u64 ((nx : Int) + ny)) := by subst hV; exact World.cell?_setCell_same _ _ _ zc1
  have g2 := ev 6 _ (by decide) l6
  clear hV ev zc1 zf1 eb1 sa1 sb1 Hb1 HAa1 Ha1 ha1 hb1 g1 r1 sz1 l0 l1 l2 l3 l4 l5 l6 HW TW hbW
  go_wp2
  refine wp_region_can (fun w' => w'.cell? ⟨tb, 0, none⟩ = some (.pointer (some ⟨p, 0, none⟩))) [(0, false), (1, false), (2, false), (3, false), (4, false), (6, false), (7, false), (8, false), (9, false), (10, false), (5, true), (11, true), (12, false), (13, false), (14, false), (15, true)] (by kernel_rfl) (by kernel_rfl) (fun _ d _ _ _ h => by cases d <;> exact h) ?_ ?_
  · exact TV.c0
  repeat ((with_reducible refine wpCan_isq ?_); first | (apply wpCan_read rfl (by rfl); (· intro w' hS; go_simp; with_reducible rfl); (· try simp only [Act.put, List.setIfInBounds_toArray, List.set_cons_zero, List.set_cons_succ]; with_reducible rfl)) | (apply wpCan_no rfl (by rfl); (· try simp only [Act.put, List.setIfInBounds_toArray, List.set_cons_zero, List.set_cons_succ]; with_reducible rfl)))
  (with_reducible refine wpCan_isl ?_); apply wpCan_call (HOx _ HV.drew) rfl (by rfl); (· go_simp); rintro o a2 ⟨rfl, ha2⟩; apply wpCan_told; (· exact ((TV.below HV (bel_drew (Below.refl _ _))).below HV.drew ha2).c0); (· try simp only [Act.put, List.setIfInBounds_toArray, List.set_cons_zero, List.set_cons_succ]; with_reducible rfl)
  have Ha2 : Below w.heap.size w a2 := bel_trans (bel_drew hbV) ha2
  have HAa2 := H.below Ha2
  repeat ((with_reducible refine wpCan_isq ?_); first | (apply wpCan_read rfl (by rfl); (· intro w' hS; go_simp; with_reducible rfl); (· try simp only [Act.put, List.setIfInBounds_toArray, List.set_cons_zero, List.set_cons_succ]; with_reducible rfl)) | (apply wpCan_no rfl (by rfl); (· try simp only [Act.put, List.setIfInBounds_toArray, List.set_cons_zero, List.set_cons_succ]; with_reducible rfl)))
  (with_reducible refine wpCan_isl ?_); apply wpCan_call (HOy _ HAa2) rfl (by rfl); (· go_simp); rintro o b2 ⟨rfl, hb2⟩; apply wpCan_told; (· exact (hT.below H (bel_trans Ha2 hb2)).c0); (· try simp only [Act.put, List.setIfInBounds_toArray, List.set_cons_zero, List.set_cons_succ]; with_reducible rfl)
  have Hb2 : Below w.heap.size w b2 := bel_trans Ha2 hb2
  have sa2 : w.heap.size < a2.heap.size := Nat.lt_of_lt_of_le sz2 ha2.size
  have sb2 : w.heap.size < b2.heap.size := Nat.lt_of_lt_of_le sa2 hb2.size
  have eb2 := hid (fun o => ((bcell hb2).1 _ o sa2).trans ((bcell ha2).1 _ o sz2) : ∀ o, b2.cell? ⟨w.heap.size, o, none⟩ = V.cell? ⟨w.heap.size, o, none⟩)
  have zf2 : ∀ o, b2.frozen? ⟨w.heap.size, o, none⟩ = false := fun o => (((bcell hb2).2 _ o sa2).trans ((bcell ha2).2 _ o sz2)).trans (r2 o)
  have zc2 := (eb2.out 6).trans g2
  repeat ((with_reducible refine wpCan_isq ?_); first | (apply wpCan_read rfl (by rfl); (· intro w' hS; go_simp; with_reducible rfl); (· try simp only [Act.put, List.setIfInBounds_toArray, List.set_cons_zero, List.set_cons_succ]; with_reducible rfl)) | (apply wpCan_no rfl (by rfl); (· try simp only [Act.put, List.setIfInBounds_toArray, List.set_cons_zero, List.set_cons_succ]; with_reducible rfl)))
  (with_reducible refine wpCan_isl ?_); apply wpCan_skip rfl (by rfl); (· go_simp; with_reducible rfl); (· try simp only [Act.put, List.setIfInBounds_toArray, List.set_cons_zero, List.set_cons_succ]; with_reducible rfl); (· rw [World.cell?_setCell_other _ _ _ _ (fun h => ntb (Addr.mk.inj h).1.symm.symm)]; exact (hT.below H Hb2).c0)
  refine wpCan_nil ?_
  generalize hU : b2.setCell _ _ = U
  have hbU : Below w.heap.size w U := by subst hU; exact bel_set Hb2 _ (Nat.le_refl _)
  have HU := H.below hbU
  have TU := hT.below H hbU
  have ev : ∀ i v, i ≠ 6 → V.cell? ⟨w.heap.size, i, none⟩ = some v → U.cell? ⟨w.heap.size, i, none⟩ = some v := fun i v hi h => by
    subst hU; rw [World.cell?_setCell_other _ _ _ _ (by simp <;> omega), eb2.out]; exact h
  have k0 := ev 0 _ (by decide) m0
  have k1 := ev 1 _ (by decide) m1
  have k2 := ev 2 _ (by decide) m2
  have k3 := ev 3 _ (by decide) m3
  have k4 := ev 4 _ (by decide) m4
  have k5 := ev 5 _ (by decide) m5
  have k6 : U.cell? ⟨w.heap.size, 6, none⟩ = some (.int .u64 ((ox : Int) + oy)) := by subst hU; exact World.cell?_setCell_same _ _ _ zc2
  have FU : Fr [tb] p w U := Fr.of_below H hbU
  clear hU ev zc2 zf2 eb2 sa2 sb2 Hb2 HAa2 Ha2 ha2 hb2 g2 r2 sz2 m0 m1 m2 m3 m4 m5 HV TV hbV hbU
  go_wp2_with fail
  refine (HN _ HU TU).mono ?_
  rintro o c1 ⟨S', r, e', rfl, HA, T', F, R, G⟩
  go_wp2
  go_ret
  refine ⟨S', r, e', rfl, HA, T', FU.trans F, R, fun h => ⟨(G h).2, fin.out S' r R.grow R.inv ?_ (G h).2⟩⟩
  have := (G h).1
  unfold forkNd
  rw [this, Int.natCast_add, Int.natCast_add]
end Go.Proofs.YtngfalbabgpnnaaGreat
