/-
  The walk of wave.made.
  The walk of wave.insert.
  wave.insert, all of it; wave.Insert; wave.All.
-/
import Derived.Test.YtngfalbabgpnnaaGreatM2
import Derived.Test.YtngfalbabgpnnaaGreatM3
import Derived.Test.YtngfalbabgpnnaaGreatM6
import Derived.Test.YtngfalbabgpnnaaGreatM8
import Derived.Test.YtngfalbabgpnnaaGreatM9
set_option linter.unusedVariables false
set_option linter.unusedSimpArgs false
namespace Go.Proofs.YtngfalbabgpnnaaGreat
open Go.RowKit St

set_option maxHeartbeats 4000000 in
set_option maxRecDepth 100000 in
theorem made_skip (w : World) (p : Nat) (S : St) (x : Nd) (e : Int) (H : Ar w p S) (he : e ≠ 0 ∨ x.k0 = 0) :
    Calls Tryz.prog 118 #[.pointer (some ⟨p, 0, none⟩), .agg x.arr, .int .i64 e] w fun o w' => o = .returned (.tuple #[.int .i64 0, .int .i64 e]) ∧ Ar w' p (S.drops x 4) ∧ Fr [] p w w' := by
  unfold Nd.arr
  have hcond : (¬ e = 0 ∧ (e == 0) = false) ∨ (e = 0 ∧ (x.k0 == 0) = true ∧ (x.k0 != 0) = false) := by
    by_cases q : e = 0
    · have q2 : x.k0 = 0 := by rcases he with h | h; exact absurd q h; exact h
      exact Or.inr ⟨q, by simp [q2], by simp [q2]⟩
    · exact Or.inl ⟨q, by simp [q]⟩
  clear he
  go_enter Tryz.func118, Tryz.ntmps118
  rcases hcond with ⟨q, q1⟩ | ⟨rfl, q', q2⟩
  · clear q
    go_wp2
    go_loopw [27] (fun c wr => ∃ i : Nat, i ≤ 4 ∧ c = .int .i64 i ∧ Ar wr p (S.drops x i) ∧ Fr [] p w wr) (fun c _ => 4 - (intOf c).toNat)
    case atStart => exact ⟨0, by omega, rfl, H.alloc _, Fr.of_below H (by repeat (first | with_reducible exact Below.refl _ _ | with_reducible assumption | with_reducible refine bel_drewN ?_ | with_reducible refine bel_drew ?_ | with_reducible refine bel_alloc ?_ _ | with_reducible refine bel_set ?_ _ ?_ | with_reducible refine bel_trans ?_ (by with_reducible assumption) | ((try dsimp only); omega)))⟩
    case round =>
      obtain ⟨i, hi, rfl, HA, FA⟩ := hrel
      have DD := fun x => Drop_calls wr p _ x HA
      obtain ⟨i0, i1, i2, i3⟩ := idx4 x.k0 x.k1 x.k2 x.k3
      rcases (show i = 0 ∨ i = 1 ∨ i = 2 ∨ i = 3 ∨ i = 4 by omega) with rfl | rfl | rfl | rfl | rfl
      · go_wp2_with (go_at_call 15; refine (DD _).mono ?_; rintro e w' ⟨rfl, HA', FA'⟩)
        go_roundw
        case rel => exact ⟨1, by decide, rfl, HA', FA.trans FA'⟩
        case measure => simp [intOf]
      · go_wp2_with (go_at_call 15; refine (DD _).mono ?_; rintro e w' ⟨rfl, HA', FA'⟩)
        go_roundw
        case rel => exact ⟨2, by decide, rfl, HA', FA.trans FA'⟩
        case measure => simp [intOf]
      · go_wp2_with (go_at_call 15; refine (DD _).mono ?_; rintro e w' ⟨rfl, HA', FA'⟩)
        go_roundw
        case rel => exact ⟨3, by decide, rfl, HA', FA.trans FA'⟩
        case measure => simp [intOf]
      · go_wp2_with (go_at_call 15; refine (DD _).mono ?_; rintro e w' ⟨rfl, HA', FA'⟩)
        go_roundw
        case rel => exact ⟨4, by decide, rfl, HA', FA.trans FA'⟩
        case measure => simp [intOf]
      · clear DD
        go_wp2
        go_ret2
        exact ⟨rfl, HA, FA⟩
  · go_wp2
    go_loopw [27] (fun c wr => ∃ i : Nat, i ≤ 4 ∧ c = .int .i64 i ∧ Ar wr p (S.drops x i) ∧ Fr [] p w wr) (fun c _ => 4 - (intOf c).toNat)
    case atStart => exact ⟨0, by omega, rfl, H.alloc _, Fr.of_below H (by repeat (first | with_reducible exact Below.refl _ _ | with_reducible assumption | with_reducible refine bel_drewN ?_ | with_reducible refine bel_drew ?_ | with_reducible refine bel_alloc ?_ _ | with_reducible refine bel_set ?_ _ ?_ | with_reducible refine bel_trans ?_ (by with_reducible assumption) | ((try dsimp only); omega)))⟩
    case round =>
      obtain ⟨i, hi, rfl, HA, FA⟩ := hrel
      have DD := fun x => Drop_calls wr p _ x HA
      obtain ⟨i0, i1, i2, i3⟩ := idx4 x.k0 x.k1 x.k2 x.k3
      rcases (show i = 0 ∨ i = 1 ∨ i = 2 ∨ i = 3 ∨ i = 4 by omega) with rfl | rfl | rfl | rfl | rfl
      · go_wp2_with (go_at_call 15; refine (DD _).mono ?_; rintro e w' ⟨rfl, HA', FA'⟩)
        go_roundw
        case rel => exact ⟨1, by decide, rfl, HA', FA.trans FA'⟩
        case measure => simp [intOf]
      · go_wp2_with (go_at_call 15; refine (DD _).mono ?_; rintro e w' ⟨rfl, HA', FA'⟩)
        go_roundw
        case rel => exact ⟨2, by decide, rfl, HA', FA.trans FA'⟩
        case measure => simp [intOf]
      · go_wp2_with (go_at_call 15; refine (DD _).mono ?_; rintro e w' ⟨rfl, HA', FA'⟩)
        go_roundw
        case rel => exact ⟨3, by decide, rfl, HA', FA.trans FA'⟩
        case measure => simp [intOf]
      · go_wp2_with (go_at_call 15; refine (DD _).mono ?_; rintro e w' ⟨rfl, HA', FA'⟩)
        go_roundw
        case rel => exact ⟨4, by decide, rfl, HA', FA.trans FA'⟩
        case measure => simp [intOf]
      · clear DD
        go_wp2
        go_ret2
        exact ⟨rfl, HA, FA⟩

set_option maxHeartbeats 4000000 in
set_option maxRecDepth 100000 in
theorem made_make (w : World) (p : Nat) (S : St) (x : Nd) (H : Ar w p S) (hk : x.k0 ≠ 0) :
    Calls Tryz.prog 118 #[.pointer (some ⟨p, 0, none⟩), .agg x.arr, .int .i64 0] w fun o w' => o = .returned (.tuple #[.int .i64 (S.make x).1, .int .i64 (S.make x).2.1]) ∧ Ar w' p ((S.make x).2.2.drops x 4) ∧ Fr [] p w w' := by
  have HM := fun w' (h : Ar w' p S) => Make_calls w' p S x h
  unfold Nd.arr at HM ⊢
  have q : (x.k0 == 0) = false := by simp [hk]
  have q' : (x.k0 != 0) = true := by simp [hk]
  generalize S.make x = R at *
  obtain ⟨r, e, S1⟩ := R
  simp only at HM ⊢
  go_enter Tryz.func118, Tryz.ntmps118
  go_wp2_with fail
  refine (HM _ (H.alloc _)).mono ?_; rintro o w1 ⟨rfl, H1, F1⟩
  have F1' := (Fr.of_below (X := []) H (bel_alloc (Below.refl _ w) _)).trans F1
  have eb := fun o => World.cell?_of_block (a := ⟨w.heap.size, o, none⟩) (F1.loc (Loc.new H _) (by simp)).2
  have k1 : w1.cell? ⟨w.heap.size, 1, none⟩ = some (.int .i64 x.k0) := by rw [eb]; go_simp
  have k2 : w1.cell? ⟨w.heap.size, 2, none⟩ = some (.int .i64 x.k1) := by rw [eb]; go_simp
  have k3 : w1.cell? ⟨w.heap.size, 3, none⟩ = some (.int .i64 x.k2) := by rw [eb]; go_simp
  have k4 : w1.cell? ⟨w.heap.size, 4, none⟩ = some (.int .i64 x.k3) := by rw [eb]; go_simp
  clear eb
  go_wp2
  go_loopw [27] (fun c wr => ∃ i : Nat, i ≤ 4 ∧ c = .int .i64 i ∧ Ar wr p (S1.drops x i) ∧ Fr [] p w wr) (fun c _ => 4 - (intOf c).toNat)
  case atStart => exact ⟨0, by omega, rfl, H1, F1'⟩
  case round =>
    obtain ⟨i, hi, rfl, HA, FA⟩ := hrel
    have DD := fun x => Drop_calls wr p _ x HA
    obtain ⟨i0, i1, i2, i3⟩ := idx4 x.k0 x.k1 x.k2 x.k3
    rcases (show i = 0 ∨ i = 1 ∨ i = 2 ∨ i = 3 ∨ i = 4 by omega) with rfl | rfl | rfl | rfl | rfl
    · go_wp2_with (go_at_call 15; refine (DD _).mono ?_; rintro e w' ⟨rfl, HA', FA'⟩)
      go_roundw
      case rel => exact ⟨1, by decide, rfl, HA', FA.trans FA'⟩
      case measure => simp [intOf]
    · go_wp2_with (go_at_call 15; refine (DD _).mono ?_; rintro e w' ⟨rfl, HA', FA'⟩)
      go_roundw
      case rel => exact ⟨2, by decide, rfl, HA', FA.trans FA'⟩
      case measure => simp [intOf]
    · go_wp2_with (go_at_call 15; refine (DD _).mono ?_; rintro e w' ⟨rfl, HA', FA'⟩)
      go_roundw
      case rel => exact ⟨3, by decide, rfl, HA', FA.trans FA'⟩
      case measure => simp [intOf]
    · go_wp2_with (go_at_call 15; refine (DD _).mono ?_; rintro e w' ⟨rfl, HA', FA'⟩)
      go_roundw
      case rel => exact ⟨4, by decide, rfl, HA', FA.trans FA'⟩
      case measure => simp [intOf]
    · clear DD
      go_wp2
      go_ret2
      exact ⟨rfl, HA, FA⟩

theorem made_calls (w : World) (p : Nat) (S : St) (f : Int → Nat) (e : Int) (x : Nd) (H : Ar w p S) (he : e = 0 ∨ e = 2) (hk0 : e = 0 → x.k0 ≠ 0) (I : S.Inv (moreK x f)) (ht : 1 ≤ x.tag ∧ x.tag ≤ 6) :
    Calls Tryz.prog 118 #[.pointer (some ⟨p, 0, none⟩), .agg x.arr, .int .i64 e] w fun o w' => ∃ S' r e', o = .returned (.tuple #[.int .i64 r, .int .i64 e']) ∧ Ar w' p S' ∧ Fr [] p w w' ∧ Res S f e S' r e' 1 ∧ (e' = 0 → S'.node r = x ∧ S'.live r) := by
  rcases he with rfl | rfl
  · refine (made_make w p S x H (hk0 rfl)).mono ?_
    rintro o w' ⟨rfl, HA, F⟩
    refine ⟨_, _, _, rfl, HA, F, ?_⟩
    change Res S f 0 (dropL x.kids (S.make x).2.2) _ _ 1 ∧ (_ → (dropL x.kids (S.make x).2.2).node _ = x ∧ (dropL x.kids (S.make x).2.2).live _)
    have hk : ∀ k, k ≠ 0 → 0 < kc x k → S.live k := fun k k0 h => I.held_pos k0 (by
      unfold kc at h; simp only [moreK, more, eq_comm (a := k)]; omega)
    rcases I.make ht hk with ⟨em, en⟩ | ⟨r, em, r1, ru, hp, hlt, hu⟩
    · rw [em]
      exact ⟨⟨Grow.dropL _ _, by rw [dropL_usedN]; (try dsimp only); omega, Or.inr ⟨rfl, rfl, I.dropL⟩, fun h => absurd rfl h, fun _ h => by omega⟩, fun h => absurd h (by simp)⟩
    · rw [em]
      rw [← moreK_more] at hp
      have hd := hp.dropL
      refine ⟨⟨(Grow.put ru).trans (Grow.dropL _ _), by rw [dropL_usedN]; (try dsimp only); omega, Or.inl ⟨rfl, hd⟩, fun h => absurd rfl h, fun _ _ => rfl⟩, fun _ => ⟨?_, hd.held_pos (by omega) (by rw [more_self]; omega)⟩⟩
      rw [dropL_node, put_node, if_pos rfl]
  · refine (made_skip w p S x 2 H (Or.inl (by decide))).mono ?_
    rintro o w' ⟨rfl, HA, F⟩
    refine ⟨_, 0, 2, rfl, HA, F, ?_, fun h => absurd h (by simp)⟩
    change Res S f 2 (dropL x.kids S) 0 2 1
    exact ⟨Grow.dropL _ _, by rw [dropL_usedN]; (try dsimp only); omega, Or.inr ⟨rfl, rfl, I.dropL⟩, fun _ => by decide, fun h => absurd h (by decide)⟩
end Go.Proofs.YtngfalbabgpnnaaGreat

namespace Go.Proofs.YtngfalbabgpnnaaGreat
open Go.RowKit St

/-- What insert leaves. -/
def WInsR (S : St) (f : Int → Nat) (n : Nat) (l : List Nat) (i s : Nat) (S' : St) (r e' : Int) : Prop :=
  Res S f 0 S' r e' (n * (l.length + 10)) ∧ (e' = 0 → S'.wv n r (ins l i s))

set_option maxHeartbeats 4000000 in
set_option maxRecDepth 100000 in
theorem winsert_true (w : World) (p : Nat) (S : St) (f : Int → Nat) (n : Nat) (h : Int) (l : List Nat) (i s : Nat) (H : Ar w p S) (I : S.Inv f) (sl : slack f 100010) (V : S.wv (n + 1) h l) (hn : n ≤ 8) (hs : s < 257) (hl : l.length < 20000) (hi : i ≤ l.length) (hbt : s.testBit n = true)
    (hR : ∀ (k : Int) (l' : List Nat) (i' : Nat) w', Ar w' p S → S.wv n k l' → l'.length < 20000 → i' ≤ l'.length →
      Calls Tryz.prog 85 #[.pointer (some ⟨p, 0, none⟩), .int .i64 k, .int .i64 i', .int .i64 s, .int .i64 ((9 - n : Nat) : Int)] w' fun o w'' => ∃ S' r e', o = .returned (.tuple #[.int .i64 r, .int .i64 e']) ∧ Ar w'' p S' ∧ Fr [] p w' w'' ∧ WInsR S f n l' i' s S' r e') :
    Calls Tryz.prog 85 #[.pointer (some ⟨p, 0, none⟩), .int .i64 h, .int .i64 i, .int .i64 s, .int .i64 ((9 - (n + 1) : Nat) : Int)] w fun o w' => ∃ S' r e', o = .returned (.tuple #[.int .i64 r, .int .i64 e']) ∧ Ar w' p S' ∧ Fr [] p w w' ∧ WInsR S f (n + 1) l i s S' r e' := by
  obtain ⟨b, z, o, e0, e1, e2, Bb, Vk⟩ := wv_kid H.2 V
  have hk3 : kc (S.node h) b > 0 ∧ kc (S.node h) z > 0 ∧ kc (S.node h) o > 0 := ⟨kc_pos.2 (by simp [e0]), kc_pos.2 (by simp [e1]), kc_pos.2 (by simp [e2])⟩
  have hus : b ≠ 0 ∨ z ≠ 0 ∨ o ≠ 0 → S.used h = true := fun q => by
    rcases V with ⟨rfl, rfl⟩ | ⟨hlv, _⟩
    · rw [(zero_free H.2).2.1] at e0 e1 e2
      simp only [Nd.zero] at e0 e1 e2
      rcases q with q | q | q
      · exact absurd e0.symm q
      · exact absurd e1.symm q
      · exact absurd e2.symm q
    · exact hlv.1
  have HG := fun w' (hb : Below w.heap.size w w') => waveRow_calls w' p S h (H.below hb)
  have HB := fun w' => symBit_calls w' s n hs hn
  have HA := fun w' (hb' : Below w.heap.size w w') => alike_calls w' p S b _ i (s.testBit n) (H.below hb') Bb (by simp; omega) (by simpa using hi)
  have HK := fun w' => waveKid_calls w' (S.node h) (s.testBit n)
  have Vu := Vk true
  have Vo := Vk !true
  have hkl := kidL_length n true l
  have hkk : ((l.map fun s => s.testBit n).take i).count true ≤ (kidL n true l).length := by
    rw [kidL_len]
    have := congrArg List.length (kidL_take n true l i)
    rw [List.length_take, kidL_len] at this; omega
  rw [hbt] at HB HA HK
  have hfil : kidL n true (ins l i s) = ins (kidL n true l) (((l.map fun s => s.testBit n).take i).count true) s := by
    have := filter_ins (fun x : Nat => x.testBit n == true) l i s (by simp [hbt])
    rw [kidL_len]
    unfold kidL
    rw [this, ← List.map_take]
    congr 1
    generalize l.take i = m
    rw [List.count, List.countP_map, List.countP_eq_length_filter]
    congr 1
    refine List.filter_congr fun x _ => ?_
    simp
  have hfil2 : kidL n (!true) (ins l i s) = kidL n (!true) l := filter_ins_not _ l i s (by simp [hbt])
  have hmap := map_ins (fun x : Nat => x.testBit n) l i s
  simp only [hbt] at hmap
  have hine := ins_ne l i s
  have hlen := ins_length l i s
  simp only [Bool.not_true, Bool.not_false, if_true, Bool.false_eq_true, if_false] at Vu Vo hfil2 HK
  have HI := fun w' (hb : Below w.heap.size w w') => hR _ _ (((l.map fun s => s.testBit n).take i).count true) w' (H.below hb) Vu (by omega) hkk
  clear hR Vk V
  have fin : ∀ (S' : St) (r : Int), S'.live r → (∃ b' z' o' : Int, S'.node r = waveNd b' z' o' ∧ S'.br b' (ins (l.map fun s => s.testBit n) i true) ∧ S'.wv n z' (kidL n false l) ∧ S'.wv n o' (ins (kidL n true l) (((l.map fun s => s.testBit n).take i).count true) s)) → S'.wv (n + 1) r (ins l i s) := by
    rintro S' r lv ⟨b', z', o', en, q1, q2, q3⟩
    refine Or.inr ⟨lv, hine, b', z', o', en, by rw [hmap]; exact q1, ?_, ?_⟩
    · have e : ((ins l i s).filter fun s => !s.testBit n) = kidL n false (ins l i s) := by unfold kidL; refine List.filter_congr fun x _ => ?_; simp
      rw [e, hfil2]; exact q2
    · have e : ((ins l i s).filter fun s => s.testBit n) = kidL n true (ins l i s) := by unfold kidL; refine List.filter_congr fun x _ => ?_; simp
      rw [e, hfil]; exact q3
  have fin := hid fin
  have hlb : (l.map fun s => s.testBit n).length = l.length := List.length_map _
  clear hfil hfil2 hmap hine hlen
  generalize ((l.map fun s => s.testBit n).take i).count true = k at *
  generalize hLu : kidL n true l = lu at *
  generalize hLo : kidL n false l = lo at *
  generalize (l.map fun s => s.testBit n) = lb at *
  generalize hle : l.length = len at *
  have hle := hid hle
  have hkl := hid hkl
  have hkk := hid hkk
  have hlb := hid hlb
  have Vo := hid Vo
  have Bb := hid Bb
  have sl := hid sl
  have hi := hid hi
  have hus := hid hus
  have hk3 := hid hk3
  have I := hid I
  have H0 := H
  unfold Nd.arr at HG HK
  rw [e0, e1, e2] at HG HK
  have wc : IntKind.i64.wrap (((8 - n : Nat) : Int) + 1) = ((8 - n : Nat) : Int) + 1 := by rw [show ((8 - n : Nat) : Int) + 1 = ((8 - n + 1 : Nat) : Int) by omega]; exact i64_nat (by omega)
  rw [show 9 - (n + 1) = 8 - n by omega]
  have e9 : ((9 - n : Nat) : Int) = ((8 - n : Nat) : Int) + 1 := by omega
  rw [e9] at HI
  have q1 : ¬ ((8 - n : Nat) : Int) > 8 := by omega
  clear e9 hLu hLo hbt
  generalize ((8 - n : Nat) : Int) = L at *
  clear e0 e1 e2
  have hxs := hid (rfl : S.node h = S.node h)
  generalize hx : S.node h = x at HG HK
  have hx := hid hx
  clear hxs
  go_enter Tryz.func85, Tryz.ntmps85
  go_wp2_with fail
  refine (HG _ (by repeat (first | with_reducible exact Below.refl _ _ | with_reducible assumption | with_reducible refine bel_drewN ?_ | with_reducible refine bel_drew ?_ | with_reducible refine bel_alloc ?_ _ | with_reducible refine bel_set ?_ _ ?_ | with_reducible refine bel_trans ?_ (by with_reducible assumption) | ((try dsimp only); omega)))).mono ?_; rintro o1 w1 ⟨q, rfl, hb1⟩; obtain ⟨hc1, hf1⟩ := bcell hb1
  go_wp2_with fail
  refine (HB _).mono ?_; rintro o2 w3 ⟨rfl, hb3⟩; subst hb3
  go_wp2
  generalize hW : World.alloc _ _ = W
  have hsz : W.heap.size = w1.heap.size + 1 + 1 := by subst hW; simp
  have l0 : W.cell? ⟨w1.heap.size, 0, none⟩ = some (.int .i64 x.tag) := (by subst hW; go_simp); have l1 : W.cell? ⟨w1.heap.size, 1, none⟩ = some (.int .i64 b) := (by subst hW; go_simp); have l2 : W.cell? ⟨w1.heap.size, 2, none⟩ = some (.int .i64 z) := (by subst hW; go_simp); have l3 : W.cell? ⟨w1.heap.size, 3, none⟩ = some (.int .i64 o) := (by subst hW; go_simp); have l4 : W.cell? ⟨w1.heap.size, 4, none⟩ = some (.int .i64 x.k3) := (by subst hW; go_simp); have l5 : W.cell? ⟨w1.heap.size, 5, none⟩ = some (.int .u64 x.a) := (by subst hW; go_simp); have l6 : W.cell? ⟨w1.heap.size, 6, none⟩ = some (.int .u64 x.b) := (by subst hW; go_simp)
  have m : ∀ j, j < 7 → W.cell? ⟨w1.heap.size + 1, j, none⟩ = some (if j < 5 then .int .i64 (if j = 0 then 3 else 0) else .int .u64 0) := fun j hj => by
    subst hW
    match j, hj with
    | 0, _ => go_simp
    | 1, _ => go_simp
    | 2, _ => go_simp
    | 3, _ => go_simp
    | 4, _ => go_simp
    | 5, _ => go_simp
    | 6, _ => go_simp
  have mf : ∀ j, W.frozen? ⟨w1.heap.size + 1, j, none⟩ = false := fun j => by subst hW; go_simp
  have hbW : Below w.heap.size w W := by subst hW; exact (by repeat (first | with_reducible exact Below.refl _ _ | with_reducible assumption | with_reducible refine bel_drewN ?_ | with_reducible refine bel_drew ?_ | with_reducible refine bel_alloc ?_ _ | with_reducible refine bel_set ?_ _ ?_ | with_reducible refine bel_trans ?_ (by with_reducible assumption) | ((try dsimp only); omega)))
  have LA : Loc p W w1.heap.size := by subst hW; exact (Loc.new (H.below hb1) _).alloc ((H.below hb1).alloc _) _
  have LB : Loc p W (w1.heap.size + 1) := by
    subst hW
    have := fun (A B : Obj) => Loc.new (p := p) ((H.below hb1).alloc A) B
    simpa using this _ _
  have hs1 := hb1.size
  clear hW hc1 hf1 hb1
  refine wp_region_can (fun w' => ∀ o, w'.cell? ⟨w1.heap.size, o, none⟩ = W.cell? ⟨w1.heap.size, o, none⟩) [(0, false), (1, false), (2, false), (4, false), (5, false), (6, false), (7, false), (8, false), (9, false), (11, false), (12, false), (13, false), (3, true), (10, true), (14, true), (15, false), (16, false), (17, false), (18, false), (19, false)] (by kernel_rfl) (by kernel_rfl) (fun _ d _ _ _ h => by cases d <;> exact h) ?_ ?_
  · exact fun _ => rfl
  repeat ((with_reducible refine wpCan_isq ?_); first | (apply wpCan_read rfl (by rfl); (· intro w' hS; go_simp; with_reducible rfl); (· try simp only [Act.put, List.setIfInBounds_toArray, List.set_cons_zero, List.set_cons_succ]; with_reducible rfl)) | (apply wpCan_no rfl (by rfl); (· try simp only [Act.put, List.setIfInBounds_toArray, List.set_cons_zero, List.set_cons_succ]; with_reducible rfl)))
  (with_reducible refine wpCan_isl ?_); apply wpCan_call (HK _) rfl (by rfl); (· go_simp); rintro o a1 ⟨rfl, ha1⟩; apply wpCan_told; (· exact fun o => ha1.cell (Nat.lt_of_lt_of_le LA.1 (Nat.le_refl _))); (· try simp only [Act.put, List.setIfInBounds_toArray, List.set_cons_zero, List.set_cons_succ]; with_reducible rfl)
  have Ha1 : Below w.heap.size w a1 := bel_trans (bel_drew hbW) ha1
  (with_reducible refine wpCan_isl ?_); apply wpCan_call (HA _ Ha1) rfl (by rfl); (· go_simp); rintro o a2 ⟨rfl, ha2⟩; apply wpCan_told; (· exact fun o => (ha2.cell (Nat.lt_of_lt_of_le LA.1 ha1.size)).trans (ha1.cell LA.1)); (· try simp only [Act.put, List.setIfInBounds_toArray, List.set_cons_zero, List.set_cons_succ]; with_reducible rfl)
  have Ha2 : Below w.heap.size w a2 := bel_trans Ha1 ha2
  have H2 := H0.below Ha2
  have LA2 := (LA.below (H0.below hbW) (bel_trans (bel_drew (Below.refl _ W)) ha1)).below (H0.below Ha1) ha2
  have LB2 := (LB.below (H0.below hbW) (bel_trans (bel_drew (Below.refl _ W)) ha1)).below (H0.below Ha1) ha2
  have hWa := hid (fun b (h : b < W.heap.size) => (ha2.block b (Nat.lt_of_lt_of_le h ha1.size)).trans (ha1.block b h) : ∀ b, b < W.heap.size → a2.heap[b]? = W.heap[b]?)
  (with_reducible refine wpCan_isl ?_); apply wpCan_call (HI _ Ha2) rfl (by rfl); (· go_simp); rintro o a3 ⟨S1, u, e1, rfl, H3, F3, R1⟩; apply wpCan_told; (· exact fun o => World.cell?_of_block (a := ⟨w1.heap.size, o, none⟩) ((F3.loc LA2 (by simp)).2.trans (hWa.out _ LA.1))); (· try simp only [Act.put, List.setIfInBounds_toArray, List.set_cons_zero, List.set_cons_succ]; with_reducible rfl)
  repeat ((with_reducible refine wpCan_isq ?_); first | (apply wpCan_read rfl (by rfl); (· intro w' hS; go_simp; with_reducible rfl); (· try simp only [Act.put, List.setIfInBounds_toArray, List.set_cons_zero, List.set_cons_succ]; with_reducible rfl)) | (apply wpCan_no rfl (by rfl); (· try simp only [Act.put, List.setIfInBounds_toArray, List.set_cons_zero, List.set_cons_succ]; with_reducible rfl)))
  refine wpCan_nil ?_
  have LA3 := (F3.loc LA2 (by simp)).1
  have LB3 := (F3.loc LB2 (by simp)).1
  have hA3 : a3.heap[w1.heap.size]? = W.heap[w1.heap.size]? := (F3.loc LA2 (by simp)).2.trans (hWa.out _ LA.1)
  have hB3 : a3.heap[w1.heap.size + 1]? = W.heap[w1.heap.size + 1]? := (F3.loc LB2 (by simp)).2.trans (hWa.out _ LB.1)
  have ea := fun j => World.cell?_of_block (a := ⟨w1.heap.size, j, none⟩) hA3
  have eb := fun j => World.cell?_of_block (a := ⟨w1.heap.size + 1, j, none⟩) hB3
  have ef := fun j => World.frozen?_of_block (a := ⟨w1.heap.size + 1, j, none⟩) hB3
  have k1 := (ea 1).trans l1
  have k2 := (ea 2).trans l2
  have k3 := (ea 3).trans l3
  have n0 : a3.cell? ⟨w1.heap.size + 1, 0, none⟩ = some (.int .i64 3) := (eb 0).trans (m 0 (by decide))
  have n1 : a3.cell? ⟨w1.heap.size + 1, 1, none⟩ = some (.int .i64 0) := (eb 1).trans (m 1 (by decide))
  have n2 : a3.cell? ⟨w1.heap.size + 1, 2, none⟩ = some (.int .i64 0) := (eb 2).trans (m 2 (by decide))
  have n3 : a3.cell? ⟨w1.heap.size + 1, 3, none⟩ = some (.int .i64 0) := (eb 3).trans (m 3 (by decide))
  have n4 : a3.cell? ⟨w1.heap.size + 1, 4, none⟩ = some (.int .i64 0) := (eb 4).trans (m 4 (by decide))
  have n5 : a3.cell? ⟨w1.heap.size + 1, 5, none⟩ = some (.int .u64 0) := (eb 5).trans (m 5 (by decide))
  have n6 : a3.cell? ⟨w1.heap.size + 1, 6, none⟩ = some (.int .u64 0) := (eb 6).trans (m 6 (by decide))
  have nf : ∀ j, a3.frozen? ⟨w1.heap.size + 1, j, none⟩ = false := fun j => (ef j).trans (mf j)
  have F03 : Fr [] p w a3 := (Fr.of_below H0 Ha2).trans F3
  clear ea eb ef l0 l1 l2 l3 l4 l5 l6 m mf hA3 hB3 hWa LA2 LB2 HK HA HB HG HI hbW ha1 ha2 Ha1 Ha2 LA LB hsz
  obtain ⟨R1, G1⟩ := R1
  rcases R1.e2 with he | he
  · subst he
    have G1' := hid (G1 rfl)
    clear G1
    have g1 := R1.grow
    have I1 := R1.inv
    have ol : z ≠ 0 → S1.live z := fun q => I1.kid_pos (g := h) (g1.used h (hus.out (Or.inr (Or.inl q)))) q (by rw [g1.node h (hus.out (Or.inr (Or.inl q)))]; exact hk3.out.2.1)
    have I2 : (S1.keep z).Inv (more z (more u f)) := by
      by_cases q : z = 0
      · rw [q, keep_zero I1.wf]; exact I1.zero
      · exact (I1.keep (ol q) (by have := sl.out z; simp only [more]; split <;> omega)).1
    have g2 := Grow.keep S1 z
    have g12 := g1.trans g2
    have bl : b ≠ 0 → (S1.keep z).live b := fun q => I2.kid_pos (g := h) (g12.used h (hus.out (Or.inl q))) q (by rw [g12.node h (hus.out (Or.inl q))]; exact hk3.out.1)
    have B2 := br_kp g12.keeps I.out I2 bl Bb.out
    have HKp := fun w' (H' : Ar w' p S1) => Keep_calls w' p S1 z H'
    have HBI := fun w' (H' : Ar w' p (S1.keep z)) => bInsert_calls w' p (S1.keep z) _ b lb i true H' I2 (fun x => by have := sl.out x; simp only [more]; split <;> split <;> omega) B2 (by rw [hlb.out]; exact hi.out) (by rw [hlb.out]; omega)
    have HK2 := fun w' => waveKid_calls w' (waveNd 0 z u) false
    have HM := fun w' S' f' e x (H' : Ar w' p S') => made_calls w' p S' f' e x H'
    unfold waveNd Nd.arr at HK2
    simp only [if_true, Bool.false_eq_true, if_false] at HK2
    have I1 := hid I1; have I2 := hid I2; have B2 := hid B2; have ol := hid ol; have bl := hid bl
    go_wp2_with fail
    generalize hV : World.setCell _ _ _ = V
    have v0 : V.cell? ⟨w1.heap.size + 1, 0, none⟩ = some (.int .i64 3) := by subst hV; go_simp
    have v1 : V.cell? ⟨w1.heap.size + 1, 1, none⟩ = some (.int .i64 0) := by subst hV; go_simp
    have v2 : V.cell? ⟨w1.heap.size + 1, 2, none⟩ = some (.int .i64 z) := by subst hV; go_simp
    have v3 : V.cell? ⟨w1.heap.size + 1, 3, none⟩ = some (.int .i64 u) := by subst hV; go_simp
    have v4 : V.cell? ⟨w1.heap.size + 1, 4, none⟩ = some (.int .i64 0) := by subst hV; go_simp
    have v5 : V.cell? ⟨w1.heap.size + 1, 5, none⟩ = some (.int .u64 0) := by subst hV; go_simp
    have v6 : V.cell? ⟨w1.heap.size + 1, 6, none⟩ = some (.int .u64 0) := by subst hV; go_simp
    have vf : ∀ j, V.frozen? ⟨w1.heap.size + 1, j, none⟩ = false := fun j => by subst hV; go_simp
    have va : V.cell? ⟨w1.heap.size, 1, none⟩ = some (.int .i64 b) := by subst hV; go_simp
    have nsp : w1.heap.size + 1 ≠ p := LB3.ne
    have FV : Fr [] p w V := by subst hV; exact (F03.setCell _ (Or.inl (by (try dsimp only); omega)) nsp).setCell _ (Or.inl (by (try dsimp only); omega)) nsp
    have HV : Ar V p S1 := by subst hV; exact (H3.setCell _ LB3.2).setCell _ (LB3.setCell _ nsp).2
    have LAV : Loc p V w1.heap.size := by subst hV; exact (LA3.setCell _ nsp).setCell _ nsp
    have LBV : Loc p V (w1.heap.size + 1) := by subst hV; exact (LB3.setCell _ nsp).setCell _ nsp
    clear hV k1 k2 k3 n0 n1 n2 n3 n4 n5 n6 nf LA3 LB3 F03 H3 F3
    refine (HK2 _).mono ?_; rintro o4 a4 ⟨rfl, hb4⟩
    have H4 := HV.below hb4
    have LA4 := LAV.below HV hb4
    have LB4 := LBV.below HV hb4
    have F4 : Fr [] p w a4 := FV.trans (Fr.of_below HV hb4)
    go_wp2_with fail
    refine (HKp _ H4).mono ?_; rintro o5 a5 ⟨rfl, H5, F5⟩
    have LA5 := F5.loc LA4 (by simp)
    have LB5 := F5.loc LB4 (by simp)
    have F5' : Fr [] p w a5 := F4.trans F5
    have va5 : a5.cell? ⟨w1.heap.size, 1, none⟩ = some (.int .i64 b) := (World.cell?_of_block (a := ⟨w1.heap.size, 1, none⟩) (LA5.2.trans (hb4.block _ LAV.1))).trans va
    go_wp2_with fail
    refine (HBI _ H5).mono ?_; rintro o6 a6 ⟨S3, rb, e3, rfl, H6, F6, R3, G3⟩
    have LB6 := F6.loc LB5.1 (by simp)
    have F6' : Fr [] p w a6 := F5'.trans F6
    have hB6 : a6.heap[w1.heap.size + 1]? = V.heap[w1.heap.size + 1]? := LB6.2.trans (LB5.2.trans (hb4.block _ LBV.1))
    have eb := fun j => World.cell?_of_block (a := ⟨w1.heap.size + 1, j, none⟩) hB6
    have u0 := (eb 0).trans v0
    have u1 := (eb 1).trans v1
    have u2 := (eb 2).trans v2
    have u3 := (eb 3).trans v3
    have u4 := (eb 4).trans v4
    have u5 := (eb 5).trans v5
    have u6 := (eb 6).trans v6
    have uf : ∀ j, a6.frozen? ⟨w1.heap.size + 1, j, none⟩ = false := fun j => (World.frozen?_of_block (a := ⟨w1.heap.size + 1, j, none⟩) hB6).trans (vf j)
    clear eb hB6 v0 v1 v2 v3 v4 v5 v6 vf va
    have HM1 := fun w' (H' : Ar w' p S3) => HM w' S3 f e3 (waveNd rb z u) H' R3.e2
    unfold waveNd Nd.arr at HM1
    have lenI : (ins lb i true) ≠ [] := ins_ne lb i true
    have hk0 : e3 = 0 → rb ≠ 0 := fun q r0 => lenI ((br_len R3.inv.wf (G3 q)).1 r0)
    have I3 := R3.inv
    have I3' : S3.Inv (moreK ⟨3, rb, z, u, 0, 0, 0⟩ f) := by
      have e : moreK ⟨3, rb, z, u, 0, 0, 0⟩ f = more 0 (more rb (more z (more u f))) := by
        funext y; simp only [moreK, more]; omega
      rw [e]; exact I3.zero
    have hk0 := hid hk0
    have I3' := hid I3'
    go_wp2_with fail
    refine (HM1 _ (H6.setCell _ LB6.1.2) hk0.out I3'.out ⟨by decide, by decide⟩).mono ?_; rintro o7 a7 ⟨S4, r, e4, rfl, H7, F7, R4, G4⟩
    go_wp2
    go_ret2
    refine ⟨S4, r, e4, rfl, H7, (F6'.setCell _ (Or.inl (by (try dsimp only); omega)) nsp).trans F7, ?_, fun q => ?_⟩
    · have A := resTwo g2 (Inv.usedN_congr (keep_n _ _) (keep_used _ _)) R3 R4
      refine resMono (resTwo (Grow.refl S) rfl R1 A) ?_
      have h1 := hkl.out
      have h2 := hlb.out
      rw [hle.out, h2, Nat.succ_mul]
      have : n * (lu.length + 10) ≤ n * (len + 10) := Nat.mul_le_mul_left _ (by omega)
      omega
    · obtain ⟨en, lv⟩ := G4 q
      have e30 : e3 = 0 := by rcases R3.e2 with h | h; exact h; exact absurd q (R4.err (by omega))
      have I4 := R4.inv
      have kl : ∀ k, k ≠ 0 → 0 < kc (waveNd rb z u) k → S4.live k := fun k k0 hk => I4.kid_pos lv.1 k0 (by rw [en]; exact hk)
      refine fin.out S4 r lv ⟨rb, z, u, en, br_kp R4.grow.keeps R3.inv I4 (fun q => kl rb q (kc_pos.2 (by simp [waveNd]))) (G3 e30), ?_, ?_⟩
      · exact wv_kp ((g12.trans R3.grow).trans R4.grow).keeps I.out I4 (fun q => kl z q (kc_pos.2 (by simp [waveNd]))) Vo.out
      · exact wv_kp ((g2.trans R3.grow).trans R4.grow).keeps I1.out I4 (fun q => kl u q (kc_pos.2 (by simp [waveNd]))) G1'.out
  · subst he
    go_wp2
    go_ret2
    refine ⟨S1, 0, 2, rfl, H3, F03, ?_, fun q => absurd q (by decide)⟩
    have u0 : u = 0 := by rcases R1.out with ⟨q, _⟩ | ⟨_, q, _⟩; exact absurd q (by decide); exact q
    subst u0
    refine resMono R1 ?_
    have h1 := hkl.out
    rw [hle.out, Nat.succ_mul]
    have : n * (lu.length + 10) ≤ n * (len + 10) := Nat.mul_le_mul_left _ (by omega)
    omega

set_option maxHeartbeats 4000000 in
set_option maxRecDepth 100000 in
theorem winsert_false (w : World) (p : Nat) (S : St) (f : Int → Nat) (n : Nat) (h : Int) (l : List Nat) (i s : Nat) (H : Ar w p S) (I : S.Inv f) (sl : slack f 100010) (V : S.wv (n + 1) h l) (hn : n ≤ 8) (hs : s < 257) (hl : l.length < 20000) (hi : i ≤ l.length) (hbt : s.testBit n = false)
    (hR : ∀ (k : Int) (l' : List Nat) (i' : Nat) w', Ar w' p S → S.wv n k l' → l'.length < 20000 → i' ≤ l'.length →
      Calls Tryz.prog 85 #[.pointer (some ⟨p, 0, none⟩), .int .i64 k, .int .i64 i', .int .i64 s, .int .i64 ((9 - n : Nat) : Int)] w' fun o w'' => ∃ S' r e', o = .returned (.tuple #[.int .i64 r, .int .i64 e']) ∧ Ar w'' p S' ∧ Fr [] p w' w'' ∧ WInsR S f n l' i' s S' r e') :
    Calls Tryz.prog 85 #[.pointer (some ⟨p, 0, none⟩), .int .i64 h, .int .i64 i, .int .i64 s, .int .i64 ((9 - (n + 1) : Nat) : Int)] w fun o w' => ∃ S' r e', o = .returned (.tuple #[.int .i64 r, .int .i64 e']) ∧ Ar w' p S' ∧ Fr [] p w w' ∧ WInsR S f (n + 1) l i s S' r e' := by
  obtain ⟨b, z, o, e0, e1, e2, Bb, Vk⟩ := wv_kid H.2 V
  have hk3 : kc (S.node h) b > 0 ∧ kc (S.node h) z > 0 ∧ kc (S.node h) o > 0 := ⟨kc_pos.2 (by simp [e0]), kc_pos.2 (by simp [e1]), kc_pos.2 (by simp [e2])⟩
  have hus : b ≠ 0 ∨ z ≠ 0 ∨ o ≠ 0 → S.used h = true := fun q => by
    rcases V with ⟨rfl, rfl⟩ | ⟨hlv, _⟩
    · rw [(zero_free H.2).2.1] at e0 e1 e2
      simp only [Nd.zero] at e0 e1 e2
      rcases q with q | q | q
      · exact absurd e0.symm q
      · exact absurd e1.symm q
      · exact absurd e2.symm q
    · exact hlv.1
  have HG := fun w' (hb : Below w.heap.size w w') => waveRow_calls w' p S h (H.below hb)
  have HB := fun w' => symBit_calls w' s n hs hn
  have HA := fun w' (hb' : Below w.heap.size w w') => alike_calls w' p S b _ i (s.testBit n) (H.below hb') Bb (by simp; omega) (by simpa using hi)
  have HK := fun w' => waveKid_calls w' (S.node h) (s.testBit n)
  have Vu := Vk false
  have Vo := Vk !false
  have hkl := kidL_length n false l
  have hkk : ((l.map fun s => s.testBit n).take i).count false ≤ (kidL n false l).length := by
    rw [kidL_len]
    have := congrArg List.length (kidL_take n false l i)
    rw [List.length_take, kidL_len] at this; omega
  rw [hbt] at HB HA HK
  have hfil : kidL n false (ins l i s) = ins (kidL n false l) (((l.map fun s => s.testBit n).take i).count false) s := by
    have := filter_ins (fun x : Nat => x.testBit n == false) l i s (by simp [hbt])
    rw [kidL_len]
    unfold kidL
    rw [this, ← List.map_take]
    congr 1
    generalize l.take i = m
    rw [List.count, List.countP_map, List.countP_eq_length_filter]
    congr 1
    refine List.filter_congr fun x _ => ?_
    simp
  have hfil2 : kidL n (!false) (ins l i s) = kidL n (!false) l := filter_ins_not _ l i s (by simp [hbt])
  have hmap := map_ins (fun x : Nat => x.testBit n) l i s
  simp only [hbt] at hmap
  have hine := ins_ne l i s
  have hlen := ins_length l i s
  simp only [Bool.not_true, Bool.not_false, if_true, Bool.false_eq_true, if_false] at Vu Vo hfil2 HK
  have HI := fun w' (hb : Below w.heap.size w w') => hR _ _ (((l.map fun s => s.testBit n).take i).count false) w' (H.below hb) Vu (by omega) hkk
  clear hR Vk V
  have fin : ∀ (S' : St) (r : Int), S'.live r → (∃ b' z' o' : Int, S'.node r = waveNd b' z' o' ∧ S'.br b' (ins (l.map fun s => s.testBit n) i false) ∧ S'.wv n z' (ins (kidL n false l) (((l.map fun s => s.testBit n).take i).count false) s) ∧ S'.wv n o' (kidL n true l)) → S'.wv (n + 1) r (ins l i s) := by
    rintro S' r lv ⟨b', z', o', en, q1, q2, q3⟩
    refine Or.inr ⟨lv, hine, b', z', o', en, by rw [hmap]; exact q1, ?_, ?_⟩
    · have e : ((ins l i s).filter fun s => !s.testBit n) = kidL n false (ins l i s) := by unfold kidL; refine List.filter_congr fun x _ => ?_; simp
      rw [e, hfil]; exact q2
    · have e : ((ins l i s).filter fun s => s.testBit n) = kidL n true (ins l i s) := by unfold kidL; refine List.filter_congr fun x _ => ?_; simp
      rw [e, hfil2]; exact q3
  have fin := hid fin
  have hlb : (l.map fun s => s.testBit n).length = l.length := List.length_map _
  clear hfil hfil2 hmap hine hlen
  generalize ((l.map fun s => s.testBit n).take i).count false = k at *
  generalize hLu : kidL n false l = lu at *
  generalize hLo : kidL n true l = lo at *
  generalize (l.map fun s => s.testBit n) = lb at *
  generalize hle : l.length = len at *
  have hle := hid hle
  have hkl := hid hkl
  have hkk := hid hkk
  have hlb := hid hlb
  have Vo := hid Vo
  have Bb := hid Bb
  have sl := hid sl
  have hi := hid hi
  have hus := hid hus
  have hk3 := hid hk3
  have I := hid I
  have H0 := H
  unfold Nd.arr at HG HK
  rw [e0, e1, e2] at HG HK
  have wc : IntKind.i64.wrap (((8 - n : Nat) : Int) + 1) = ((8 - n : Nat) : Int) + 1 := by rw [show ((8 - n : Nat) : Int) + 1 = ((8 - n + 1 : Nat) : Int) by omega]; exact i64_nat (by omega)
  rw [show 9 - (n + 1) = 8 - n by omega]
  have e9 : ((9 - n : Nat) : Int) = ((8 - n : Nat) : Int) + 1 := by omega
  rw [e9] at HI
  have q1 : ¬ ((8 - n : Nat) : Int) > 8 := by omega
  clear e9 hLu hLo hbt
  generalize ((8 - n : Nat) : Int) = L at *
  clear e0 e1 e2
  have hxs := hid (rfl : S.node h = S.node h)
  generalize hx : S.node h = x at HG HK
  have hx := hid hx
  clear hxs
  go_enter Tryz.func85, Tryz.ntmps85
  go_wp2_with fail
  refine (HG _ (by repeat (first | with_reducible exact Below.refl _ _ | with_reducible assumption | with_reducible refine bel_drewN ?_ | with_reducible refine bel_drew ?_ | with_reducible refine bel_alloc ?_ _ | with_reducible refine bel_set ?_ _ ?_ | with_reducible refine bel_trans ?_ (by with_reducible assumption) | ((try dsimp only); omega)))).mono ?_; rintro o1 w1 ⟨q, rfl, hb1⟩; obtain ⟨hc1, hf1⟩ := bcell hb1
  go_wp2_with fail
  refine (HB _).mono ?_; rintro o2 w3 ⟨rfl, hb3⟩; subst hb3
  go_wp2
  generalize hW : World.alloc _ _ = W
  have hsz : W.heap.size = w1.heap.size + 1 + 1 := by subst hW; simp
  have l0 : W.cell? ⟨w1.heap.size, 0, none⟩ = some (.int .i64 x.tag) := (by subst hW; go_simp); have l1 : W.cell? ⟨w1.heap.size, 1, none⟩ = some (.int .i64 b) := (by subst hW; go_simp); have l2 : W.cell? ⟨w1.heap.size, 2, none⟩ = some (.int .i64 z) := (by subst hW; go_simp); have l3 : W.cell? ⟨w1.heap.size, 3, none⟩ = some (.int .i64 o) := (by subst hW; go_simp); have l4 : W.cell? ⟨w1.heap.size, 4, none⟩ = some (.int .i64 x.k3) := (by subst hW; go_simp); have l5 : W.cell? ⟨w1.heap.size, 5, none⟩ = some (.int .u64 x.a) := (by subst hW; go_simp); have l6 : W.cell? ⟨w1.heap.size, 6, none⟩ = some (.int .u64 x.b) := (by subst hW; go_simp)
  have m : ∀ j, j < 7 → W.cell? ⟨w1.heap.size + 1, j, none⟩ = some (if j < 5 then .int .i64 (if j = 0 then 3 else 0) else .int .u64 0) := fun j hj => by
    subst hW
    match j, hj with
    | 0, _ => go_simp
    | 1, _ => go_simp
    | 2, _ => go_simp
    | 3, _ => go_simp
    | 4, _ => go_simp
    | 5, _ => go_simp
    | 6, _ => go_simp
  have mf : ∀ j, W.frozen? ⟨w1.heap.size + 1, j, none⟩ = false := fun j => by subst hW; go_simp
  have hbW : Below w.heap.size w W := by subst hW; exact (by repeat (first | with_reducible exact Below.refl _ _ | with_reducible assumption | with_reducible refine bel_drewN ?_ | with_reducible refine bel_drew ?_ | with_reducible refine bel_alloc ?_ _ | with_reducible refine bel_set ?_ _ ?_ | with_reducible refine bel_trans ?_ (by with_reducible assumption) | ((try dsimp only); omega)))
  have LA : Loc p W w1.heap.size := by subst hW; exact (Loc.new (H.below hb1) _).alloc ((H.below hb1).alloc _) _
  have LB : Loc p W (w1.heap.size + 1) := by
    subst hW
    have := fun (A B : Obj) => Loc.new (p := p) ((H.below hb1).alloc A) B
    simpa using this _ _
  have hs1 := hb1.size
  clear hW hc1 hf1 hb1
  refine wp_region_can (fun w' => ∀ o, w'.cell? ⟨w1.heap.size, o, none⟩ = W.cell? ⟨w1.heap.size, o, none⟩) [(0, false), (1, false), (2, false), (4, false), (5, false), (6, false), (7, false), (8, false), (9, false), (11, false), (12, false), (13, false), (3, true), (10, true), (14, true), (15, false), (16, false), (17, false), (18, false), (19, false)] (by kernel_rfl) (by kernel_rfl) (fun _ d _ _ _ h => by cases d <;> exact h) ?_ ?_
  · exact fun _ => rfl
  repeat ((with_reducible refine wpCan_isq ?_); first | (apply wpCan_read rfl (by rfl); (· intro w' hS; go_simp; with_reducible rfl); (· try simp only [Act.put, List.setIfInBounds_toArray, List.set_cons_zero, List.set_cons_succ]; with_reducible rfl)) | (apply wpCan_no rfl (by rfl); (· try simp only [Act.put, List.setIfInBounds_toArray, List.set_cons_zero, List.set_cons_succ]; with_reducible rfl)))
  (with_reducible refine wpCan_isl ?_); apply wpCan_call (HK _) rfl (by rfl); (· go_simp); rintro o a1 ⟨rfl, ha1⟩; apply wpCan_told; (· exact fun o => ha1.cell (Nat.lt_of_lt_of_le LA.1 (Nat.le_refl _))); (· try simp only [Act.put, List.setIfInBounds_toArray, List.set_cons_zero, List.set_cons_succ]; with_reducible rfl)
  have Ha1 : Below w.heap.size w a1 := bel_trans (bel_drew hbW) ha1
  (with_reducible refine wpCan_isl ?_); apply wpCan_call (HA _ Ha1) rfl (by rfl); (· go_simp); rintro o a2 ⟨rfl, ha2⟩; apply wpCan_told; (· exact fun o => (ha2.cell (Nat.lt_of_lt_of_le LA.1 ha1.size)).trans (ha1.cell LA.1)); (· try simp only [Act.put, List.setIfInBounds_toArray, List.set_cons_zero, List.set_cons_succ]; with_reducible rfl)
  have Ha2 : Below w.heap.size w a2 := bel_trans Ha1 ha2
  have H2 := H0.below Ha2
  have LA2 := (LA.below (H0.below hbW) (bel_trans (bel_drew (Below.refl _ W)) ha1)).below (H0.below Ha1) ha2
  have LB2 := (LB.below (H0.below hbW) (bel_trans (bel_drew (Below.refl _ W)) ha1)).below (H0.below Ha1) ha2
  have hWa := hid (fun b (h : b < W.heap.size) => (ha2.block b (Nat.lt_of_lt_of_le h ha1.size)).trans (ha1.block b h) : ∀ b, b < W.heap.size → a2.heap[b]? = W.heap[b]?)
  (with_reducible refine wpCan_isl ?_); apply wpCan_call (HI _ Ha2) rfl (by rfl); (· go_simp); rintro o a3 ⟨S1, u, e1, rfl, H3, F3, R1⟩; apply wpCan_told; (· exact fun o => World.cell?_of_block (a := ⟨w1.heap.size, o, none⟩) ((F3.loc LA2 (by simp)).2.trans (hWa.out _ LA.1))); (· try simp only [Act.put, List.setIfInBounds_toArray, List.set_cons_zero, List.set_cons_succ]; with_reducible rfl)
  repeat ((with_reducible refine wpCan_isq ?_); first | (apply wpCan_read rfl (by rfl); (· intro w' hS; go_simp; with_reducible rfl); (· try simp only [Act.put, List.setIfInBounds_toArray, List.set_cons_zero, List.set_cons_succ]; with_reducible rfl)) | (apply wpCan_no rfl (by rfl); (· try simp only [Act.put, List.setIfInBounds_toArray, List.set_cons_zero, List.set_cons_succ]; with_reducible rfl)))
  refine wpCan_nil ?_
  have LA3 := (F3.loc LA2 (by simp)).1
  have LB3 := (F3.loc LB2 (by simp)).1
  have hA3 : a3.heap[w1.heap.size]? = W.heap[w1.heap.size]? := (F3.loc LA2 (by simp)).2.trans (hWa.out _ LA.1)
  have hB3 : a3.heap[w1.heap.size + 1]? = W.heap[w1.heap.size + 1]? := (F3.loc LB2 (by simp)).2.trans (hWa.out _ LB.1)
  have ea := fun j => World.cell?_of_block (a := ⟨w1.heap.size, j, none⟩) hA3
  have eb := fun j => World.cell?_of_block (a := ⟨w1.heap.size + 1, j, none⟩) hB3
  have ef := fun j => World.frozen?_of_block (a := ⟨w1.heap.size + 1, j, none⟩) hB3
  have k1 := (ea 1).trans l1
  have k2 := (ea 2).trans l2
  have k3 := (ea 3).trans l3
  have n0 : a3.cell? ⟨w1.heap.size + 1, 0, none⟩ = some (.int .i64 3) := (eb 0).trans (m 0 (by decide))
  have n1 : a3.cell? ⟨w1.heap.size + 1, 1, none⟩ = some (.int .i64 0) := (eb 1).trans (m 1 (by decide))
  have n2 : a3.cell? ⟨w1.heap.size + 1, 2, none⟩ = some (.int .i64 0) := (eb 2).trans (m 2 (by decide))
  have n3 : a3.cell? ⟨w1.heap.size + 1, 3, none⟩ = some (.int .i64 0) := (eb 3).trans (m 3 (by decide))
  have n4 : a3.cell? ⟨w1.heap.size + 1, 4, none⟩ = some (.int .i64 0) := (eb 4).trans (m 4 (by decide))
  have n5 : a3.cell? ⟨w1.heap.size + 1, 5, none⟩ = some (.int .u64 0) := (eb 5).trans (m 5 (by decide))
  have n6 : a3.cell? ⟨w1.heap.size + 1, 6, none⟩ = some (.int .u64 0) := (eb 6).trans (m 6 (by decide))
  have nf : ∀ j, a3.frozen? ⟨w1.heap.size + 1, j, none⟩ = false := fun j => (ef j).trans (mf j)
  have F03 : Fr [] p w a3 := (Fr.of_below H0 Ha2).trans F3
  clear ea eb ef l0 l1 l2 l3 l4 l5 l6 m mf hA3 hB3 hWa LA2 LB2 HK HA HB HG HI hbW ha1 ha2 Ha1 Ha2 LA LB hsz
  obtain ⟨R1, G1⟩ := R1
  rcases R1.e2 with he | he
  · subst he
    have G1' := hid (G1 rfl)
    clear G1
    have g1 := R1.grow
    have I1 := R1.inv
    have ol : o ≠ 0 → S1.live o := fun q => I1.kid_pos (g := h) (g1.used h (hus.out (Or.inr (Or.inr q)))) q (by rw [g1.node h (hus.out (Or.inr (Or.inr q)))]; exact hk3.out.2.2)
    have I2 : (S1.keep o).Inv (more o (more u f)) := by
      by_cases q : o = 0
      · rw [q, keep_zero I1.wf]; exact I1.zero
      · exact (I1.keep (ol q) (by have := sl.out o; simp only [more]; split <;> omega)).1
    have g2 := Grow.keep S1 o
    have g12 := g1.trans g2
    have bl : b ≠ 0 → (S1.keep o).live b := fun q => I2.kid_pos (g := h) (g12.used h (hus.out (Or.inl q))) q (by rw [g12.node h (hus.out (Or.inl q))]; exact hk3.out.1)
    have B2 := br_kp g12.keeps I.out I2 bl Bb.out
    have HKp := fun w' (H' : Ar w' p S1) => Keep_calls w' p S1 o H'
    have HBI := fun w' (H' : Ar w' p (S1.keep o)) => bInsert_calls w' p (S1.keep o) _ b lb i false H' I2 (fun x => by have := sl.out x; simp only [more]; split <;> split <;> omega) B2 (by rw [hlb.out]; exact hi.out) (by rw [hlb.out]; omega)
    have HK2 := fun w' => waveKid_calls w' (waveNd 0 u o) true
    have HM := fun w' S' f' e x (H' : Ar w' p S') => made_calls w' p S' f' e x H'
    unfold waveNd Nd.arr at HK2
    simp only [if_true, Bool.false_eq_true, if_false] at HK2
    have I1 := hid I1; have I2 := hid I2; have B2 := hid B2; have ol := hid ol; have bl := hid bl
    go_wp2
    generalize hU : World.setCell _ _ _ = U
    have x0 : U.cell? ⟨w1.heap.size + 1, 0, none⟩ = some (.int .i64 3) := by subst hU; go_simp
    have x1 : U.cell? ⟨w1.heap.size + 1, 1, none⟩ = some (.int .i64 0) := by subst hU; go_simp
    have x2 : U.cell? ⟨w1.heap.size + 1, 2, none⟩ = some (.int .i64 z) := by subst hU; go_simp
    have x3 : U.cell? ⟨w1.heap.size + 1, 3, none⟩ = some (.int .i64 u) := by subst hU; go_simp
    have x4 : U.cell? ⟨w1.heap.size + 1, 4, none⟩ = some (.int .i64 0) := by subst hU; go_simp
    have x5 : U.cell? ⟨w1.heap.size + 1, 5, none⟩ = some (.int .u64 0) := by subst hU; go_simp
    have x6 : U.cell? ⟨w1.heap.size + 1, 6, none⟩ = some (.int .u64 0) := by subst hU; go_simp
    have xf : ∀ j, U.frozen? ⟨w1.heap.size + 1, j, none⟩ = false := fun j => by subst hU; go_simp
    have y1 : U.cell? ⟨w1.heap.size, 1, none⟩ = some (.int .i64 b) := by subst hU; go_simp
    have y3 : U.cell? ⟨w1.heap.size, 3, none⟩ = some (.int .i64 o) := by subst hU; go_simp
    have nsp : w1.heap.size + 1 ≠ p := LB3.ne
    have FU : Fr [] p w U := by subst hU; exact (F03.setCell _ (Or.inl (by (try dsimp only); omega)) nsp).setCell _ (Or.inl (by (try dsimp only); omega)) nsp
    have HU : Ar U p S1 := by subst hU; exact (H3.setCell _ LB3.2).setCell _ (LB3.setCell _ nsp).2
    have LAU : Loc p U w1.heap.size := by subst hU; exact (LA3.setCell _ nsp).setCell _ nsp
    have LBU : Loc p U (w1.heap.size + 1) := by subst hU; exact (LB3.setCell _ nsp).setCell _ nsp
    clear hU k1 k2 k3 n0 n1 n2 n3 n4 n5 n6 nf LA3 LB3 F03 H3 F3
    refine wp_region_can (fun w' => w'.cell? ⟨w1.heap.size, 3, none⟩ = some (.int .i64 o)) [(0, false), (1, false), (2, false), (3, false), (4, false), (5, false), (7, false), (6, true), (8, false), (9, true)] (by kernel_rfl) (by kernel_rfl) (fun _ d _ _ _ h => by cases d <;> exact h) ?_ ?_
    · exact y3
    repeat ((with_reducible refine wpCan_isq ?_); first | (apply wpCan_read rfl (by rfl); (· intro w' hS; go_simp; with_reducible rfl); (· try simp only [Act.put, List.setIfInBounds_toArray, List.set_cons_zero, List.set_cons_succ]; with_reducible rfl)) | (apply wpCan_no rfl (by rfl); (· try simp only [Act.put, List.setIfInBounds_toArray, List.set_cons_zero, List.set_cons_succ]; with_reducible rfl)))
    (with_reducible refine wpCan_isl ?_); apply wpCan_skip rfl (by rfl); (· go_simp; with_reducible rfl); (· try simp only [Act.put, List.setIfInBounds_toArray, List.set_cons_zero, List.set_cons_succ]; with_reducible rfl); (· go_simp)
    repeat ((with_reducible refine wpCan_isq ?_); first | (apply wpCan_read rfl (by rfl); (· intro w' hS; go_simp; with_reducible rfl); (· try simp only [Act.put, List.setIfInBounds_toArray, List.set_cons_zero, List.set_cons_succ]; with_reducible rfl)) | (apply wpCan_no rfl (by rfl); (· try simp only [Act.put, List.setIfInBounds_toArray, List.set_cons_zero, List.set_cons_succ]; with_reducible rfl)))
    (with_reducible refine wpCan_isl ?_); apply wpCan_skip rfl (by rfl); (· go_simp; with_reducible rfl); (· try simp only [Act.put, List.setIfInBounds_toArray, List.set_cons_zero, List.set_cons_succ]; with_reducible rfl); (· go_simp)
    refine wpCan_nil ?_
    go_wp2_with fail
    generalize hV : World.setCell _ _ _ = V
    have v0 : V.cell? ⟨w1.heap.size + 1, 0, none⟩ = some (.int .i64 3) := by subst hV; go_simp
    have v1 : V.cell? ⟨w1.heap.size + 1, 1, none⟩ = some (.int .i64 0) := by subst hV; go_simp
    have v2 : V.cell? ⟨w1.heap.size + 1, 2, none⟩ = some (.int .i64 u) := by subst hV; go_simp
    have v3 : V.cell? ⟨w1.heap.size + 1, 3, none⟩ = some (.int .i64 o) := by subst hV; go_simp
    have v4 : V.cell? ⟨w1.heap.size + 1, 4, none⟩ = some (.int .i64 0) := by subst hV; go_simp
    have v5 : V.cell? ⟨w1.heap.size + 1, 5, none⟩ = some (.int .u64 0) := by subst hV; go_simp
    have v6 : V.cell? ⟨w1.heap.size + 1, 6, none⟩ = some (.int .u64 0) := by subst hV; go_simp
    have vf : ∀ j, V.frozen? ⟨w1.heap.size + 1, j, none⟩ = false := fun j => by subst hV; go_simp
    have va : V.cell? ⟨w1.heap.size, 1, none⟩ = some (.int .i64 b) := by subst hV; go_simp
    have nsp : w1.heap.size + 1 ≠ p := LBU.ne
    have FV : Fr [] p w V := by subst hV; exact (FU.setCell _ (Or.inl (by (try dsimp only); omega)) nsp).setCell _ (Or.inl (by (try dsimp only); omega)) nsp
    have HV : Ar V p S1 := by subst hV; exact (HU.setCell _ LBU.2).setCell _ (LBU.setCell _ nsp).2
    have LAV : Loc p V w1.heap.size := by subst hV; exact (LAU.setCell _ nsp).setCell _ nsp
    have LBV : Loc p V (w1.heap.size + 1) := by subst hV; exact (LBU.setCell _ nsp).setCell _ nsp
    clear hV x0 x1 x2 x3 x4 x5 x6 xf y1 y3 LAU LBU FU HU
    have FV := FV.drew
    have HV := HV.drew
    have LAV := LAV.drew
    have LBV := LBV.drew
    refine (HK2 _).mono ?_; rintro o4 a4 ⟨rfl, hb4⟩
    have H4 := HV.below hb4
    have LA4 := LAV.below HV hb4
    have LB4 := LBV.below HV hb4
    have F4 : Fr [] p w a4 := FV.trans (Fr.of_below HV hb4)
    go_wp2_with fail
    refine (HKp _ H4).mono ?_; rintro o5 a5 ⟨rfl, H5, F5⟩
    have LA5 := F5.loc LA4 (by simp)
    have LB5 := F5.loc LB4 (by simp)
    have F5' : Fr [] p w a5 := F4.trans F5
    have va5 : a5.cell? ⟨w1.heap.size, 1, none⟩ = some (.int .i64 b) := (World.cell?_of_block (a := ⟨w1.heap.size, 1, none⟩) (LA5.2.trans (hb4.block _ LAV.1))).trans va
    go_wp2_with fail
    refine (HBI _ H5).mono ?_; rintro o6 a6 ⟨S3, rb, e3, rfl, H6, F6, R3, G3⟩
    have LB6 := F6.loc LB5.1 (by simp)
    have F6' : Fr [] p w a6 := F5'.trans F6
    have hB6 : a6.heap[w1.heap.size + 1]? = V.heap[w1.heap.size + 1]? := LB6.2.trans (LB5.2.trans (hb4.block _ LBV.1))
    have eb := fun j => World.cell?_of_block (a := ⟨w1.heap.size + 1, j, none⟩) hB6
    have u0 := (eb 0).trans v0
    have u1 := (eb 1).trans v1
    have u2 := (eb 2).trans v2
    have u3 := (eb 3).trans v3
    have u4 := (eb 4).trans v4
    have u5 := (eb 5).trans v5
    have u6 := (eb 6).trans v6
    have uf : ∀ j, a6.frozen? ⟨w1.heap.size + 1, j, none⟩ = false := fun j => (World.frozen?_of_block (a := ⟨w1.heap.size + 1, j, none⟩) hB6).trans (vf j)
    clear eb hB6 v0 v1 v2 v3 v4 v5 v6 vf va
    have HM1 := fun w' (H' : Ar w' p S3) => HM w' S3 f e3 (waveNd rb u o) H' R3.e2
    unfold waveNd Nd.arr at HM1
    have lenI : (ins lb i false) ≠ [] := ins_ne lb i false
    have hk0 : e3 = 0 → rb ≠ 0 := fun q r0 => lenI ((br_len R3.inv.wf (G3 q)).1 r0)
    have I3 := R3.inv
    have I3' : S3.Inv (moreK ⟨3, rb, u, o, 0, 0, 0⟩ f) := by
      have e : moreK ⟨3, rb, u, o, 0, 0, 0⟩ f = more 0 (more rb (more o (more u f))) := by
        funext y; simp only [moreK, more]; omega
      rw [e]; exact I3.zero
    have hk0 := hid hk0
    have I3' := hid I3'
    go_wp2_with fail
    refine (HM1 _ (H6.setCell _ LB6.1.2) hk0.out I3'.out ⟨by decide, by decide⟩).mono ?_; rintro o7 a7 ⟨S4, r, e4, rfl, H7, F7, R4, G4⟩
    go_wp2
    go_ret2
    refine ⟨S4, r, e4, rfl, H7, (F6'.setCell _ (Or.inl (by (try dsimp only); omega)) nsp).trans F7, ?_, fun q => ?_⟩
    · have A := resTwo g2 (Inv.usedN_congr (keep_n _ _) (keep_used _ _)) R3 R4
      refine resMono (resTwo (Grow.refl S) rfl R1 A) ?_
      have h1 := hkl.out
      have h2 := hlb.out
      rw [hle.out, h2, Nat.succ_mul]
      have : n * (lu.length + 10) ≤ n * (len + 10) := Nat.mul_le_mul_left _ (by omega)
      omega
    · obtain ⟨en, lv⟩ := G4 q
      have e30 : e3 = 0 := by rcases R3.e2 with h | h; exact h; exact absurd q (R4.err (by omega))
      have I4 := R4.inv
      have kl : ∀ k, k ≠ 0 → 0 < kc (waveNd rb u o) k → S4.live k := fun k k0 hk => I4.kid_pos lv.1 k0 (by rw [en]; exact hk)
      refine fin.out S4 r lv ⟨rb, u, o, en, br_kp R4.grow.keeps R3.inv I4 (fun q => kl rb q (kc_pos.2 (by simp [waveNd]))) (G3 e30), ?_, ?_⟩
      · exact wv_kp ((g2.trans R3.grow).trans R4.grow).keeps I1.out I4 (fun q => kl u q (kc_pos.2 (by simp [waveNd]))) G1'.out
      · exact wv_kp ((g12.trans R3.grow).trans R4.grow).keeps I.out I4 (fun q => kl o q (kc_pos.2 (by simp [waveNd]))) Vo.out
  · subst he
    go_wp2
    go_ret2
    refine ⟨S1, 0, 2, rfl, H3, F03, ?_, fun q => absurd q (by decide)⟩
    have u0 : u = 0 := by rcases R1.out with ⟨q, _⟩ | ⟨_, q, _⟩; exact absurd q (by decide); exact q
    subst u0
    refine resMono R1 ?_
    have h1 := hkl.out
    rw [hle.out, Nat.succ_mul]
    have : n * (lu.length + 10) ≤ n * (len + 10) := Nat.mul_le_mul_left _ (by omega)
    omega

end Go.Proofs.YtngfalbabgpnnaaGreat

namespace Go.Proofs.YtngfalbabgpnnaaGreat
open Go.RowKit St

set_option maxHeartbeats 1000000 in
theorem winsert_zero (w : World) (p : Nat) (S : St) (f : Int → Nat) (h : Int) (l : List Nat) (i s : Nat) (H : Ar w p S) (I : S.Inv f) :
    Calls Tryz.prog 85 #[.pointer (some ⟨p, 0, none⟩), .int .i64 h, .int .i64 i, .int .i64 s, .int .i64 9] w fun o w' => ∃ S' r e', o = .returned (.tuple #[.int .i64 r, .int .i64 e']) ∧ Ar w' p S' ∧ Fr [] p w w' ∧ WInsR S f 0 l i s S' r e' := by
  go_enter Tryz.func85, Tryz.ntmps85
  go_wp2
  go_ret2
  exact ⟨S, 0, 0, rfl, H, Fr.refl _ _ _, ⟨Grow.refl S, by omega, Or.inl ⟨rfl, I.zero⟩, fun h => absurd rfl h, fun _ _ => rfl⟩, fun _ => rfl⟩

theorem winsert_calls (p s : Nat) (hs : s < 257) : ∀ (n : Nat) (h : Int) (l : List Nat) (i : Nat) (w : World) (S : St) (f : Int → Nat), n ≤ 9 → Ar w p S → S.Inv f → slack f 100010 → S.wv n h l → l.length < 20000 → i ≤ l.length →
    Calls Tryz.prog 85 #[.pointer (some ⟨p, 0, none⟩), .int .i64 h, .int .i64 i, .int .i64 s, .int .i64 ((9 - n : Nat) : Int)] w fun o w' => ∃ S' r e', o = .returned (.tuple #[.int .i64 r, .int .i64 e']) ∧ Ar w' p S' ∧ Fr [] p w w' ∧ WInsR S f n l i s S' r e'
  | 0, h, l, i, w, S, f, _, H, I, _, _, _, _ => winsert_zero w p S f h l i s H I
  | n + 1, h, l, i, w, S, f, hn, H, I, sl, V, hl, hi => by
    have hR := fun (k : Int) (l' : List Nat) (i' : Nat) w' (H' : Ar w' p S) (V' : S.wv n k l') (h1 : l'.length < 20000) (h2 : i' ≤ l'.length) => winsert_calls p s hs n k l' i' w' S f (by omega) H' I sl V' h1 h2
    cases hbt : s.testBit n with
    | true => exact winsert_true w p S f n h l i s H I sl V (by omega) hs hl hi hbt hR
    | false => exact winsert_false w p S f n h l i s H I sl V (by omega) hs hl hi hbt hR

set_option maxHeartbeats 2000000 in
theorem wInsert_calls (w : World) (p : Nat) (S : St) (f : Int → Nat) (h : Int) (l : List Nat) (i s : Nat) (H : Ar w p S) (I : S.Inv f) (sl : slack f 100010) (V : S.wv 9 h l) (hs : s < 257) (hl : l.length < 20000) (hi : i ≤ l.length) :
    Calls Tryz.prog 43 #[.pointer (some ⟨p, 0, none⟩), .int .i64 h, .int .i64 i, .int .i64 s] w fun o w' => ∃ S' r e', o = .returned (.tuple #[.int .i64 r, .int .i64 e']) ∧ Ar w' p S' ∧ Fr [] p w w' ∧
      Res S f 0 S' r e' (9 * (l.length + 10)) ∧ (e' = 0 → S'.wv 9 r (ins l i s)) := by
  have HI := fun w' => waveIs_calls w' s hs
  have HL := fun w' (hb : Below w.heap.size w w') => waveLen_calls w' p S h 8 l (H.below hb) V (by omega)
  have HW := fun w' (hb : Below w.heap.size w w') => winsert_calls p s hs 9 h l i w' S f (by omega) (H.below hb) I sl V hl hi
  have q1 : ¬ (i : Int) < 0 := by omega
  have q2 : ¬ (i : Int) > (l.length : Nat) := by omega
  have q3 : (i : Int) ≤ (l.length : Nat) := by omega
  clear V
  go_enter Tryz.func43, Tryz.ntmps43
  go_wp2_with fail
  refine (HI _).mono ?_; rintro o1 w1 ⟨rfl, rfl⟩
  go_wp2_with fail
  refine (HL _ (by repeat (first | with_reducible exact Below.refl _ _ | with_reducible assumption | with_reducible refine bel_drewN ?_ | with_reducible refine bel_drew ?_ | with_reducible refine bel_alloc ?_ _ | with_reducible refine bel_set ?_ _ ?_ | with_reducible refine bel_trans ?_ (by with_reducible assumption) | ((try dsimp only); omega)))).mono ?_; rintro o1 w2 ⟨rfl, hb2⟩
  go_wp2_with fail
  refine (HW _ (by repeat (first | with_reducible exact Below.refl _ _ | with_reducible assumption | with_reducible refine bel_drewN ?_ | with_reducible refine bel_drew ?_ | with_reducible refine bel_alloc ?_ _ | with_reducible refine bel_set ?_ _ ?_ | with_reducible refine bel_trans ?_ (by with_reducible assumption) | ((try dsimp only); omega)))).mono ?_; rintro o3 w3 ⟨S', r, e', rfl, H3, F3, R, G⟩
  go_wp2
  go_ret2
  exact ⟨S', r, e', rfl, H3, (Fr.of_below H hb2).trans F3, R, G⟩

set_option maxHeartbeats 4000000 in
set_option maxRecDepth 100000 in
theorem wAll_calls (w : World) (p : Nat) (S : St) (h : Int) (l : List Nat) (H : Ar w p S) (V : S.wv 9 h l) (hl : l.length < 1000000) (h257 : ∀ x ∈ l, x < 257) :
    Calls Tryz.prog 56 #[.pointer (some ⟨p, 0, none⟩), .int .i64 h] w fun e w' => ∃ v, e = .returned v ∧ w'.ownsRow w.heap.size 3 1 v l.length (l.map fun x : Nat => .int .i64 (x : Int)) ∧ Below w.heap.size w w' := by
  obtain ⟨i0, hi, hz0, hz1, hz2⟩ := info_parts info_int
  have HL := fun w' (hb : Below w.heap.size w w') => waveLen_calls w' p S h 8 l (H.below hb) V (by omega)
  have HG := fun w' (hb : Below w.heap.size w w') (i : Nat) (b : Nat) (hi : l[i]? = some b) => waveGet_calls w' p S h l i b (H.below hb) V hl hi (h257 b (List.mem_of_getElem? hi))
  go_enter Tryz.func56, Tryz.ntmps56
  go_wp2_with fail
  refine (HL _ (by repeat (first | with_reducible exact Below.refl _ _ | with_reducible assumption | with_reducible refine bel_drewN ?_ | with_reducible refine bel_drew ?_ | with_reducible refine bel_alloc ?_ _ | with_reducible refine bel_set ?_ _ ?_ | with_reducible refine bel_trans ?_ (by with_reducible assumption) | ((try dsimp only); omega)))).mono ?_; rintro e w1 ⟨rfl, hb1⟩
  go_wp2
  go_loopw [5, 12] (fun v c wr => ∃ i : Nat, i ≤ l.length ∧ c = .int .i64 i ∧ Below w.heap.size w wr ∧ wr.ownsRow w.heap.size 3 1 v i ((l.take i).map fun x : Nat => .int .i64 (x : Int))) (fun _ c _ => l.length - (intOf c).toNat)
  case atStart =>
    exact ⟨0, by omega, rfl, (by repeat (first | with_reducible exact Below.refl _ _ | with_reducible assumption | with_reducible refine bel_drewN ?_ | with_reducible refine bel_drew ?_ | with_reducible refine bel_alloc ?_ _ | with_reducible refine bel_set ?_ _ ?_ | with_reducible refine bel_trans ?_ (by with_reducible assumption) | ((try dsimp only); omega))), World.ownsRow_nil _ _ _ _⟩
  case round =>
    obtain ⟨i, hin, rfl, hb, ho⟩ := hrel
    have hv := ho.lt
    by_cases hil : i = l.length
    · subst hil
      rw [List.take_of_length_le (by simp)] at ho
      go_wp2
      go_ret
      exact ⟨_, rfl, ho, hb⟩
    · have hlt : i < l.length := by omega
      have hlt' : (i : Int) < (l.length : Nat) := by omega
      obtain ⟨b, hbi⟩ : ∃ b, l[i]? = some b := ⟨l[i], List.getElem?_eq_getElem hlt⟩
      have HG1 := HG wr hb i b hbi
      have etk := hid (show (l.map fun x : Nat => Value.int .i64 (x : Int)).take i ++ [.int .i64 (b : Int)] = (l.map fun x : Nat => Value.int .i64 (x : Int)).take (i + 1) by
        rw [List.take_add_one, List.getElem?_map, hbi]; rfl)
      clear HG hbi
      go_wp2_with fail
      refine HG1.mono ?_; rintro e w2 ⟨rfl, hb2⟩
      have ho2 := own_below ho hb2
      have hb3 : Below w.heap.size w w2 := (by repeat (first | with_reducible exact Below.refl _ _ | with_reducible assumption | with_reducible refine bel_drewN ?_ | with_reducible refine bel_drew ?_ | with_reducible refine bel_alloc ?_ _ | with_reducible refine bel_set ?_ _ ?_ | with_reducible refine bel_trans ?_ (by with_reducible assumption) | ((try dsimp only); omega)))
      have hs3 := hb3.size
      clear ho hb2 hb
      go_wp2_with (at_builtin; refine wpList_append_own _ rfl (.tmp 22) (.tmp 24) 50 rfl w.heap.size 3 i0 (.int .i64 0) 1 8 Tryz.underlying50 hi hz0 hz1 hz2 rfl (by decide) u5 i _ rfl (ho2.alloc _) ⟨w2.heap.size, 0, none⟩ 1 1 [.int .i64 b] rfl rfl ?c1 ?c2 (by unfold maxLen; omega) (by omega) (by simp; omega) ?_)
      case c1 => intro j u hj; match j, hj with | 0, hj => simp at hj; subst hj; simp only [Addr.add, if_true]; rw [World.cell?_alloc_at _ _ _ _ (by simp)]; rfl
      case c2 => intro u hu; simp at hu; subst hu; rfl
      intro v' w3 ho3 hg3 _
      have hb4 := below_grown (bel_alloc hb3 _) (ho2.alloc _) hg3
      rw [etk.out] at ho3
      clear hg3
      go_wp2
      go_roundw
      case rel => exact ⟨i + 1, by omega, by simp, hb4, by simpa using ho3⟩
      case measure => simp [intOf]; omega
end Go.Proofs.YtngfalbabgpnnaaGreat
