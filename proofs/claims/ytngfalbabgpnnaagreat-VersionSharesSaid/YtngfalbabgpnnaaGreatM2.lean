/-
  Rows of bits as trees in the arena's state: a tree, where it lies, and the row of bits that a handle stands for.
  What is counted: the invariant of the arena between calls; 'f' is how often each node is held from outside.
  The invariant behind Make; what only grows.
  Lists that a call has made.
  What Work leaves; how many nodes are used where all is held.
  Rows of symbols in the arena's state; plain facts.
  Lists of pairs of numbers as trees in the arena's state.
  The walks of the arena's smaller functions.
-/
import Derived.Test.YtngfalbabgpnnaaGreatM1
import Derived.Laws.AppendOwn
import Derived.Test.YtngfalbabgpnnaaGreatProg
set_option linter.unusedVariables false
set_option linter.unusedSimpArgs false
namespace Go.Proofs.YtngfalbabgpnnaaGreat
open Go.RowKit

/-- A tree of leaves of bits. -/
inductive BT where
  | leaf (l : List Bool)
  | fork (x y : BT)

namespace BT
def bits : BT → List Bool
  | leaf l => l
  | fork x y => x.bits ++ y.bits
def high : BT → Nat
  | leaf _ => 1
  | fork x y => 1 + max x.high y.high
def leaves : BT → Nat
  | leaf _ => 1
  | fork x y => x.leaves + y.leaves
/-- All leaves have enough bits, and not too many. -/
def fat : BT → Prop
  | leaf l => 16 ≤ l.length ∧ l.length ≤ 64
  | fork x y => x.fat ∧ y.fat
def ok : BT → Prop
  | leaf l => 1 ≤ l.length ∧ l.length ≤ 64
  | fork x y => x.fat ∧ y.fat
theorem fat.ok {t : BT} (h : t.fat) : t.ok := by cases t with | leaf l => exact ⟨by have := h.1; omega, h.2⟩ | fork x y => exact h
theorem ok.len {t : BT} (h : t.ok) : 1 ≤ t.bits.length := by
  induction t with
  | leaf l => exact h.1
  | fork x y hx _ => have := hx (fat.ok h.1); simp only [bits, List.length_append]; omega
theorem fat.len {t : BT} (h : t.fat) : 16 * t.leaves ≤ t.bits.length := by
  induction t with
  | leaf l => exact h.1
  | fork x y hx hy => have := hx h.1; have := hy h.2; simp only [bits, leaves, List.length_append]; omega
theorem high_pos (t : BT) : 1 ≤ t.high := by cases t <;> simp [high] <;> omega
theorem leaves_pos (t : BT) : 1 ≤ t.leaves := by induction t with | leaf l => exact Nat.le_refl _ | fork x y hx hy => simp only [leaves]; omega
theorem high_le (t : BT) : t.high ≤ t.leaves := by
  induction t with
  | leaf l => exact Nat.le_refl _
  | fork x y hx hy => have := x.leaves_pos; have := y.leaves_pos; simp only [high, leaves]; omega
end BT

def forkNd (hx hy : Int) (n o : Nat) : Nd := ⟨2, hx, hy, 0, 0, n, o⟩

namespace St
def live (S : St) (h : Int) : Prop := S.used h = true ∧ 0 < S.cnt h
/-- A tree lies at a handle. -/
def bt (S : St) : Int → BT → Prop
  | h, .leaf l => S.live h ∧ S.node h = leafNd l ∧ l.length ≤ 64
  | h, .fork x y => S.live h ∧ ∃ hx hy, S.node h = forkNd hx hy (x.bits.length + y.bits.length) (x.bits.count true + y.bits.count true) ∧ S.bt hx x ∧ S.bt hy y
/-- What a handle stands for: 0 stands for no bits. -/
def br (S : St) (h : Int) (l : List Bool) : Prop := (h = 0 ∧ l = []) ∨ ∃ t, S.bt h t ∧ t.ok ∧ t.bits = l
theorem bt.live {S : St} {h : Int} {t : BT} (H : S.bt h t) : S.live h := by cases t <;> exact H.1
theorem live.ne {S : St} (W : S.WF) {h : Int} (H : S.live h) : 1 ≤ h ∧ h ≤ S.n := by
  have := H.1
  by_cases q : h < 1 ∨ (S.n : Int) < h
  · rw [W.out h q] at this; cases this
  · omega
theorem bRow_leaf {S : St} {h : Int} {l : List Bool} (H : S.bt h (.leaf l)) : S.bRow h = true := by
  obtain ⟨⟨h1, h2⟩, h3, _⟩ := H
  simp [bRow, live2, h1, h2, h3, leafNd]
theorem bRow_fork {S : St} {h : Int} {x y : BT} (H : S.bt h (.fork x y)) : S.bRow h = true := by
  obtain ⟨⟨h1, h2⟩, hx, hy, h3, _⟩ := H
  simp [bRow, live2, h1, h2, h3, forkNd]
theorem zero_free {S : St} (W : S.WF) : S.used 0 = false ∧ S.node 0 = Nd.zero ∧ S.cnt 0 = 0 := by
  have := W.out 0 (Or.inl (by decide))
  exact ⟨this, W.free 0 this⟩
theorem bRow_zero {S : St} (W : S.WF) : S.bRow 0 = false := by simp [bRow, live2, (zero_free W).1]
theorem br_len {S : St} (W : S.WF) {h : Int} {l : List Bool} (H : S.br h l) : (h = 0 ↔ l = []) := by
  rcases H with ⟨rfl, rfl⟩ | ⟨t, h1, h2, rfl⟩
  · simp
  · have a := (live.ne W h1.live).1
    have b := h2.len
    constructor
    · rintro rfl; omega
    · intro e; rw [e] at b; simp at b
end St
end Go.Proofs.YtngfalbabgpnnaaGreat

namespace Go.Proofs.YtngfalbabgpnnaaGreat
open Go.RowKit

def sumTo (g : Nat → Nat) : Nat → Nat
  | 0 => 0
  | k + 1 => sumTo g k + g k
theorem sumTo_congr {g h : Nat → Nat} {k : Nat} (e : ∀ i, i < k → g i = h i) : sumTo g k = sumTo h k := by
  induction k with
  | zero => rfl
  | succ k ih => simp only [sumTo]; rw [ih fun i hi => e i (by omega), e k (by omega)]
theorem sumTo_upd {g h : Nat → Nat} {k : Nat} {j : Nat} (hj : j < k) (e : ∀ i, i < k → i ≠ j → g i = h i) : sumTo g k + h j = sumTo h k + g j := by
  induction k with
  | zero => omega
  | succ k ih =>
    simp only [sumTo]
    by_cases q : j = k
    · subst q
      rw [sumTo_congr fun i hi => e i (by omega) (by omega)]; omega
    · have := ih (by omega) fun i hi hne => e i (by omega) hne
      have := e k (by omega) (by omega)
      omega
theorem sumTo_le {g h : Nat → Nat} {k : Nat} (e : ∀ i, i < k → g i ≤ h i) : sumTo g k ≤ sumTo h k := by
  induction k with
  | zero => exact Nat.le_refl _
  | succ k ih => simp only [sumTo]; have := ih fun i hi => e i (by omega); have := e k (by omega); omega
theorem sumTo_const (c k : Nat) : sumTo (fun _ => c) k = k * c := by
  induction k with
  | zero => simp [sumTo]
  | succ k ih => simp only [sumTo, ih, Nat.succ_mul]
theorem le_sumTo {g : Nat → Nat} {k j : Nat} (hj : j < k) : g j ≤ sumTo g k := by
  induction k with
  | zero => omega
  | succ k ih =>
    simp only [sumTo]
    by_cases q : j = k
    · subst q; omega
    · have := ih (by omega); omega
theorem sumTo_pos {g : Nat → Nat} {k : Nat} (h : 0 < sumTo g k) : ∃ j, j < k ∧ 0 < g j := by
  induction k with
  | zero => simp [sumTo] at h
  | succ k ih =>
    simp only [sumTo] at h
    by_cases q : 0 < g k
    · exact ⟨k, by omega, q⟩
    · obtain ⟨j, h1, h2⟩ := ih (by omega)
      exact ⟨j, by omega, h2⟩

/-- How often a node is a kid of one. -/
def kc (x : Nd) (h : Int) : Nat := (if x.k0 = h then 1 else 0) + (if x.k1 = h then 1 else 0) + (if x.k2 = h then 1 else 0) + (if x.k3 = h then 1 else 0)
theorem kc_le (x : Nd) (h : Int) : kc x h ≤ 4 := by unfold kc; repeat' split <;> try omega
theorem kc_pos {x : Nd} {h : Int} : 0 < kc x h ↔ (x.k0 = h ∨ x.k1 = h ∨ x.k2 = h ∨ x.k3 = h) := by
  unfold kc
  by_cases h0 : x.k0 = h <;> by_cases h1 : x.k1 = h <;> by_cases h2 : x.k2 = h <;> by_cases h3 : x.k3 = h <;> simp [h0, h1, h2, h3]
theorem kc_zero (h : Int) (hh : h ≠ 0) : kc Nd.zero h = 0 := by simp [kc, Nd.zero, Ne.symm hh]

/-- Held once more. -/
def more (h : Int) (f : Int → Nat) : Int → Nat := fun x => f x + if x = h then 1 else 0
theorem more_comm (a b : Int) (f : Int → Nat) : more a (more b f) = more b (more a f) := by funext x; simp only [more]; omega
theorem more_self (h : Int) (f : Int → Nat) : more h f h = f h + 1 := by simp [more]
theorem more_le (h x : Int) (f : Int → Nat) : f x ≤ more h f x := by simp only [more]; omega

namespace St
def refs (S : St) (h : Int) : Nat := sumTo (fun i => if S.used ((i : Int) + 1) then kc (S.node ((i : Int) + 1)) h else 0) S.n
def usedN (S : St) : Nat := sumTo (fun i => if S.used ((i : Int) + 1) then 1 else 0) S.n
def big : Nat := 1099511627776

structure Inv (S : St) (f : Int → Nat) : Prop where
  wf : S.WF
  cnt : ∀ h, h ≠ 0 → S.used h = true → S.cnt h = (S.refs h + f h : Nat)
  held : ∀ h, h ≠ 0 → 0 < f h → S.used h = true
  kids : ∀ g, S.used g = true → ∀ k, k ≠ 0 → 0 < kc (S.node g) k → S.used k = true
  rank : ∃ r : Int → Nat, ∀ g, S.used g = true → ∀ k, k ≠ 0 → 0 < kc (S.node g) k → r k < r g
  wait : ∀ h, S.used h = true → S.cnt h = 0 → h ∈ S.wait
  busy : S.busy = S.usedN
  small : ∀ h, h ≠ 0 → f h ≤ big

theorem refs_le (S : St) (W : S.WF) (h : Int) : S.refs h ≤ 24000 := by
  have := sumTo_le (g := fun i => if S.used ((i : Int) + 1) then kc (S.node ((i : Int) + 1)) h else 0) (h := fun _ => 4) (k := S.n) (fun i _ => by
    split
    · exact kc_le _ _
    · omega)
  rw [sumTo_const] at this
  have := W.nle
  unfold refs
  omega
theorem usedN_le (S : St) : S.usedN ≤ S.n := by
  have := sumTo_le (g := fun i => if S.used ((i : Int) + 1) then 1 else 0) (h := fun _ => 1) (k := S.n) (fun i _ => by split <;> omega)
  rw [sumTo_const] at this
  unfold usedN
  omega

theorem used_range {S : St} (W : S.WF) {h : Int} (u : S.used h = true) : ∃ i : Nat, i < S.n ∧ h = (i : Int) + 1 := by
  by_cases q : h < 1 ∨ (S.n : Int) < h
  · rw [W.out h q] at u; cases u
  · exact ⟨(h - 1).toNat, by omega, by omega⟩
/-- A kid of one that is used is counted. -/
theorem refs_pos {S : St} (W : S.WF) {g k : Int} (u : S.used g = true) (h : 0 < kc (S.node g) k) : 0 < S.refs k := by
  obtain ⟨i, hi, rfl⟩ := used_range W u
  have := le_sumTo (g := fun i => if S.used ((i : Int) + 1) then kc (S.node ((i : Int) + 1)) k else 0) hi
  simp only [u, if_true] at this
  unfold refs
  omega
theorem refs_of_pos {S : St} {k : Int} (h : 0 < S.refs k) : ∃ g, S.used g = true ∧ 0 < kc (S.node g) k := by
  obtain ⟨i, _, h2⟩ := sumTo_pos h
  by_cases u : S.used ((i : Int) + 1) = true
  · simp only [u, if_true] at h2; exact ⟨_, u, h2⟩
  · simp [u] at h2

namespace Inv
variable {S : St} {f : Int → Nat}
theorem cnt_bound (H : S.Inv f) (h : Int) : 0 ≤ S.cnt h ∧ S.cnt h ≤ 24000 + big := by
  by_cases u : S.used h = true
  · by_cases h0 : h = 0
    · subst h0; rw [H.wf.out 0 (Or.inl (by decide))] at u; cases u
    · have := H.cnt h h0 u; have := S.refs_le H.wf h; have := H.small h h0; omega
  · have := (H.wf.free h (by simpa using u)).2; unfold big; omega
theorem cnt_zero (H : S.Inv f) : S.cnt 0 = 0 := (H.wf.free 0 (H.wf.out 0 (Or.inl (by decide)))).2
/-- One that is held is live. -/
theorem held_pos (H : S.Inv f) {h : Int} (h0 : h ≠ 0) (p : 0 < f h) : S.used h = true ∧ 0 < S.cnt h := by
  have u := H.held h h0 p
  have := H.cnt h h0 u
  exact ⟨u, by omega⟩
theorem kid_pos (H : S.Inv f) {g k : Int} (u : S.used g = true) (h0 : k ≠ 0) (h : 0 < kc (S.node g) k) : S.used k = true ∧ 0 < S.cnt k := by
  have u' := H.kids g u k h0 h
  have := H.cnt k h0 u'
  have := refs_pos H.wf u h
  exact ⟨u', by omega⟩

theorem wrap_id {x : Int} (h0 : -1 ≤ x) (h : x ≤ 1200000000000) : wrap64 x = x := by simp [wrap64]; omega

theorem refs_congr {S S' : St} (hn : S'.n = S.n) (hu : S'.used = S.used) (hd : S'.node = S.node) (h : Int) : S'.refs h = S.refs h := by unfold refs; rw [hn, hu, hd]
theorem usedN_congr {S S' : St} (hn : S'.n = S.n) (hu : S'.used = S.used) : S'.usedN = S.usedN := by unfold usedN; rw [hn, hu]

theorem keep_cnt (H : S.Inv f) {h : Int} (p : S.live h) (x : Int) : (S.keep h).cnt x = S.cnt x + if x = h then 1 else 0 := by
  have b := H.cnt_bound h
  have := p.2
  unfold St.keep
  rw [if_neg (by omega)]
  simp only [setCnt]
  by_cases e : x = h
  · subst e; rw [if_pos rfl, if_pos rfl, wrap_id (by omega) (by unfold big at b; omega)]
  · rw [if_neg e, if_neg e]; omega
end Inv
theorem keep_node (S : St) (h : Int) : (S.keep h).node = S.node := by unfold St.keep; split <;> rfl
theorem keep_used (S : St) (h : Int) : (S.keep h).used = S.used := by unfold St.keep; split <;> rfl
theorem keep_n (S : St) (h : Int) : (S.keep h).n = S.n := by unfold St.keep; split <;> rfl
theorem keep_wait (S : St) (h : Int) : (S.keep h).wait = S.wait := by unfold St.keep; split <;> rfl
theorem keep_busy (S : St) (h : Int) : (S.keep h).busy = S.busy := by unfold St.keep; split <;> rfl
theorem keep_zero {S : St} (W : S.WF) : S.keep 0 = S := by unfold St.keep; rw [if_pos (W.free 0 (W.out 0 (Or.inl (by decide)))).2]
theorem drop_node (S : St) (h : Int) : (S.drop h).node = S.node := by unfold St.drop; split; rfl; split <;> rfl
theorem drop_used (S : St) (h : Int) : (S.drop h).used = S.used := by unfold St.drop; split; rfl; split <;> rfl
theorem drop_n (S : St) (h : Int) : (S.drop h).n = S.n := by unfold St.drop; split; rfl; split <;> rfl
theorem drop_busy (S : St) (h : Int) : (S.drop h).busy = S.busy := by unfold St.drop; split; rfl; split <;> rfl
theorem drop_zero {S : St} (W : S.WF) : S.drop 0 = S := by unfold St.drop; rw [if_pos (W.free 0 (W.out 0 (Or.inl (by decide)))).2]

namespace Inv
variable {S : St} {f : Int → Nat}
/-- KEEP. -/
theorem keep (H : S.Inv f) {h : Int} (p : S.live h) (hb : f h < big) : (S.keep h).Inv (more h f) ∧ S.keepE h = 0 := by
  have e := fun x => refs_congr (keep_n S h) (keep_used S h) (keep_node S h) x
  refine ⟨⟨H.wf.keep h, fun x x0 u => ?_, fun x x0 p' => ?_, ?_, ?_, fun x u c => ?_, ?_, fun x x0 => ?_⟩, ?_⟩
  · rw [keep_used] at u
    rw [H.keep_cnt p, e, H.cnt x x0 u]
    simp only [more]
    split <;> omega
  · rw [keep_used]
    by_cases q : x = h
    · subst q; exact p.1
    · simp only [more, if_neg q] at p'; exact H.held x x0 (by omega)
  · rw [keep_used, keep_node]; exact H.kids
  · rw [keep_used, keep_node]; exact H.rank
  · rw [keep_used] at u
    rw [H.keep_cnt p] at c
    rw [keep_wait]
    have := H.cnt_bound x
    refine H.wait x u ?_
    split at c <;> omega
  · rw [keep_busy, usedN_congr (keep_n S h) (keep_used S h)]; exact H.busy
  · simp only [more]
    split
    · rename_i q; subst q; omega
    · have := H.small x x0; omega
  · unfold keepE; rw [if_neg (by have := p.2; omega)]
/-- The count of 0 may be anything. -/
theorem zero (H : S.Inv f) : S.Inv (more 0 f) := by
  refine ⟨H.wf, fun x x0 u => ?_, fun x x0 p => ?_, H.kids, H.rank, H.wait, H.busy, fun x x0 => ?_⟩
  · rw [H.cnt x x0 u]; simp [more, x0]
  · exact H.held x x0 (by simpa [more, x0] using p)
  · have := H.small x x0; simpa [more, x0] using this
theorem unzero (H : S.Inv (more 0 f)) : S.Inv f := by
  refine ⟨H.wf, fun x x0 u => ?_, fun x x0 p => ?_, H.kids, H.rank, H.wait, H.busy, fun x x0 => ?_⟩
  · rw [H.cnt x x0 u]; simp [more, x0]
  · exact H.held x x0 (by simpa [more, x0] using p)
  · have := H.small x x0; have := more_le 0 x f; omega
/-- DROP of one that is held. -/
theorem drop {h : Int} (H : S.Inv (more h f)) : (S.drop h).Inv f := by
  by_cases h0 : h = 0
  · subst h0; rw [drop_zero H.wf]; exact H.unzero
  obtain ⟨u0, c0⟩ := H.held_pos h0 (by rw [more_self]; omega)
  have bd := H.cnt_bound h
  have e := fun x => refs_congr (drop_n S h) (drop_used S h) (drop_node S h) x
  have ew : wrap64 (S.cnt h - 1) = S.cnt h - 1 := wrap_id (by omega) (by unfold big at bd; omega)
  have ec : ∀ x, (S.drop h).cnt x = S.cnt x - if x = h then 1 else 0 := fun x => by
    unfold St.drop
    rw [if_neg (by omega)]
    split <;> simp only [setCnt, setWait] <;> by_cases q : x = h
    · subst q; rw [if_pos rfl, if_pos rfl, ew]
    · rw [if_neg q, if_neg q]; omega
    · subst q; rw [if_pos rfl, if_pos rfl, ew]
    · rw [if_neg q, if_neg q]; omega
  refine ⟨H.wf.drop h, fun x x0 u => ?_, fun x x0 p' => ?_, ?_, ?_, fun x u c => ?_, ?_, fun x x0 => ?_⟩
  · rw [drop_used] at u
    rw [ec, e, H.cnt x x0 u]
    simp only [more]
    split <;> omega
  · rw [drop_used]
    exact H.held x x0 (Nat.lt_of_lt_of_le p' (more_le h x f))
  · rw [drop_used, drop_node]; exact H.kids
  · rw [drop_used, drop_node]; exact H.rank
  · rw [drop_used] at u
    rw [ec] at c
    by_cases q : x = h
    · subst q
      rw [if_pos rfl] at c
      unfold St.drop
      rw [if_neg (by omega), if_pos (by rw [ew]; exact c)]
      simp [setWait]
    · rw [if_neg q] at c
      have := H.wait x u (by omega)
      unfold St.drop
      rw [if_neg (by omega)]
      split
      · simp [setWait, setCnt, this]
      · simpa [setCnt] using this
  · rw [drop_busy, usedN_congr (drop_n S h) (drop_used S h)]; exact H.busy
  · have := H.small x x0; have := more_le h x f; omega
end Inv
end St
end Go.Proofs.YtngfalbabgpnnaaGreat

namespace Go.Proofs.YtngfalbabgpnnaaGreat
open Go.RowKit
namespace St

/-- Nothing is freed. -/
structure Grow (S S' : St) : Prop where
  n : S'.n = S.n
  used : ∀ h, S.used h = true → S'.used h = true
  node : ∀ h, S.used h = true → S'.node h = S.node h

namespace Grow
variable {S S' S'' : St}
theorem refl (S : St) : Grow S S := ⟨rfl, fun _ h => h, fun _ _ => rfl⟩
theorem trans (h : Grow S S') (k : Grow S' S'') : Grow S S'' := ⟨k.n.trans h.n, fun x u => k.used x (h.used x u), fun x u => (k.node x (h.used x u)).trans (h.node x u)⟩
theorem keep (S : St) (h : Int) : Grow S (S.keep h) := ⟨keep_n S h, fun x u => by rw [keep_used]; exact u, fun x _ => by rw [keep_node]⟩
theorem drop (S : St) (h : Int) : Grow S (S.drop h) := ⟨drop_n S h, fun x u => by rw [drop_used]; exact u, fun x _ => by rw [drop_node]⟩
theorem put {x : Nd} {r : Int} (h : S.used r = false) : Grow S (S.put r x) :=
  ⟨put_n S r x, fun y u => by rw [put_used]; split <;> first | rfl | exact u, fun y u => by rw [put_node, if_neg (by rintro rfl; rw [h] at u; cases u)]⟩
theorem refs (h : Grow S S') (k : Int) : S.refs k ≤ S'.refs k := by
  unfold St.refs
  rw [h.n]
  refine sumTo_le fun i _ => ?_
  by_cases u : S.used ((i : Int) + 1) = true
  · rw [if_pos u, if_pos (h.used _ u), h.node _ u]; exact Nat.le_refl _
  · rw [if_neg u]; exact Nat.zero_le _
theorem usedN (h : Grow S S') : S.usedN ≤ S'.usedN := by
  unfold St.usedN
  rw [h.n]
  refine sumTo_le fun i _ => ?_
  by_cases u : S.used ((i : Int) + 1) = true
  · rw [if_pos u, if_pos (h.used _ u)]; exact Nat.le_refl _
  · rw [if_neg u]; exact Nat.zero_le _
/-- What was live, and is held as often, is live. -/
theorem live {f f' : Int → Nat} (h : Grow S S') (H : S.Inv f) (H' : S'.Inv f') (hf : ∀ x, f x ≤ f' x) {x : Int} (l : S.live x) : S'.live x := by
  have x0 : x ≠ 0 := by have := (l.ne H.wf).1; omega
  have c := H.cnt x x0 l.1
  have c' := H'.cnt x x0 (h.used x l.1)
  have := h.refs x
  have := hf x
  have := l.2
  exact ⟨h.used x l.1, by omega⟩
theorem bt {f f' : Int → Nat} (h : Grow S S') (H : S.Inv f) (H' : S'.Inv f') (hf : ∀ x, f x ≤ f' x) : ∀ {t : BT} {x : Int}, S.bt x t → S'.bt x t
  | .leaf l, x, b => ⟨h.live H H' hf b.1, by rw [h.node x b.1.1]; exact b.2.1, b.2.2⟩
  | .fork _ _, x, b => by
    obtain ⟨hl, hx, hy, e, bx, by'⟩ := b
    exact ⟨h.live H H' hf hl, hx, hy, by rw [h.node x hl.1]; exact e, h.bt H H' hf bx, h.bt H H' hf by'⟩
end Grow

/-- A kid that is a kid stays one as long as its parent is used: a tree below a used node. -/
theorem bt_kids {S : St} {f : Int → Nat} (H : S.Inv f) {g hx : Int} {t : BT} (u : S.used g = true) (k : 0 < kc (S.node g) hx) (b : S.bt hx t) {S' : St} {f' : Int → Nat} (h : Grow S S') (H' : S'.Inv f') : S'.live hx := by
  have x0 : hx ≠ 0 := by have := (b.live.ne H.wf).1; omega
  exact H'.kid_pos (h.used g u) x0 (by rw [h.node g u]; exact k)

theorem cnt_incs {S : St} {f : Int → Nat} (H : S.Inv f) (x : Nd) (y : Int) (y0 : y ≠ 0) : (S.incs x).cnt y = S.cnt y + kc x y := by
  have b := H.cnt_bound y
  have step : ∀ (T : St) (k : Int) (m : Nat), T.cnt y = S.cnt y + m → m ≤ 3 → (T.inc k).cnt y = S.cnt y + (m + if k = y then 1 else 0 : Nat) := fun T k m e hm => by
    rw [cnt_inc]
    by_cases q : k = y
    · subst q
      rw [if_pos ⟨y0, rfl⟩, if_pos rfl, e, Inv.wrap_id (by omega) (by unfold big at b; omega)]; omega
    · rw [if_neg (by rintro ⟨_, r⟩; exact q r.symm), if_neg q, e]; omega
  unfold incs kc
  have h1 := step S x.k0 0 (by omega) (by omega)
  have h2 := step _ x.k1 _ h1 (by split <;> omega)
  have h3 := step _ x.k2 _ h2 (by split <;> split <;> omega)
  have h4 := step _ x.k3 _ h3 (by split <;> split <;> split <;> omega)
  rw [h4]
  congr 1
  omega

theorem refs_put {S : St} {r : Int} {x : Nd} (u : S.used r = false) (h1 : 1 ≤ r) (h2 : r ≤ S.n) (h : Int) : (S.put r x).refs h = S.refs h + kc x h := by
  have := sumTo_upd (g := fun i => if (S.put r x).used ((i : Int) + 1) then kc ((S.put r x).node ((i : Int) + 1)) h else 0)
    (h := fun i => if S.used ((i : Int) + 1) then kc (S.node ((i : Int) + 1)) h else 0) (k := S.n) (j := (r - 1).toNat) (by omega) (fun i hi hne => by
      have e : (i : Int) + 1 ≠ r := by omega
      simp only [put_used, put_node, if_neg e])
  have er : (((r - 1).toNat : Nat) : Int) + 1 = r := by omega
  simp only [er, put_used, put_node, u, if_true, Bool.false_eq_true, if_false] at this
  unfold refs
  rw [put_n]
  simp only [put_used, put_node]
  omega
theorem usedN_put {S : St} {r : Int} {x : Nd} (u : S.used r = false) (h1 : 1 ≤ r) (h2 : r ≤ S.n) : (S.put r x).usedN = S.usedN + 1 := by
  have := sumTo_upd (g := fun i => if (S.put r x).used ((i : Int) + 1) then 1 else 0)
    (h := fun i => if S.used ((i : Int) + 1) then 1 else 0) (k := S.n) (j := (r - 1).toNat) (by omega) (fun i hi hne => by
      have e : (i : Int) + 1 ≠ r := by omega
      simp only [put_used, if_neg e])
  have er : (((r - 1).toNat : Nat) : Int) + 1 = r := by omega
  simp only [er, put_used, u, if_true, Bool.false_eq_true, if_false] at this
  unfold usedN
  rw [put_n]
  simp only [put_used]
  omega

theorem usedN_full {S : St} (h : ∀ x : Int, 1 ≤ x → x ≤ (S.n : Int) → S.used x = true) : S.usedN = S.n := by
  unfold usedN
  rw [sumTo_congr (h := fun _ => 1) (fun i hi => by rw [h _ (by omega) (by omega)]; rfl), sumTo_const]; omega

def slack (f : Int → Nat) (n : Nat) : Prop := ∀ h, f h + n ≤ big
theorem slack.more {f : Int → Nat} {n : Nat} (h : slack f (n + 1)) (k : Int) : slack (more k f) n := fun x => by have := h x; simp only [Go.Proofs.YtngfalbabgpnnaaGreat.more]; split <;> omega
theorem slack.le {f : Int → Nat} {n m : Nat} (h : slack f n) (k : m ≤ n) : slack f m := fun x => by have := h x; omega

theorem Inv.put {S : St} {f : Int → Nat} (H : S.Inv f) {x : Nd} {r : Int} (hk : ∀ k, k ≠ 0 → 0 < kc x k → S.live k) (u : S.used r = false) (h1 : 1 ≤ r) (h2 : r ≤ S.n) : (S.put r x).Inv (more r f) := by
  have ko : S.kidsOk x = true := by
    have q : ∀ k, 0 < kc x k → k = 0 ∨ S.cnt k ≠ 0 := fun k hp => by
      by_cases k0 : k = 0
      · exact Or.inl k0
      · have := (hk k k0 hp).2; exact Or.inr (by omega)
    have q0 := q x.k0 (kc_pos.2 (by simp))
    have q1 := q x.k1 (kc_pos.2 (by simp))
    have q2 := q x.k2 (kc_pos.2 (by simp))
    have q3 := q x.k3 (kc_pos.2 (by simp))
    simp [kidsOk, q0, q1, q2, q3]
  have f0 : f r = 0 := by
    by_cases p : 0 < f r
    · rw [H.held r (by omega) p] at u; cases u
    · omega
  have r0 : S.refs r = 0 := by
    by_cases p : 0 < S.refs r
    · obtain ⟨g, ug, hg⟩ := refs_of_pos p
      rw [H.kids g ug r (by omega) hg] at u; cases u
    · omega
  have kr : kc x r = 0 := by
    by_cases p : 0 < kc x r
    · rw [(hk r (by omega) p).1] at u; cases u
    · omega
  refine ⟨H.wf.put ko u h1 h2, fun y y0 uy => ?_, fun y y0 p => ?_, fun g ug k k0 hg => ?_, ?_, fun y uy c => ?_, ?_, fun y y0 => ?_⟩
  · rw [put_cnt, refs_put u h1 h2]
    by_cases e : y = r
    · subst e; rw [if_pos rfl, more_self, f0, r0, kr]; rfl
    · rw [put_used, if_neg e] at uy
      rw [if_neg e, cnt_incs H x y y0, H.cnt y y0 uy]
      simp only [more, if_neg e]; omega
  · rw [put_used]
    by_cases e : y = r
    · rw [if_pos e]
    · rw [if_neg e]; exact H.held y y0 (by simpa [more, e] using p)
  · rw [put_used]
    by_cases e : k = r
    · rw [if_pos e]
    · rw [if_neg e]
      rw [put_used] at ug
      rw [put_node] at hg
      by_cases eg : g = r
      · rw [if_pos eg] at hg; exact (hk k k0 hg).1
      · rw [if_neg eg] at ug hg; exact H.kids g ug k k0 hg
  · obtain ⟨rk, hr⟩ := H.rank
    refine ⟨fun y => if y = r then 1 + max (max (rk x.k0) (rk x.k1)) (max (rk x.k2) (rk x.k3)) else rk y, fun g ug k k0 hg => ?_⟩
    rw [put_used] at ug
    rw [put_node] at hg
    by_cases eg : g = r
    · rw [if_pos eg] at hg
      have kr' : k ≠ r := by rintro rfl; omega
      simp only [if_neg kr', if_pos eg]
      rcases kc_pos.1 hg with e | e | e | e <;> subst e <;> omega
    · rw [if_neg eg] at ug hg
      have kr' : k ≠ r := by rintro rfl; rw [H.kids g ug k k0 hg] at u; cases u
      simp only [if_neg kr', if_neg eg]
      exact hr g ug k k0 hg
  · rw [put_wait]
    rw [put_cnt] at c
    by_cases e : y = r
    · rw [if_pos e] at c; omega
    · rw [if_neg e] at c
      rw [put_used, if_neg e] at uy
      by_cases y0 : y = 0
      · subst y0; rw [H.wf.out 0 (Or.inl (by decide))] at uy; cases uy
      · rw [cnt_incs H x y y0] at c
        have := H.cnt_bound y
        exact H.wait y uy (by omega)
  · rw [put_busy, usedN_put u h1 h2, H.busy]
    have := S.usedN_le
    have := H.wf.nle
    rw [Inv.wrap_id (by omega) (by omega)]; rfl
  · simp only [more]
    split
    · rename_i e; subst e; rw [f0]; decide
    · have := H.small y y0; omega

/-- MAKE. -/
theorem Inv.make {S : St} {f : Int → Nat} (H : S.Inv f) {x : Nd} (ht : 1 ≤ x.tag ∧ x.tag ≤ 6) (hk : ∀ k, k ≠ 0 → 0 < kc x k → S.live k) :
    (S.make x = (0, 2, S) ∧ S.usedN = S.n) ∨ ∃ r, S.make x = (r, 0, S.put r x) ∧ 1 ≤ r ∧ S.used r = false ∧ (S.put r x).Inv (more r f) ∧ S.usedN < S.n ∧ (S.put r x).usedN = S.usedN + 1 := by
  have ko1 : S.kidsOk x = true := by
    have q : ∀ k, 0 < kc x k → k = 0 ∨ S.cnt k ≠ 0 := fun k hp => by
      by_cases k0 : k = 0
      · exact Or.inl k0
      · have := (hk k k0 hp).2; exact Or.inr (by omega)
    have q0 := q x.k0 (kc_pos.2 (by simp))
    have q1 := q x.k1 (kc_pos.2 (by simp))
    have q2 := q x.k2 (kc_pos.2 (by simp))
    have q3 := q x.k3 (kc_pos.2 (by simp))
    simp [kidsOk, q0, q1, q2, q3]
  have ko : ¬ S.kidsOk x = false := by rw [ko1]; simp
  unfold St.make
  rw [if_neg (by omega), if_neg ko]
  rcases S.free_spec with ⟨h0, h1⟩ | ⟨h1, h2, h3⟩
  · rw [if_pos h0]
    exact Or.inl ⟨rfl, usedN_full h1⟩
  · rw [if_neg (by omega)]
    have hp := H.put (x := x) hk h3 h1 h2
    have e := usedN_put (x := x) h3 h1 h2
    have := (S.put S.free x).usedN_le
    rw [put_n] at this
    exact Or.inr ⟨_, rfl, h1, h3, hp, by omega, e⟩
end St
end Go.Proofs.YtngfalbabgpnnaaGreat

namespace Go.Proofs.YtngfalbabgpnnaaGreat
open Go.RowKit

theorem grown_below {w w' : World} (hb : Below w.heap.size w w') (row : Option Nat) : w.grownBy w' row := ⟨hb.os, hb.tape, hb.output, hb.size, fun k hk _ => hb.block k hk⟩
theorem own_below {w w' : World} {base : Nat} {e : TypeId} {size : Nat} {v : Value} {n : Nat} {xs : List Value} (h : w.ownsRow base e size v n xs) (hb : Below w.heap.size w w') : w'.ownsRow base e size v n xs := by
  refine h.kept (row := none) (grown_below hb none) ?_
  cases hq : v.ownBlock with
  | none => exact Or.inl rfl
  | some b => exact Or.inr (by simp)
theorem below_grown {w0 w w' : World} {e : TypeId} {size : Nat} {v : Value} {n : Nat} {xs : List Value} (hb : Below w0.heap.size w0 w) (h : w.ownsRow w0.heap.size e size v n xs) (hg : w.grownBy w' v.ownBlock) : Below w0.heap.size w0 w' :=
  ⟨hg.os.trans hb.os, hg.tape.trans hb.tape, hg.output.trans hb.output, Nat.le_trans hb.size hg.size, fun b hlt =>
    (hg.block b (Nat.lt_of_lt_of_le hlt hb.size) (fun q => by have := h.lt b q.symm; omega)).trans (hb.block b hlt)⟩
theorem own_mono {w : World} {base base' : Nat} {e : TypeId} {size : Nat} {v : Value} {n : Nat} {xs : List Value} (h : w.ownsRow base e size v n xs) (hb : base' ≤ base) : w.ownsRow base' e size v n xs := by
  refine ⟨h.1, ?_⟩
  rcases h.2 with q | ⟨g, cap, cur, a1, a2, a3⟩
  · exact Or.inl q
  · exact Or.inr ⟨g, cap, cur, a1, by omega, a3⟩
end Go.Proofs.YtngfalbabgpnnaaGreat

namespace Go.Proofs.YtngfalbabgpnnaaGreat
open Go.RowKit
namespace St

/-- What is used before and behind is the same node. -/
def Keeps (S S' : St) : Prop := ∀ h, S.used h = true → S'.used h = true → S'.node h = S.node h
theorem Grow.keeps {S S' : St} (h : Grow S S') : Keeps S S' := fun x u _ => h.node x u

/-- Something may be freed. -/
structure Shr (S S' : St) : Prop where
  n : S'.n = S.n
  used : ∀ h, S'.used h = true → S.used h = true ∧ S'.node h = S.node h
namespace Shr
variable {S S' S'' : St}
theorem refl (S : St) : Shr S S := ⟨rfl, fun _ h => ⟨h, rfl⟩⟩
theorem trans (h : Shr S S') (k : Shr S' S'') : Shr S S'' := ⟨k.n.trans h.n, fun x u => by
  obtain ⟨a, b⟩ := k.used x u
  obtain ⟨c, d⟩ := h.used x a
  exact ⟨c, b.trans d⟩⟩
theorem keeps (h : Shr S S') : Keeps S S' := fun x _ u => (h.used x u).2
end Shr

theorem bt_kp {S S' : St} {f f' : Int → Nat} (h : Keeps S S') (H : S.Inv f) (H' : S'.Inv f') : ∀ {t : BT} {x : Int}, S'.live x → S.bt x t → S'.bt x t
  | .leaf l, x, v, b => ⟨v, by rw [h x b.1.1 v.1]; exact b.2.1, b.2.2⟩
  | .fork _ _, x, v, b => by
    obtain ⟨hl, hx, hy, e, bx, by'⟩ := b
    have ex := h x hl.1 v.1
    have x0 : hx ≠ 0 := by have := (live.ne H.wf bx.live).1; omega
    have y0 : hy ≠ 0 := by have := (live.ne H.wf by'.live).1; omega
    exact ⟨v, hx, hy, by rw [ex]; exact e, bt_kp h H H' (H'.kid_pos v.1 x0 (by rw [ex, e]; exact kc_pos.2 (by simp [forkNd]))) bx,
      bt_kp h H H' (H'.kid_pos v.1 y0 (by rw [ex, e]; exact kc_pos.2 (by simp [forkNd]))) by'⟩
theorem br_kp {S S' : St} {f f' : Int → Nat} (h : Keeps S S') (H : S.Inv f) (H' : S'.Inv f') {x : Int} {l : List Bool} (v : x ≠ 0 → S'.live x) (b : S.br x l) : S'.br x l := by
  rcases b with b | ⟨t, b, o⟩
  · exact Or.inl b
  · exact Or.inr ⟨t, bt_kp h H H' (v (by have := (live.ne H.wf b.live).1; omega)) b, o⟩

def heldK (x : Nd) (f : Int → Nat) : Int → Nat := more x.k0 (more x.k1 (more x.k2 (more x.k3 f)))
theorem heldK_at (x : Nd) (f : Int → Nat) (y : Int) : heldK x f y = f y + kc x y := by
  unfold heldK kc
  simp only [more, eq_comm (a := y)]
  omega

theorem refs_upd {S P : St} {h : Int} (hn : P.n = S.n) (u : S.used h = true) (h1 : 1 ≤ h) (h2 : h ≤ S.n) (up : P.used h = false) (e : ∀ x, x ≠ h → P.used x = S.used x ∧ P.node x = S.node x) (k : Int) :
    S.refs k = P.refs k + kc (S.node h) k := by
  have := sumTo_upd (g := fun i => if S.used ((i : Int) + 1) then kc (S.node ((i : Int) + 1)) k else 0)
    (h := fun i => if P.used ((i : Int) + 1) then kc (P.node ((i : Int) + 1)) k else 0) (k := S.n) (j := (h - 1).toNat) (by omega) (fun i hi hne => by
      have q : (i : Int) + 1 ≠ h := by omega
      rw [(e _ q).1, (e _ q).2])
  have er : (((h - 1).toNat : Nat) : Int) + 1 = h := by omega
  simp only [er, u, up, if_true, Bool.false_eq_true, if_false] at this
  unfold refs
  rw [hn]
  omega
theorem usedN_upd {S P : St} {h : Int} (hn : P.n = S.n) (u : S.used h = true) (h1 : 1 ≤ h) (h2 : h ≤ S.n) (up : P.used h = false) (e : ∀ x, x ≠ h → P.used x = S.used x) : S.usedN = P.usedN + 1 := by
  have := sumTo_upd (g := fun i => if S.used ((i : Int) + 1) then 1 else 0)
    (h := fun i => if P.used ((i : Int) + 1) then 1 else 0) (k := S.n) (j := (h - 1).toNat) (by omega) (fun i hi hne => by
      have q : (i : Int) + 1 ≠ h := by omega
      rw [e _ q])
  have er : (((h - 1).toNat : Nat) : Int) + 1 = h := by omega
  simp only [er, u, up, if_true, Bool.false_eq_true, if_false] at this
  unfold usedN
  rw [hn]
  omega

theorem Inv.pop {S : St} {f : Int → Nat} (H : S.Inv f) (sl : slack f 4) {h : Int} {r : List Int} (hw : S.wait = h :: r) :
    (S.pop h r).Inv (heldK (S.node h) f) ∧ S.usedN = (S.pop h r).usedN + 1 := by
  obtain ⟨u, c0⟩ := H.wf.win h (by rw [hw]; simp)
  obtain ⟨i, hi, hh⟩ := used_range H.wf u
  have h0 : h ≠ 0 := by omega
  have c := H.cnt h h0 u
  have r0 : S.refs h = 0 := by omega
  have f0 : f h = 0 := by omega
  have up : (S.pop h r).used h = false := by simp [St.pop, setBusy, setUsed]
  have e : ∀ x, x ≠ h → (S.pop h r).used x = S.used x ∧ (S.pop h r).node x = S.node x := fun x hx => by simp [St.pop, setBusy, setUsed, setNode, setWait, hx]
  have er := refs_upd (S := S) (P := S.pop h r) rfl u (by omega) (by omega) up e
  have en := usedN_upd (S := S) (P := S.pop h r) rfl u (by omega) (by omega) up (fun x hx => (e x hx).1)
  have ne : ∀ x, (S.pop h r).used x = true → x ≠ h := by rintro x ux rfl; rw [up] at ux; cases ux
  have ke : ∀ g, S.used g = true → kc (S.node g) h = 0 := fun g ug => by
    by_cases q : 0 < kc (S.node g) h
    · have := refs_pos H.wf ug q; omega
    · omega
  refine ⟨⟨H.wf.pop hw, fun x x0 ux => ?_, fun x x0 p => ?_, fun g ug k k0 hg => ?_, ?_, fun x ux cx => ?_, ?_, fun x x0 => ?_⟩, en⟩
  · have hx := ne x ux
    rw [(e x hx).1] at ux
    have := H.cnt x x0 ux
    rw [heldK_at, show (S.pop h r).cnt x = S.cnt x from rfl, this, er x]
    congr 1
    omega
  · rw [heldK_at] at p
    have us : S.used x = true := by
      by_cases q : 0 < f x
      · exact H.held x x0 q
      · exact H.kids h u x x0 (by omega)
    have hx : x ≠ h := by
      rintro rfl
      have := ke x u
      omega
    rw [(e x hx).1]; exact us
  · have hg' := ne g ug
    rw [(e g hg').1] at ug
    rw [(e g hg').2] at hg
    have hk : k ≠ h := by rintro rfl; have := ke g ug; omega
    rw [(e k hk).1]
    exact H.kids g ug k k0 hg
  · obtain ⟨rk, hr⟩ := H.rank
    refine ⟨rk, fun g ug k k0 hg => ?_⟩
    have hg' := ne g ug
    rw [(e g hg').1] at ug
    rw [(e g hg').2] at hg
    exact hr g ug k k0 hg
  · have hx := ne x ux
    rw [(e x hx).1] at ux
    have := H.wait x ux cx
    rw [hw] at this
    rcases List.mem_cons.1 this with q | q
    · exact absurd q hx
    · exact q
  · show wrap64 (S.busy - 1) = _
    have := S.usedN_le
    have := H.wf.nle
    have b := H.busy
    rw [Inv.wrap_id (by omega) (by omega)]
    omega
  · rw [heldK_at]
    have := sl x
    have := kc_le (S.node h) x
    omega

theorem Inv.work1 {S : St} {f : Int → Nat} (H : S.Inv f) (sl : slack f 4) (hw : S.wait ≠ []) : S.work1.Inv f ∧ S.usedN = S.work1.usedN + 1 ∧ Shr S S.work1 := by
  cases hq : S.wait with
  | nil => exact absurd hq hw
  | cons h r =>
    obtain ⟨I, e⟩ := H.pop sl hq
    have I' := I.drop.drop.drop.drop
    have ew : S.work1 = ((((S.pop h r).drop (S.node h).k0).drop (S.node h).k1).drop (S.node h).k2).drop (S.node h).k3 := by
      unfold St.work1; rw [hq]; rfl
    have u1 : S.work1.used = (S.pop h r).used := by rw [ew]; simp only [drop_used]
    have n1 : S.work1.node = (S.pop h r).node := by rw [ew]; simp only [drop_node]
    have m1 : S.work1.n = S.n := by rw [ew]; simp only [drop_n]; rfl
    refine ⟨by rw [ew]; exact I', by rw [e]; congr 1; exact Inv.usedN_congr (m1.symm ▸ rfl) u1.symm, m1, fun x ux => ?_⟩
    rw [u1] at ux
    have hx : x ≠ h := by rintro rfl; simp [St.pop, setBusy, setUsed] at ux
    rw [n1]
    simp only [St.pop, setBusy, setUsed, setNode, setWait, if_neg hx] at ux ⊢
    exact ⟨ux, trivial⟩

/-- WORK: nothing waits behind it. -/
theorem Inv.work {f : Int → Nat} (sl : slack f 4) : ∀ (k : Nat) (S : St) (n : Int), S.Inv f → S.usedN < k → 0 ≤ n → n + k < 1073741824 →
    ∃ m S', St.work k 1073741824 n S = some (m, S') ∧ S'.Inv f ∧ S'.wait = [] ∧ Shr S S' ∧ S'.usedN ≤ S.usedN
  | 0, S, n, H, h, _, _ => by omega
  | k + 1, S, n, H, h, h0, hk => by
    unfold St.work
    rw [if_neg (by omega)]
    by_cases hw : S.wait = []
    · rw [if_pos hw]; exact ⟨_, _, rfl, H, hw, Shr.refl S, Nat.le_refl _⟩
    · rw [if_neg hw]
      obtain ⟨I, e, s⟩ := H.work1 sl hw
      rw [Inv.wrap_id (x := n + 1) (by omega) (by omega)]
      obtain ⟨m, S', a, b, c, d, u⟩ := Inv.work sl k S.work1 (n + 1) I (by omega) (by omega) (by omega)
      exact ⟨m, S', a, b, c, s.trans d, by omega⟩

def Closed (S : St) (L : List Int) : Prop := ∀ g ∈ L, ∀ k, k ≠ 0 → 0 < kc (S.node g) k → k ∈ L

theorem Inv.all_used {S : St} {f : Int → Nat} (H : S.Inv f) (hw : S.wait = []) {L : List Int} (hf : ∀ h, h ≠ 0 → 0 < f h → h ∈ L) (hk : S.Closed L) : ∀ g, S.used g = true → g ∈ L := by
  obtain ⟨r, hr⟩ := H.rank
  have bound : ∀ g, S.used g = true → r g ≤ sumTo (fun i => r ((i : Int) + 1)) S.n := fun g u => by
    obtain ⟨i, hi, rfl⟩ := used_range H.wf u
    exact le_sumTo (g := fun i => r ((i : Int) + 1)) hi
  generalize sumTo (fun i => r ((i : Int) + 1)) S.n = M at bound
  have main : ∀ d g, M - r g = d → S.used g = true → g ∈ L := by
    intro d
    induction d using Nat.strongRecOn with
    | _ d ih =>
      intro g hd u
      have g0 : g ≠ 0 := by have := used_range H.wf u; omega
      have c := H.cnt g g0 u
      by_cases fg : 0 < f g
      · exact hf g g0 fg
      · by_cases c0 : S.cnt g = 0
        · have := H.wait g u c0; rw [hw] at this; simp at this
        · obtain ⟨g', u', k'⟩ := refs_of_pos (S := S) (k := g) (by omega)
          have b1 := bound g' u'
          have b2 := hr g' u' g g0 k'
          exact hk g' (ih (M - r g') (by omega) g' rfl u') g g0 k'
  exact fun g u => main _ g rfl u

theorem usedN_le_length {S : St} {L : List Int} (h : ∀ g, S.used g = true → g ∈ L) : S.usedN ≤ L.length := by
  have e : ∀ k, sumTo (fun i => if S.used ((i : Int) + 1) then 1 else 0) k = (((List.range k).filter fun (i : Nat) => S.used ((i : Int) + 1)).map fun (i : Nat) => (i : Int) + 1).length := by
    intro k
    induction k with
    | zero => rfl
    | succ k ih =>
      simp only [sumTo, ih, List.length_map, List.range_succ, List.filter_append, List.length_append, List.filter_cons, List.filter_nil]
      split <;> simp
  unfold usedN
  rw [e]
  refine nodup_sub_length ?_ fun x hx => ?_
  · refine List.Pairwise.map _ (fun a b hab => ?_) (List.nodup_range.filter _)
    exact fun q => hab (by omega)
  · simp only [List.mem_map, List.mem_filter] at hx
    obtain ⟨i, ⟨_, hu⟩, rfl⟩ := hx
    exact h _ hu

/-- So many nodes at most lie at a handle and below it. -/
def cov (S : St) (h : Int) (m : Nat) : Prop := ∃ L : List Int, L.length ≤ m ∧ (h ≠ 0 → h ∈ L) ∧ S.Closed L
theorem Closed.append {S : St} {L M : List Int} (a : S.Closed L) (b : S.Closed M) : S.Closed (L ++ M) := fun g hg k k0 hk => by
  rcases List.mem_append.1 hg with h | h
  · exact List.mem_append_left _ (a g h k k0 hk)
  · exact List.mem_append_right _ (b g h k k0 hk)
theorem cov_zero (S : St) : S.cov 0 0 := ⟨[], by simp, fun h => absurd rfl h, fun g hg => by simp at hg⟩
theorem cov.mono {S : St} {h : Int} {m n : Nat} (c : S.cov h m) (hmn : m ≤ n) : S.cov h n := by
  obtain ⟨L, a, b⟩ := c; exact ⟨L, by omega, b⟩
theorem cov_node {S : St} {h : Int} {m0 m1 m2 m3 : Nat} (c0 : S.cov (S.node h).k0 m0) (c1 : S.cov (S.node h).k1 m1) (c2 : S.cov (S.node h).k2 m2) (c3 : S.cov (S.node h).k3 m3) : S.cov h (1 + m0 + m1 + m2 + m3) := by
  obtain ⟨L0, a0, b0, d0⟩ := c0
  obtain ⟨L1, a1, b1, d1⟩ := c1
  obtain ⟨L2, a2, b2, d2⟩ := c2
  obtain ⟨L3, a3, b3, d3⟩ := c3
  refine ⟨h :: (L0 ++ (L1 ++ (L2 ++ L3))), by simp only [List.length_cons, List.length_append]; omega, fun _ => by simp, fun g hg k k0 hk => ?_⟩
  rcases List.mem_cons.1 hg with rfl | hg
  · rcases kc_pos.1 hk with q | q | q | q <;> subst q
    · simp [b0 k0]
    · simp [b1 k0]
    · simp [b2 k0]
    · simp [b3 k0]
  · exact List.mem_cons_of_mem _ ((d0.append (d1.append (d2.append d3))) g hg k k0 hk)
theorem cov_bt {S : St} : ∀ {t : BT} {h : Int}, S.bt h t → S.cov h (2 * t.leaves - 1)
  | .leaf l, h, b => by
    have := cov_node (S := S) (h := h) (m0 := 0) (m1 := 0) (m2 := 0) (m3 := 0) (by rw [b.2.1]; exact cov_zero S) (by rw [b.2.1]; exact cov_zero S) (by rw [b.2.1]; exact cov_zero S) (by rw [b.2.1]; exact cov_zero S)
    exact this.mono (by simp [BT.leaves])
  | .fork x y, h, b => by
    obtain ⟨hl, hx, hy, e, bx, by'⟩ := b
    have := cov_node (S := S) (h := h) (m0 := 2 * x.leaves - 1) (m1 := 2 * y.leaves - 1) (m2 := 0) (m3 := 0) (by rw [e]; exact cov_bt bx) (by rw [e]; exact cov_bt by') (by rw [e]; exact cov_zero S) (by rw [e]; exact cov_zero S)
    exact this.mono (by have := x.leaves_pos; have := y.leaves_pos; simp only [BT.leaves]; omega)
theorem cov_br {S : St} {h : Int} {l : List Bool} (b : S.br h l) : S.cov h (2 * l.length) := by
  rcases b with ⟨rfl, rfl⟩ | ⟨t, b, o, rfl⟩
  · exact cov_zero S
  · refine (cov_bt b).mono ?_
    cases t with
    | leaf l => have := o.len; simp only [BT.leaves]; omega
    | fork x y => have := BT.fat.len (t := .fork x y) o; omega

/-- All that is held from outside is in hs: so many nodes are used. -/
theorem Inv.usedN_cov {S : St} {f : Int → Nat} (H : S.Inv f) (hw : S.wait = []) {m : Nat} (c : ∃ L : List Int, L.length ≤ m ∧ (∀ h, h ≠ 0 → 0 < f h → h ∈ L) ∧ S.Closed L) : S.usedN ≤ m := by
  obtain ⟨L, a, b, d⟩ := c
  exact Nat.le_trans (usedN_le_length (H.all_used hw b d)) a
theorem cov_more {S : St} {f : Int → Nat} {h : Int} {m n : Nat} (a : S.cov h m) (b : ∃ L : List Int, L.length ≤ n ∧ (∀ h, h ≠ 0 → 0 < f h → h ∈ L) ∧ S.Closed L) :
    ∃ L : List Int, L.length ≤ m + n ∧ (∀ x, x ≠ 0 → 0 < more h f x → x ∈ L) ∧ S.Closed L := by
  obtain ⟨L, a1, a2, a3⟩ := a
  obtain ⟨M, b1, b2, b3⟩ := b
  refine ⟨L ++ M, by rw [List.length_append]; omega, fun x x0 p => ?_, a3.append b3⟩
  simp only [more] at p
  by_cases e : x = h
  · subst e; exact List.mem_append_left _ (a2 x0)
  · rw [if_neg e] at p; exact List.mem_append_right _ (b2 x x0 p)
theorem cov_none {S : St} : ∃ L : List Int, L.length ≤ 0 ∧ (∀ h, h ≠ 0 → 0 < (fun _ => 0 : Int → Nat) h → h ∈ L) ∧ S.Closed L := ⟨[], by simp, fun _ _ h => by simp at h, fun g hg => by simp at hg⟩
end St
end Go.Proofs.YtngfalbabgpnnaaGreat

namespace Go.Proofs.YtngfalbabgpnnaaGreat
open Go.RowKit St

def ins {α : Type} (l : List α) (i : Nat) (b : α) : List α := l.take i ++ b :: l.drop i
theorem ins_length {α : Type} (l : List α) (i : Nat) (b : α) : (ins l i b).length = l.length + 1 := by
  simp only [ins, List.length_append, List.length_cons, List.length_take, List.length_drop]; omega

def waveNd (b z o : Int) : Nd := ⟨3, b, z, o, 0, 0, 0⟩
/-- What a handle stands for, n levels ahead of the end. -/
def St.wv (S : St) : Nat → Int → List Nat → Prop
  | 0, h, _ => h = 0
  | n + 1, h, l => (h = 0 ∧ l = []) ∨ (S.live h ∧ l ≠ [] ∧ ∃ b z o, S.node h = waveNd b z o ∧ S.br b (l.map fun s => s.testBit n) ∧ S.wv n z (l.filter fun s => !s.testBit n) ∧ S.wv n o (l.filter fun s => s.testBit n))

/-- The node of a row. -/
theorem wv_node {S : St} (W : S.WF) {n : Nat} {h : Int} {l : List Nat} (V : S.wv (n + 1) h l) :
    ∃ b z o, (S.node h).k0 = b ∧ (S.node h).k1 = z ∧ (S.node h).k2 = o ∧ S.br b (l.map fun s => s.testBit n) ∧ S.wv n z (l.filter fun s => !s.testBit n) ∧ S.wv n o (l.filter fun s => s.testBit n) := by
  rcases V with ⟨rfl, rfl⟩ | ⟨_, _, b, z, o, e, h1, h2, h3⟩
  · rw [(zero_free W).2.1]
    refine ⟨0, 0, 0, rfl, rfl, rfl, Or.inl ⟨rfl, rfl⟩, ?_, ?_⟩ <;> cases n <;> simp [St.wv]
  · rw [e]; exact ⟨b, z, o, rfl, rfl, rfl, h1, h2, h3⟩

theorem filter_at {α : Type} (p : α → Bool) : ∀ (l : List α) (i : Nat) (x : α), l[i]? = some x → p x = true → (l.filter p)[((l.map p).take i).count true]? = some x
  | [], i, x, h, _ => by simp at h
  | a :: r, 0, x, h, hp => by
    simp at h; subst h; simp [hp]
  | a :: r, i + 1, x, h, hp => by
    simp only [List.getElem?_cons_succ] at h
    have ih := filter_at p r i x h hp
    by_cases q : p a = true
    · simp [q]; simpa using ih
    · have q : p a = false := by simpa using q
      simp [q]; simpa using ih
theorem count_not (l : List Bool) : (l.map (!·)).count true = l.count false := by
  induction l with
  | nil => rfl
  | cons a r ih => cases a <;> simp [ih]

theorem shift_step (s n : Nat) : s / 2 ^ n = 2 * (s / 2 ^ (n + 1)) + (s.testBit n).toNat := by
  rw [Nat.testBit_eq_decide_div_mod_eq, Nat.pow_succ, ← Nat.div_div_eq_div_mul]
  by_cases q : s / 2 ^ n % 2 = 1
  · simp [q]; omega
  · have : s / 2 ^ n % 2 = 0 := by omega
    simp [this]; omega

theorem filter_ins {α : Type} (p : α → Bool) (l : List α) (i : Nat) (s : α) (hp : p s = true) : (ins l i s).filter p = ins (l.filter p) (((l.map p).take i).count true) s := by
  have e : ((l.map p).take i).count true = ((l.take i).filter p).length := by
    rw [← List.map_take]
    generalize l.take i = m
    induction m with
    | nil => rfl
    | cons a r ih => by_cases q : p a = true <;> simp [q, ih]
  have f : l.filter p = (l.take i).filter p ++ (l.drop i).filter p := by rw [← List.filter_append, List.take_append_drop]
  rw [e, f]
  unfold ins
  rw [List.take_left, List.drop_left, List.filter_append, List.filter_cons, if_pos hp]
theorem filter_ins_not {α : Type} (p : α → Bool) (l : List α) (i : Nat) (s : α) (hp : p s = false) : (ins l i s).filter p = l.filter p := by
  have f : l.filter p = (l.take i).filter p ++ (l.drop i).filter p := by rw [← List.filter_append, List.take_append_drop]
  rw [f]
  unfold ins
  rw [List.filter_append, List.filter_cons, if_neg (by simp [hp])]
theorem map_ins {α β : Type} (p : α → β) (l : List α) (i : Nat) (s : α) : (ins l i s).map p = ins (l.map p) i (p s) := by
  simp [ins, List.map_take, List.map_drop]
theorem ins_ne {α : Type} (l : List α) (i : Nat) (b : α) : ins l i b ≠ [] := by
  intro h; have := congrArg List.length h; rw [ins_length] at this; simp at this

theorem wv_kp {S S' : St} {f f' : Int → Nat} (h : Keeps S S') (H : S.Inv f) (H' : S'.Inv f') : ∀ {n : Nat} {x : Int} {l : List Nat}, (x ≠ 0 → S'.live x) → S.wv n x l → S'.wv n x l
  | 0, _, _, _, V => V
  | n + 1, x, l, v, V => by
    rcases V with V | ⟨hl, hne, b, z, o, e, h1, h2, h3⟩
    · exact Or.inl V
    · have x0 : x ≠ 0 := by have := (live.ne H.wf hl).1; omega
      have v := v x0
      have ex := h x hl.1 v.1
      have kl : ∀ k, k ≠ 0 → 0 < kc (S'.node x) k → S'.live k := fun k k0 hk => H'.kid_pos v.1 k0 hk
      rw [ex, e] at kl
      exact Or.inr ⟨v, hne, b, z, o, by rw [ex]; exact e, br_kp h H H' (fun q => kl b q (kc_pos.2 (by simp [waveNd]))) h1,
        wv_kp h H H' (fun q => kl z q (kc_pos.2 (by simp [waveNd]))) h2, wv_kp h H H' (fun q => kl o q (kc_pos.2 (by simp [waveNd]))) h3⟩

theorem filter_len {α : Type} (p : α → Bool) (l : List α) : (l.filter fun s => !p s).length + (l.filter fun s => p s).length = l.length := by
  induction l with
  | nil => rfl
  | cons a r ih => by_cases q : p a = true <;> simp [q] <;> omega

theorem cov_wv {S : St} : ∀ {n : Nat} {h : Int} {l : List Nat}, S.wv n h l → S.cov h (3 * n * l.length)
  | 0, h, l, V => by
    have : h = 0 := V
    subst this
    exact (cov_zero S).mono (Nat.zero_le _)
  | n + 1, h, l, V => by
    rcases V with ⟨rfl, rfl⟩ | ⟨hl, hne, b, z, o, e, h1, h2, h3⟩
    · exact (cov_zero S).mono (Nat.zero_le _)
    · have c1 := cov_br h1
      have c2 := cov_wv h2
      have c3 := cov_wv h3
      rw [List.length_map] at c1
      refine (cov_node (by rw [e]; exact c1) (by rw [e]; exact c2) (by rw [e]; exact c3) (by rw [e]; exact cov_zero S)).mono ?_
      have hp : 0 < l.length := List.length_pos_iff.2 hne
      have hs := filter_len (fun s : Nat => s.testBit n) l
      have e2 : 3 * (n + 1) * l.length = 3 * n * l.length + 3 * l.length := by rw [Nat.mul_add, Nat.add_mul]
      rw [e2, ← hs, Nat.mul_add (3 * n)]
      omega
end Go.Proofs.YtngfalbabgpnnaaGreat

namespace Go.Proofs.YtngfalbabgpnnaaGreat
open Go.RowKit

inductive LT where
  | item (a b : Nat)
  | join (x y : LT)

namespace LT
def items : LT → List (Nat × Nat)
  | item a b => [(a, b)]
  | join x y => x.items ++ y.items
def high : LT → Nat
  | item _ _ => 1
  | join x y => 1 + max x.high y.high
theorem len_pos (t : LT) : 1 ≤ t.items.length := by
  induction t with
  | item a b => exact Nat.le_refl _
  | join x y hx _ => simp only [items, List.length_append]; omega
theorem high_pos (t : LT) : 1 ≤ t.high := by cases t <;> simp [high] <;> omega
theorem high_le (t : LT) : t.high ≤ t.items.length := by
  induction t with
  | item a b => exact Nat.le_refl _
  | join x y hx hy => have := x.len_pos; have := y.len_pos; simp only [high, items, List.length_append]; omega
end LT

def itemNd (a b : Nat) : Nd := ⟨4, 0, 0, 0, 0, a, b⟩
def joinNd (hx hy : Int) (n : Nat) : Nd := ⟨5, hx, hy, 0, 0, n, 0⟩

namespace St
/-- A list's tree lies at a handle. -/
def lt (S : St) : Int → LT → Prop
  | h, .item a b => S.live h ∧ S.node h = itemNd a b ∧ a < 9223372036854775808 ∧ b < 9223372036854775808
  | h, .join x y => S.live h ∧ ∃ hx hy, S.node h = joinNd hx hy (x.items.length + y.items.length) ∧ S.lt hx x ∧ S.lt hy y
/-- What a handle stands for: 0 stands for the empty list. -/
def lr (S : St) (h : Int) (l : List (Nat × Nat)) : Prop := (h = 0 ∧ l = []) ∨ ∃ t, S.lt h t ∧ t.items = l
theorem lt.live {S : St} {h : Int} {t : LT} (H : S.lt h t) : S.live h := by cases t <;> exact H.1
theorem lr_len {S : St} (W : S.WF) {h : Int} {l : List (Nat × Nat)} (H : S.lr h l) : (h = 0 ↔ l = []) := by
  rcases H with ⟨rfl, rfl⟩ | ⟨t, h1, rfl⟩
  · simp
  · have a := (live.ne W h1.live).1
    have b := t.len_pos
    constructor
    · rintro rfl; omega
    · intro e; rw [e] at b; simp at b
theorem lt_kp {S S' : St} {f f' : Int → Nat} (h : Keeps S S') (H : S.Inv f) (H' : S'.Inv f') : ∀ {t : LT} {x : Int}, S'.live x → S.lt x t → S'.lt x t
  | .item _ _, x, v, b => ⟨v, by rw [h x b.1.1 v.1]; exact b.2.1, b.2.2⟩
  | .join _ _, x, v, b => by
    obtain ⟨hl, hx, hy, e, bx, by'⟩ := b
    have ex := h x hl.1 v.1
    have x0 : hx ≠ 0 := by have := (live.ne H.wf bx.live).1; omega
    have y0 : hy ≠ 0 := by have := (live.ne H.wf by'.live).1; omega
    exact ⟨v, hx, hy, by rw [ex]; exact e, lt_kp h H H' (H'.kid_pos v.1 x0 (by rw [ex, e]; exact kc_pos.2 (by simp [joinNd]))) bx,
      lt_kp h H H' (H'.kid_pos v.1 y0 (by rw [ex, e]; exact kc_pos.2 (by simp [joinNd]))) by'⟩
theorem lr_kp {S S' : St} {f f' : Int → Nat} (h : Keeps S S') (H : S.Inv f) (H' : S'.Inv f') {x : Int} {l : List (Nat × Nat)} (v : x ≠ 0 → S'.live x) (b : S.lr x l) : S'.lr x l := by
  rcases b with b | ⟨t, b, o⟩
  · exact Or.inl b
  · exact Or.inr ⟨t, lt_kp h H H' (v (by have := (live.ne H.wf b.live).1; omega)) b, o⟩
theorem cov_lt {S : St} : ∀ {t : LT} {h : Int}, S.lt h t → S.cov h (2 * t.items.length - 1)
  | .item _ _, h, b => by
    have := cov_node (S := S) (h := h) (m0 := 0) (m1 := 0) (m2 := 0) (m3 := 0) (by rw [b.2.1]; exact cov_zero S) (by rw [b.2.1]; exact cov_zero S) (by rw [b.2.1]; exact cov_zero S) (by rw [b.2.1]; exact cov_zero S)
    exact this.mono (by simp [LT.items])
  | .join x y, h, b => by
    obtain ⟨hl, hx, hy, e, bx, by'⟩ := b
    have := cov_node (S := S) (h := h) (m0 := 2 * x.items.length - 1) (m1 := 2 * y.items.length - 1) (m2 := 0) (m3 := 0) (by rw [e]; exact cov_lt bx) (by rw [e]; exact cov_lt by') (by rw [e]; exact cov_zero S) (by rw [e]; exact cov_zero S)
    exact this.mono (by have := x.len_pos; have := y.len_pos; simp only [LT.items, List.length_append]; omega)
theorem cov_lr {S : St} {h : Int} {l : List (Nat × Nat)} (b : S.lr h l) : S.cov h (2 * l.length) := by
  rcases b with ⟨rfl, rfl⟩ | ⟨t, b, rfl⟩
  · exact cov_zero S
  · exact (cov_lt b).mono (by omega)
/-- A live node of the list's tags. -/
def lRow (S : St) (h : Int) : Bool := S.live2 h 4 5
theorem lRow_item {S : St} {h : Int} {a b : Nat} (H : S.lt h (.item a b)) : S.lRow h = true := by
  obtain ⟨⟨h1, h2⟩, h3, _⟩ := H
  simp [lRow, live2, h1, h2, h3, itemNd]
theorem lRow_join {S : St} {h : Int} {x y : LT} (H : S.lt h (.join x y)) : S.lRow h = true := by
  obtain ⟨⟨h1, h2⟩, hx, hy, h3, _⟩ := H
  simp [lRow, live2, h1, h2, h3, joinNd]
theorem lRow_zero {S : St} (W : S.WF) : S.lRow 0 = false := by simp [lRow, live2, (zero_free W).1]
end St
end Go.Proofs.YtngfalbabgpnnaaGreat

namespace Go.Proofs.YtngfalbabgpnnaaGreat
open Go.RowKit

/-- The head's cells, laid for the walk. -/
theorem ArB.hc {w : World} {p bn bc bu : Nat} {v : Value} {S : St} (H : ArB w p bn bc bu v S) :
    w.cell? ⟨p, 0, none⟩ = some (.slice (some ⟨bn, 0, none⟩) (S.n + 1) (S.n + 1)) ∧ w.cell? ⟨p, 1, none⟩ = some (.slice (some ⟨bc, 0, none⟩) (S.n + 1) (S.n + 1)) ∧
    w.cell? ⟨p, 2, none⟩ = some (.slice (some ⟨bu, 0, none⟩) (S.n + 1) (S.n + 1)) ∧ w.cell? ⟨p, 3, none⟩ = some v ∧ w.cell? ⟨p, 4, none⟩ = some (.int .i64 S.busy) ∧ w.cell? ⟨p, 5, none⟩ = some (.int .i64 S.made) :=
  ⟨H.head.cell 0 (by omega), H.head.cell 1 (by omega), H.head.cell 2 (by omega), H.head.cell 3 (by omega), H.head.cell 4 (by omega), H.head.cell 5 (by omega)⟩
theorem ArB.hfz {w : World} {p bn bc bu : Nat} {v : Value} {S : St} (H : ArB w p bn bc bu v S) : ∀ i, w.frozen? ⟨p, i, none⟩ = false := fun i => H.head.frozen i

theorem ArB.nodeCells {w : World} {p bn bc bu : Nat} {v : Value} {S : St} (H : ArB w p bn bc bu v S) (k : Nat) (hk : k ≤ S.n) :
    w.cell? ⟨bn, k * 7, none⟩ = some (.int .i64 (S.node k).tag) ∧ w.cell? ⟨bn, k * 7 + 1, none⟩ = some (.int .i64 (S.node k).k0) ∧ w.cell? ⟨bn, k * 7 + 2, none⟩ = some (.int .i64 (S.node k).k1) ∧
    w.cell? ⟨bn, k * 7 + 3, none⟩ = some (.int .i64 (S.node k).k2) ∧ w.cell? ⟨bn, k * 7 + 4, none⟩ = some (.int .i64 (S.node k).k3) ∧ w.cell? ⟨bn, k * 7 + 5, none⟩ = some (.int .u64 (S.node k).a) ∧
    w.cell? ⟨bn, k * 7 + 6, none⟩ = some (.int .u64 (S.node k).b) := by
  have d : ∀ j, j < 7 → w.cell? ⟨bn, k * 7 + j, none⟩ = some ((S.node k).cell j) := fun j hj => by
    have := H.nodes.cell (k * 7 + j) (by omega)
    rwa [show (k * 7 + j) / 7 = k by omega, show (k * 7 + j) % 7 = j by omega] at this
  exact ⟨d 0 (by omega), d 1 (by omega), d 2 (by omega), d 3 (by omega), d 4 (by omega), d 5 (by omega), d 6 (by omega)⟩

theorem Size_calls (w : World) (p : Nat) (S : St) (H : Ar w p S) : Calls Tryz.prog 50 #[.pointer (some ⟨p, 0, none⟩)] w fun e w' => e = .returned (.int .i64 S.n) ∧ w = w' := by
  obtain ⟨⟨bn, bc, bu, v, H⟩, W⟩ := H
  obtain ⟨c0, c1, c2, c3, c4, c5⟩ := H.hc
  have hn := W.nle
  go_enter Tryz.func50, Tryz.ntmps50
  go_wp2
  go_ret
  exact ⟨by simp, rfl⟩

theorem Count_calls (w : World) (p : Nat) (S : St) (h : Int) (H : Ar w p S) : Calls Tryz.prog 48 #[.pointer (some ⟨p, 0, none⟩), .int .i64 h] w fun e w' => e = .returned (.int .i64 (S.cnt h)) ∧ w = w' := by
  have HS := Size_calls w p S H
  obtain ⟨⟨bn, bc, bu, v, H⟩, W⟩ := H
  obtain ⟨c0, c1, c2, c3, c4, c5⟩ := H.hc
  have hn := W.nle
  by_cases h1 : h < 1
  · have HO := hid (W.free h (W.out h (Or.inl h1))).2
    have k : ¬ (1 ≤ h) := by omega
    go_enter Tryz.func48, Tryz.ntmps48
    go_wp2
    go_ret
    exact ⟨by rw [HO.out]; rfl, rfl⟩
  · by_cases h2 : (S.n : Int) < h
    · have HO := hid (W.free h (W.out h (Or.inr h2))).2
      go_enter Tryz.func48, Tryz.ntmps48
      go_wp2_with (go_at_call 50; refine HS.mono ?_; rintro e w' ⟨rfl, rfl⟩)
      go_ret
      exact ⟨by rw [HO.out]; rfl, rfl⟩
    · obtain ⟨k, rfl⟩ := Int.eq_ofNat_of_zero_le (show 0 ≤ h by omega)
      have c6 := H.cnts.cell k (by omega)
      go_enter Tryz.func48, Tryz.ntmps48
      go_wp2_with (go_at_call 50; refine HS.mono ?_; rintro e w' ⟨rfl, rfl⟩)
      go_ret
      exact ⟨by simp, rfl⟩

theorem Used_calls (w : World) (p : Nat) (S : St) (H : Ar w p S) : Calls Tryz.prog 12 #[.pointer (some ⟨p, 0, none⟩)] w fun e w' => e = .returned (.int .i64 S.busy) ∧ w = w' := by
  obtain ⟨⟨bn, bc, bu, v, H⟩, W⟩ := H
  obtain ⟨c0, c1, c2, c3, c4, c5⟩ := H.hc
  go_enter Tryz.func12, Tryz.ntmps12
  go_wp2
  go_ret
  exact ⟨by simp, rfl⟩

theorem Pending_calls (w : World) (p : Nat) (S : St) (H : Ar w p S) : Calls Tryz.prog 24 #[.pointer (some ⟨p, 0, none⟩)] w fun e w' => e = .returned (.int .i64 S.wait.length) ∧ w = w' := by
  obtain ⟨⟨bn, bc, bu, v, H⟩, W⟩ := H
  obtain ⟨c0, c1, c2, c3, c4, c5⟩ := H.hc
  have hl := W.wait_len
  rcases H.waits with ⟨rfl, h0⟩ | ⟨g, off, cap, cur, T, rfl, _⟩
  · have HH := hid h0
    clear h0
    go_enter Tryz.func24, Tryz.ntmps24
    go_wp2
    go_ret
    exact ⟨by simp [HH.out], rfl⟩
  · go_enter Tryz.func24, Tryz.ntmps24
    go_wp2
    go_ret
    exact ⟨by simp, rfl⟩

theorem Keep_calls (w : World) (p : Nat) (S : St) (h : Int) (H : Ar w p S) : Calls Tryz.prog 77 #[.pointer (some ⟨p, 0, none⟩), .int .i64 h] w fun e w' => e = .returned (.int .i64 (S.keepE h)) ∧ Ar w' p (S.keep h) ∧ Fr [] p w w' := by
  have HC := Count_calls w p S h H
  have HA := H
  obtain ⟨⟨bn, bc, bu, v, H⟩, W⟩ := H
  obtain ⟨c0, c1, c2, c3, c4, c5⟩ := H.hc
  have hn := W.nle
  by_cases hc : S.cnt h = 0
  · have hcb : (S.cnt h == 0) = true := by simp [hc]
    have E1 := hid (show S.keepE h = 9 by simp [St.keepE, hc])
    have E2 := hid (show S.keep h = S by simp [St.keep, hc])
    clear hc
    go_enter Tryz.func77, Tryz.ntmps77
    go_wp2_with (go_at_call 48; refine HC.mono ?_; rintro e w' ⟨rfl, rfl⟩)
    go_ret
    exact ⟨by rw [E1.out]; rfl, by rw [E2.out]; exact HA, Fr.refl _ _ _⟩
  · have hcb : (S.cnt h == 0) = false := by simp [hc]
    have E1 := hid (show S.keepE h = 0 by simp [St.keepE, hc])
    have E2 := hid (show S.keep h = S.setCnt h (wrap64 (S.cnt h + 1)) by simp [St.keep, hc])
    have hr : ¬ (h < 1 ∨ (S.n : Int) < h) := fun q => hc (W.free h (W.out h q)).2
    clear hc
    obtain ⟨k, rfl⟩ := Int.eq_ofNat_of_zero_le (show 0 ≤ h by omega)
    have c6 := H.cnts.cell k (by omega)
    have f6 := H.cnts.frozen k
    have hk : (k : Int) < ((S.n + 1 : Nat) : Int) := by omega
    go_enter Tryz.func77, Tryz.ntmps77
    go_wp2_with (go_at_call 48; refine HC.mono ?_; rintro e w' ⟨rfl, rfl⟩)
    go_ret
    exact ⟨by rw [E1.out]; rfl, by rw [E2.out]; exact ⟨⟨_, _, _, _, H.setCnt k _⟩, E2.out ▸ W.keep k⟩, Fr.setFoot _ ((H.foot_iff _).2 (by simp)) (Ne.symm H.ne.2.1)⟩

end Go.Proofs.YtngfalbabgpnnaaGreat
